/-
  For every input the law 'LayoutPlaces' answers true, and the input reads as it did: the statement Rows.LayoutPlacesSaid, with no condition ahead of it.
-/
import Derived.Test.YtpilmdfnbfcmkaaGreatRows
import Derived.Test.YtpilmdfnbfcmkaaGreatFrame
import Derived.Test.YtpilmdfnbfcmkaaGreatArgs
import Derived.Test.YtpilmdfnbfcmkaaGreatLayPlaces
import Derived.Test.YtpilmdfnbfcmkaaGreatLayFact5
namespace Go.Proofs.YtpilmdfnbfcmkaaGreat.layoutPlaces
open Go.ChangeShapes Go.WideShapes Go.ChangeAt Go.RowKit Go.Joins
set_option linter.unusedVariables false

theorem own : ownKnob Tryz.prog.godebug = none := by kernel_rfl
theorem laidOut : laidOutB Tryz.prog = true := by kernel_rfl
theorem cells_int : Tryz.prog.cellsOf 3 = 1 := by kernel_rfl
theorem el_int {H : Type} {enc : TypeId × Value → H} {w : World} {base : Nat} {spare : Nat → Bool} {held : Bool} (n : Nat) (cs : List Value) (y : DataW H × List MemPlace) (h : DataW.trod enc Tryz.prog w base spare held n 3 cs = some y) : ∃ a : Int, cs = intC a ∧ True := by
  obtain ⟨k, e, _, wk⟩ := DataW.trod_int Tryz.underlying3 h
  exact ⟨k, e, trivial⟩
set_option maxRecDepth 100000 in
theorem lifted (os : Os) (started : os.Started) (H : Type) (enc : TypeId × Value → H) :
    ReturnsInHanded {} Tryz.checked os 3 .any (Rows.layoutPlacesSpec.pre6 enc Tryz.prog Tryz.f3 Rows.layoutPlacesRow.domain false) (Rows.layoutPlacesSpec.post enc Tryz.prog Tryz.f3 false true false false) := by
  refine returnsInHanded_of_change (C := Tryz.checked) own started (by kernel_rfl) Tryz.func3
    (ChangeSpec.witness6 (enc := enc) (C := Tryz.checked) false ⟨#[], #[.slice none 0 0, .slice none 0 0], []⟩ 8 (by kernel_rfl) (by kernel_rfl) (by kernel_rfl) (by kernel_rfl)) ?_
  intro W base args ds gs before hval0 hW hcnd hsz
  have hval : ∀ (j : Nat) t v, Tryz.f3.params[j]? = some t → args[j]? = some v → Value.okWide Tryz.prog W .any base t v := hval0
  have hW' := hW
  obtain ⟨p, q, hA0, hV, rfl, hfz, hnd⟩ := hW
  have hA : DataW.TrodAll enc Tryz.prog W 0 (fun _ => true) true Tryz.f3.params.toList args.toList ds p := hA0
  have hAk := hA
  rw [Tryz.params3] at hA hval
  obtain ⟨v0, vs0, d0, ds0, p0, q0, hargs, rfl, rfl, h0, r0⟩ := trodAll_cons hA
  obtain ⟨v1, vs1, d1, ds1, p1, q1, rfl, rfl, rfl, h1, r1⟩ := trodAll_cons r0
  obtain ⟨rfl, rfl, rfl⟩ := trodAll_nil r1
  obtain rfl : args = #[v0, v1] := by cases args; simp_all
  obtain ⟨rfl, rfl⟩ := trodVars_none hV
  simp only [List.append_nil] at hW' hAk
  obtain ⟨A0, c0, l0, e0, hl0, _, _⟩ := arg_rdl intC (fun _ => True) Tryz.underlying22 (by rw [cells_int]; decide) el_int (hval 0 22 v0 rfl rfl) h0
  obtain ⟨A1, c1, l1, e1, hl1, _, _⟩ := arg_rdl intC (fun _ => True) Tryz.underlying22 (by rw [cells_int]; decide) el_int (hval 1 22 v1 rfl rfl) h1
  rw [cells_int] at hl0 hl1
  have hw := places_core A0 A1 _ c0 _ c1 l0 l1 W hl0 hl1
  rw [← e0, ← e1] at hw
  refine hw.mono fun e W' ⟨he, hb⟩ => ?_
  exact ⟨_, he, law_post laidOut (by rw [Tryz.params3]; intro t ht; simp only [List.mem_cons, List.not_mem_nil, or_false] at ht; rcases ht with rfl | rfl <;> exact ⟨by kernel_rfl, of_decide_eq_true (by kernel_rfl)⟩) rfl hAk hW' rfl (by kernel_rfl) Tryz.underlying4 hb rfl⟩

theorem named : Tryz.prog.funcNamed Rows.layoutPlacesRow.func = some 3 := by kernel_rfl
theorem wrap : Tryz.f3.isWrapper Tryz.prog Rows.layoutPlacesRow.wrapper Rows.layoutPlacesRow.mainSum := by unfold Func.isWrapper; first | (rw [if_pos (by decide +kernel)]; kernel_rfl) | (rw [if_neg (by decide +kernel)]; exact ⟨rfl, rfl⟩)
theorem inst : Tryz.f3.isInstance Tryz.prog Rows.layoutPlacesRow.origin Rows.layoutPlacesRow.targs := of_decide_eq_true (by kernel_rfl)
theorem over : Rows.layoutPlacesRow.holds Tryz.pinned (OpenSpec.ofChange Rows.layoutPlacesSpec) :=
  OpenClaim.holds_of_wide 3 Tryz.f3 rfl rfl rfl rfl rfl rfl rfl ⟨rfl, rfl, rfl, rfl, rfl⟩ rfl rfl rfl rfl rfl named Tryz.func3 closed
    inst wrap
    (fun os started H enc _ => lifted os started H enc)

theorem proved : Rows.LayoutPlacesSaid :=
  over
end Go.Proofs.YtpilmdfnbfcmkaaGreat.layoutPlaces
