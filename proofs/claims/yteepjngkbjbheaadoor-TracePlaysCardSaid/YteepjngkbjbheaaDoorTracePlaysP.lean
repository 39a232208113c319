/-
  For every input the law 'TracePlays' answers true, and the input reads as it did: the tied card Rows.TracePlaysCardSaid, with no condition ahead of it.
-/
import Derived.Test.YteepjngkbjbheaaDoorRows
import Derived.Test.YteepjngkbjbheaaDoorCards
import Derived.Test.YteepjngkbjbheaaDoorTie
import Derived.Test.YteepjngkbjbheaaDoorFrame
import Derived.Test.YteepjngkbjbheaaDoorArgs
import Derived.Test.YteepjngkbjbheaaDoorTraceWf
import Derived.Test.YteepjngkbjbheaaDoorTracePlays
import Derived.LaidMore
import Derived.SevenTiedAt
import Derived.Stop.Joined
namespace Go.Proofs.YteepjngkbjbheaaDoor.tracePlays
open Go.ChangeShapes Go.WideShapes Go.ChangeAt Go.RowKit Go.Joins
set_option linter.unusedVariables false

theorem own : ownKnob Tryd.prog.godebug = none := by kernel_rfl
theorem laidOut : laidOutB Tryd.prog = true := by kernel_rfl
/-- The tables that the row lists. -/
def laid : List (String × DataW Unit) := [("math/bits.deBruijn32tab", Rows.laid_math_bits_deBruijn32tab), ("math/bits.deBruijn64tab", Rows.laid_math_bits_deBruijn64tab), ("internal/strconv.uint64pow10", Rows.laid_internal_strconv_uint64pow10)]
theorem door_met (os : Os) (args : Array Value) : laidMetH Tryd.prog laid ((World.doorLaid Tryd.prog 4000 os).forCall (fun _ _ => 0) ⟨#[], args, []⟩).memory :=
  laidMetH_of_parts3 (fuel := 8) (laidMet_of_run' 8 (by kernel_rfl) (by kernel_rfl)) (by kernel_rfl) (by kernel_rfl)

theorem cells_i64 : Tryd.prog.cellsOf 2 = 1 := by kernel_rfl
theorem bytes_V : Tryd.prog.bytesOf 30 = 24 := by kernel_rfl
theorem bytes_i64 : Tryd.prog.bytesOf 2 = 8 := by kernel_rfl
section
variable {H : Type} {enc : TypeId × Value → H} {w : World} {base : Nat} {spare : Nat → Bool} {held : Bool}
theorem el_i64 (n : Nat) (cs : List Value) (y : DataW H × List MemPlace) (h : DataW.trod enc Tryd.prog w base spare held n 2 cs = some y) : ∃ a : Int, cs = longCells a ∧ I64 a := by
  obtain ⟨k, e, _, wk⟩ := DataW.trod_int Tryd.underlying2 h
  exact ⟨k, e, wf_i64 wk⟩
theorem el_int (n : Nat) (cs : List Value) (y : DataW H × List MemPlace) (h : DataW.trod enc Tryd.prog w base spare held n 3 cs = some y) : ∃ a : Int, cs = intCells a ∧ I64 a := by
  obtain ⟨k, e, _, wk⟩ := DataW.trod_int Tryd.underlying3 h
  exact ⟨k, e, wf_i64 wk⟩
set_option maxRecDepth 100000 in
theorem open_Sig {r : Reach} {b0 : Nat} {v : Value} {d : DataW H} {ps : List MemPlace}
    (hv : Value.okWide Tryd.prog w r b0 24 v) (h : DataW.Trod enc Tryd.prog w base spare held 24 v d ps) :
    ∃ (s : Value) (l : List Int) (k : Int), v = .agg #[s, .int .i64 k] ∧ RdL intCells 1 w s l := by
  obtain ⟨c0, c1, y0, y1, m, rfl, rfl, rfl, h0, h1⟩ := open_agg2 Tryd.underlying24 (by kernel_rfl) (by kernel_rfl) hv h
  obtain ⟨s, l, e0, hr, _⟩ := open_rdl intCells I64 Tryd.underlying22 (by rw [cells_int]; decide) el_int h0
  obtain ⟨k, e1, _, w1⟩ := DataW.trod_int Tryd.underlying3 h1
  rw [cells_int] at hr
  simp at e0 e1
  subst e0 e1
  exact ⟨c0, l, k, rfl, hr⟩
end

set_option maxRecDepth 100000 in
theorem lifted (os : Os) (started : os.Started) (H : Type) (enc : TypeId × Value → H) :
    ReturnsInHanded {} Tryd.checked os 3 .any (fun w args => (Rows.tracePlaysSpec.pre enc Tryd.prog Tryd.f3 [] false w args ∧ laidMetH Tryd.prog laid w) ∧ sizedMet enc Tryd.prog Tryd.f3 (OpenSpec.ofChange Rows.tracePlaysSpec) false w args)
      (Rows.tracePlaysSpec.post enc Tryd.prog Tryd.f3 false true false false) := by
  refine returnsInHanded_of_change_and (C := Tryd.checked) (X := fun w _ => laidMetH Tryd.prog laid w) (fun _ _ _ hh h => h.of_heap hh) own started (by kernel_rfl) Tryd.func3
    (ChangeSpec.witness_shaped (enc := enc) (C := Tryd.checked) (os := os) (X := fun w _ => laidMetH Tryd.prog laid w) false (World.doorLaid Tryd.prog 4000 os) #[.string ⟨#[]⟩, .agg #[.slice none 0 0, .int .i64 0], .slice none 0 0, .slice none 0 0, .int .i64 0] 8 rfl (World.shaped_of_RefB (by kernel_rfl) (by kernel_rfl)) (by kernel_rfl) (by kernel_rfl) (by kernel_rfl) (door_met os _)) ?_
  intro W base args ds gs before hval0 hW _ hS hL _
  have hval : ∀ (j : Nat) t v, Tryd.f3.params[j]? = some t → args[j]? = some v → Value.okWide Tryd.prog W .any base t v := hval0
  have hW' := hW
  obtain ⟨p, q, hA0, hV, rfl, hfz, hnd⟩ := hW
  have hA : DataW.TrodAll enc Tryd.prog W 0 (fun _ => true) true Tryd.f3.params.toList args.toList ds p := hA0
  have hAk := hA
  rw [Tryd.params3] at hA hval
  obtain ⟨v0, vs0, d0, ds0, p0, q0, hargs, rfl, rfl, h0, r0⟩ := trodAll_cons hA
  obtain ⟨v1, vs1, d1, ds1, p1, q1, rfl, rfl, rfl, h1, r1⟩ := trodAll_cons r0
  obtain ⟨v2, vs2, d2, ds2, p2, q2, rfl, rfl, rfl, h2, r2⟩ := trodAll_cons r1
  obtain ⟨v3, vs3, d3, ds3, p3, q3, rfl, rfl, rfl, h3, r3⟩ := trodAll_cons r2
  obtain ⟨v4, vs4, d4, ds4, p4, q4, rfl, rfl, rfl, h4, r4⟩ := trodAll_cons r3
  obtain ⟨rfl, rfl, rfl⟩ := trodAll_nil r4
  obtain rfl : args = #[v0, v1, v2, v3, v4] := by cases args; simp_all
  obtain ⟨rfl, rfl⟩ := trodVars_none hV
  simp only [List.append_nil] at hW' hAk
  rw [Tryd.params3] at hS
  obtain ⟨name, e0⟩ := okWide_string Tryd.underlying9 (hval 0 9 v0 rfl rfl)
  obtain ⟨sp, ks, r, e1, hks⟩ := open_Sig (hval 1 24 v1 rfl rfl) h1
  obtain ⟨A2, c2, l, e2, hl, _, hl2⟩ := arg_rdl vCells VOk Tryd.underlying25 (by rw [cells_V]; decide) (fun n cs y h => trod_V h) (hval 2 25 v2 rfl rfl) h2
  obtain ⟨A3, c3, sc, e3, hsc, hok, hsc2⟩ := arg_rdl longCells I64 Tryd.underlying26 (by rw [cells_i64]; decide) el_i64 (hval 3 26 v3 rfl rfl) h3
  obtain ⟨n, e4, _, _⟩ := open_int Tryd.underlying3 (hval 4 3 v4 rfl rfl) h4
  have hz2 := arg_room hS (j := 2) rfl rfl Tryd.underlying25 bytes_V hl2
  have hz3 := arg_room hS (j := 3) rfl rfl Tryd.underlying26 bytes_i64 hsc2
  rw [cells_V] at hl
  rw [cells_i64] at hsc
  obtain ⟨A1, c1, rfl⟩ := hks.form
  have hw := plays_core name A2 A1 A3 _ c2 c1 c3 l ks sc r n W hl hks hsc (by omega) (by omega) hok
  rw [← e0, ← e1, ← e2, ← e3, ← e4] at hw
  refine hw.mono fun e W' ⟨he, hb⟩ => ?_
  exact ⟨_, he, law_post laidOut (by rw [Tryd.params3]; intro t ht; simp only [List.mem_cons, List.not_mem_nil, or_false] at ht; rcases ht with rfl | rfl | rfl | rfl | rfl <;> exact ⟨by kernel_rfl, of_decide_eq_true (by kernel_rfl)⟩) rfl hAk hW' rfl (by kernel_rfl) Tryd.underlying4 hb rfl⟩

theorem over : Rows.tracePlaysRow.holds Tryd.pinned (OpenSpec.ofChange Rows.tracePlaysSpec) :=
  OpenClaim.holds_of_wide 3 Tryd.f3 rfl rfl rfl rfl rfl rfl rfl ⟨rfl, rfl, rfl, rfl, rfl⟩ rfl rfl rfl rfl rfl (by kernel_rfl) Tryd.func3 (by kernel_rfl)
    (of_decide_eq_true (by kernel_rfl)) (by unfold Func.isWrapper; first | (rw [if_pos (by decide +kernel)]; kernel_rfl) | (rw [if_neg (by decide +kernel)]; exact ⟨rfl, rfl⟩))
    (fun os started H enc _ => lifted os started H enc)

theorem proved : Rows.TracePlaysCardSaid :=
  Claim7.holds_tied_plain_at .later [] [.data, .data, .data] true (true, "2e5b95e1677c43c9dd050ccd7b99f53ef1b665ce99cfcceffdd5a3c16c4ae70c") false
    over (fun _ h => by cases h) (by kernel_rfl) (fun _ h => by cases h) tracePlays_row_tie rfl ⟨rfl, rfl⟩ (by kernel_rfl) rfl
    (fun f fn hf hfn => by
      obtain rfl : f = 3 := Option.some.inj ((show Tryd.prog.funcNamed "alembic/alembiclaw03.TracePlays" = some 3 by kernel_rfl).symm.trans hf) |>.symm
      obtain rfl : fn = Tryd.f3 := (Option.some.inj (Tryd.func3.symm.trans hfn)).symm
      exact ⟨by kernel_rfl, fun j t ht => by
        rw [Tryd.params3] at ht
        have hm : t ∈ [9, 24, 25, 26, 3] := by simpa using Array.mem_of_getElem? ht
        have hall : ([9, 24, 25, 26, 3].all fun u => !Tryd.prog.wantsStandIn u) = true := by kernel_rfl
        exact (show Tryd.prog.wantsStandIn t = false by simpa using List.all_eq_true.1 hall t hm)⟩)
    (by kernel_rfl)
end Go.Proofs.YteepjngkbjbheaaDoor.tracePlays
