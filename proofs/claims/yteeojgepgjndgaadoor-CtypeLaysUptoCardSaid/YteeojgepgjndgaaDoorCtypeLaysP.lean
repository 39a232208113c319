/-
  For every input of bulk at most 1048576 the law 'CtypeLays' answers true, and the input reads as it did: the tied card Rows.CtypeLaysUptoCardSaid, with no condition ahead of it.
-/
import Derived.Test.YteeojgepgjndgaaDoorRows
import Derived.Test.YteeojgepgjndgaaDoorCards
import Derived.Test.YteeojgepgjndgaaDoorTie
import Derived.Test.YteeojgepgjndgaaDoorFrame
import Derived.Test.YteeojgepgjndgaaDoorArgs
import Derived.Test.YteeojgepgjndgaaDoorBulk
import Derived.Deep.DeepHandedRow
import Derived.JoinedCond
import Derived.Test.YteeojgepgjndgaaDoorMachWf
import Derived.Test.YteeojgepgjndgaaDoorCtypeTab
import Derived.Test.YteeojgepgjndgaaDoorCtypeWf
import Derived.Test.YteeojgepgjndgaaDoorCtypeLays
import Derived.LaidMore
import Derived.SevenTiedAt
import Derived.Stop.Joined
namespace Go.Proofs.YteeojgepgjndgaaDoor.ctypeLays
open Go.ChangeShapes Go.WideShapes Go.ChangeAt Go.RowKit Go.Joins
set_option linter.unusedVariables false

theorem own : ownKnob Tryd.prog.godebug = none := by kernel_rfl
theorem laidOut : laidOutB Tryd.prog = true := by kernel_rfl
theorem door_met (os : Os) (args : Array Value) : laidMetH Tryd.prog laidC ((World.doorLaid Tryd.prog 4000 os).forCall (fun _ _ => 0) ⟨#[], args, []⟩).memory :=
  laidMetH_of_parts3 (fuel := 8) (laidMet_of_run' 8 (by kernel_rfl) (by kernel_rfl)) (by kernel_rfl) (by kernel_rfl)
theorem reads (os : Os) {H : Type} (enc : TypeId × Value → H) : ∃ places, DataW.whole enc Tryd.prog ((World.doorLaid Tryd.prog 4000 os).forCall (fun _ _ => 0) ⟨#[], #[.slice none 0 0, .slice none 0 0, .int .i64 0], []⟩).memory Tryd.f3.params.toList Rows.ctypeLaysSpec.vars false #[Value.slice none 0 0, Value.slice none 0 0, Value.int .i64 0].toList 8 = some ([.nil, .nil, .lit (.int .i64 0)], [], places) :=
  ⟨[], by kernel_rfl⟩
theorem shaped_door (os : Os) : ((World.doorLaid Tryd.prog 4000 os).forCall (fun _ _ => 0) ⟨#[], #[.slice none 0 0, .slice none 0 0, .int .i64 0], []⟩).Shaped Tryd.prog := World.shaped_of_RefB (by kernel_rfl) (by kernel_rfl)
theorem ok_door (os : Os) : Input.okWideB Tryd.prog ((World.doorLaid Tryd.prog 4000 os).forCall (fun _ _ => 0) ⟨#[], #[.slice none 0 0, .slice none 0 0, .int .i64 0], []⟩) 3 ⟨#[], #[.slice none 0 0, .slice none 0 0, .int .i64 0], []⟩ = true := by kernel_rfl

set_option maxRecDepth 100000 in
theorem lifted (os : Os) (started : os.Started) (H : Type) (enc : TypeId × Value → H) (F : Stop.Interp) :
    ReturnsInHanded {} Tryd.checked os 3 .any ((Rows.OpenSpec.upto Rows.ctypeLaysSpec).preRow enc Tryd.prog Tryd.f3 Rows.ctypeLaysUptoRow.domain false Rows.ctypeLaysUptoRow.laid) (((Rows.OpenSpec.upto Rows.ctypeLaysSpec).at F).post enc Tryd.prog Tryd.f3 false true false false) := by
  obtain ⟨places, hx⟩ := reads os enc
  refine returnsInHanded_of_row (C := Tryd.checked) (s := Rows.OpenSpec.upto Rows.ctypeLaysSpec) own started (by kernel_rfl) Tryd.func3
    ⟨World.doorLaid Tryd.prog 4000 os, fun _ _ => 0, ⟨#[], #[.slice none 0 0, .slice none 0 0, .int .i64 0], []⟩, rfl, shaped_door os, (Input.okWide_of_okWideB (base := 0) (ok_door os)).1, (Input.okWide_of_okWideB (ok_door os)).2,
      OpenSpec.preRow_of_cond 8 hx (by kernel_rfl) (fun k hk => by cases hk; kernel_rfl) (by kernel_rfl) (door_met os _), by simp only [Assume.holds]; exact ⟨by simp, by simp, fun _ => Modest.zero, by simp, by simp⟩⟩ ?_
  intro W base args ds gs before hval0 hW _ hcond _ hL _ _
  have hk := hcond _ rfl
  have hval : ∀ (j : Nat) t v, Tryd.f3.params[j]? = some t → args[j]? = some v → Value.okWide Tryd.prog W .any base t v := hval0
  have hW' := hW
  obtain ⟨p, q, hA0, hV, rfl, hfz, hnd⟩ := hW
  have hA : DataW.TrodAll enc Tryd.prog W 0 (fun _ => true) true Tryd.f3.params.toList args.toList ds p := hA0
  have hAk := hA
  rw [Tryd.params3] at hA hval
  obtain ⟨v0, vs0, d0, ds0, p0, q0, hargs, rfl, rfl, h0, r0⟩ := trodAll_cons hA
  obtain ⟨v1, vs1, d1, ds1, p1, q1, rfl, rfl, rfl, h1, r1⟩ := trodAll_cons r0
  obtain ⟨v2, vs2, d2, ds2, p2, q2, rfl, rfl, rfl, h2, r2⟩ := trodAll_cons r1
  obtain ⟨rfl, rfl, rfl⟩ := trodAll_nil r2
  obtain rfl : args = #[v0, v1, v2] := by cases args; simp_all
  obtain ⟨rfl, rfl⟩ := trodVars_none hV
  simp only [List.append_nil] at hW' hAk hk
  have hb0 : Rows.uptoBulkAll [d0, d1, d2] ≤ 1048576 := of_decide_eq_true hk
  have hd0 : Rows.uptoBulk d0 ≤ 1048576 := by simp only [Rows.uptoBulkAll] at hb0; omega
  obtain ⟨A0, c0, l0, e0, hl0, ok0⟩ := open_recs (hval 0 22 v0 rfl rfl) h0
  obtain ⟨A1, c1, l1, e1, hl1, ok1, _⟩ := arg_rdl intC I64 Tryd.underlying23 (by rw [cells_i]; decide) el_int (hval 1 23 v1 rfl rfl) h1
  obtain ⟨n, e2, _, _⟩ := open_int Tryd.underlying3 (hval 2 3 v2 rfl rfl) h2
  rw [cells_i] at hl1
  have hw := lays_core l0 A0 _ c0 l1 A1 _ c1 n W (tabW_of hL) hl0 (fun r hr => ⟨(ok0 r hr).1, (ok0 r hr).2.1, Nat.le_trans (ok0 r hr).2.2 hd0⟩) ok1 hl1
  rw [← e0, ← e1, ← e2] at hw
  refine hw.mono fun e W' ⟨he, hb⟩ => ?_
  exact ⟨_, he, law_post laidOut (by rw [Tryd.params3]; intro t ht; simp only [List.mem_cons, List.not_mem_nil, or_false] at ht; rcases ht with rfl | rfl | rfl <;> exact ⟨by kernel_rfl, of_decide_eq_true (by kernel_rfl)⟩) rfl hAk hW' rfl (by kernel_rfl) Tryd.underlying4 hb rfl⟩

theorem over : Rows.ctypeLaysUptoRow.holds Tryd.pinned (Rows.OpenSpec.upto Rows.ctypeLaysSpec) :=
  OpenClaim.holds_of_cond 3 Tryd.f3 rfl rfl rfl rfl rfl rfl rfl ⟨rfl, rfl, rfl, rfl, rfl⟩ rfl rfl rfl rfl rfl (by kernel_rfl) Tryd.func3 (by kernel_rfl)
    (of_decide_eq_true (by kernel_rfl)) (by unfold Func.isWrapper; first | (rw [if_pos (by decide +kernel)]; kernel_rfl) | (rw [if_neg (by decide +kernel)]; exact ⟨rfl, rfl⟩))
    (fun os started H enc _ F => by rw [OpenClaim.pre_eq_preRow]; exact lifted os started H enc F)

theorem proved : Rows.CtypeLaysUptoCardSaid :=
  Claim7.holds_tied_plain_at .later [] _ _ _ _
    over (fun _ h => by cases h) (by kernel_rfl) (fun _ h => by cases h) ctypeLaysUpto_row_tie rfl ⟨rfl, rfl⟩ (by kernel_rfl) rfl
    (fun f fn hf hfn => by
      obtain rfl : f = 3 := Option.some.inj ((show Tryd.prog.funcNamed "alembic/alembiclaw05.CtypeLays" = some 3 by kernel_rfl).symm.trans hf) |>.symm
      obtain rfl : fn = Tryd.f3 := (Option.some.inj (Tryd.func3.symm.trans hfn)).symm
      exact ⟨by kernel_rfl, fun j t ht => by
        rw [Tryd.params3] at ht
        have hm : t ∈ [22, 23, 3] := by simpa using Array.mem_of_getElem? ht
        have hall : ([22, 23, 3].all fun u => !Tryd.prog.wantsStandIn u) = true := by kernel_rfl
        exact (show Tryd.prog.wantsStandIn t = false by simpa using List.all_eq_true.1 hall t hm)⟩)
    (by kernel_rfl)
end Go.Proofs.YteeojgepgjndgaaDoor.ctypeLays
