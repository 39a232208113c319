/-
  For every input of bulk at most 1048576 the law 'CtypeMeets' answers true, and the input reads as it did: the tied card Rows.CtypeMeetsUptoCardSaid, with no condition ahead of it.
-/
import Derived.Test.YteeojgepgjndgaaDoorRows
import Derived.Test.YteeojgepgjndgaaDoorCards
import Derived.Test.YteeojgepgjndgaaDoorTie
import Derived.Test.YteeojgepgjndgaaDoorFrame
import Derived.Test.YteeojgepgjndgaaDoorArgs
import Derived.Test.YteeojgepgjndgaaDoorBulk
import Derived.Deep.DeepHandedRow
import Derived.JoinedCond
import Derived.Test.YteeojgepgjndgaaDoorMachWf
import Derived.Test.YteeojgepgjndgaaDoorCtypeTab
import Derived.Test.YteeojgepgjndgaaDoorCtypeWf
import Derived.Test.YteeojgepgjndgaaDoorCtypeMeets
import Derived.LaidMore
import Derived.SevenTiedAt
import Derived.Stop.Joined
namespace Go.Proofs.YteeojgepgjndgaaDoor.ctypeMeets
open Go.ChangeShapes Go.WideShapes Go.ChangeAt Go.RowKit Go.Joins
set_option linter.unusedVariables false

theorem own : ownKnob Tryd.prog.godebug = none := by kernel_rfl
theorem laidOut : laidOutB Tryd.prog = true := by kernel_rfl
theorem door_met (os : Os) (args : Array Value) : laidMetH Tryd.prog laidC ((World.doorLaid Tryd.prog 4000 os).forCall (fun _ _ => 0) ⟨#[], args, []⟩).memory :=
  laidMetH_of_parts3 (fuel := 8) (laidMet_of_run' 8 (by kernel_rfl) (by kernel_rfl)) (by kernel_rfl) (by kernel_rfl)
theorem reads (os : Os) {H : Type} (enc : TypeId × Value → H) : ∃ places, DataW.whole enc Tryd.prog ((World.doorLaid Tryd.prog 4000 os).forCall (fun _ _ => 0) ⟨#[], #[.agg #[.int .i64 0, .bool false, .slice none 0 0, .slice none 0 0, .bool false]], []⟩).memory Tryd.f6.params.toList Rows.ctypeMeetsSpec.vars false #[(.agg #[.int .i64 0, .bool false, .slice none 0 0, .slice none 0 0, .bool false] : Value)].toList 8 = some ([.agg [.lit (.int .i64 0), .lit (.bool false), .nil, .nil, .lit (.bool false)]], [], places) :=
  ⟨[], by kernel_rfl⟩
theorem shaped_door (os : Os) : ((World.doorLaid Tryd.prog 4000 os).forCall (fun _ _ => 0) ⟨#[], #[.agg #[.int .i64 0, .bool false, .slice none 0 0, .slice none 0 0, .bool false]], []⟩).Shaped Tryd.prog := World.shaped_of_RefB (by kernel_rfl) (by kernel_rfl)
theorem ok_door (os : Os) : Input.okWideB Tryd.prog ((World.doorLaid Tryd.prog 4000 os).forCall (fun _ _ => 0) ⟨#[], #[.agg #[.int .i64 0, .bool false, .slice none 0 0, .slice none 0 0, .bool false]], []⟩) 6 ⟨#[], #[.agg #[.int .i64 0, .bool false, .slice none 0 0, .slice none 0 0, .bool false]], []⟩ = true := by kernel_rfl

set_option maxRecDepth 100000 in
theorem lifted (os : Os) (started : os.Started) (H : Type) (enc : TypeId × Value → H) (F : Stop.Interp) :
    ReturnsInHanded {} Tryd.checked os 6 .any ((Rows.OpenSpec.upto Rows.ctypeMeetsSpec).preRow enc Tryd.prog Tryd.f6 Rows.ctypeMeetsUptoRow.domain false Rows.ctypeMeetsUptoRow.laid) (((Rows.OpenSpec.upto Rows.ctypeMeetsSpec).at F).post enc Tryd.prog Tryd.f6 false true false false) := by
  obtain ⟨places, hx⟩ := reads os enc
  refine returnsInHanded_of_row (C := Tryd.checked) (s := Rows.OpenSpec.upto Rows.ctypeMeetsSpec) own started (by kernel_rfl) Tryd.func6
    ⟨World.doorLaid Tryd.prog 4000 os, fun _ _ => 0, ⟨#[], #[.agg #[.int .i64 0, .bool false, .slice none 0 0, .slice none 0 0, .bool false]], []⟩, rfl, shaped_door os, (Input.okWide_of_okWideB (base := 0) (ok_door os)).1, (Input.okWide_of_okWideB (ok_door os)).2,
      OpenSpec.preRow_of_cond 8 hx (by kernel_rfl) (fun k hk => by cases hk; kernel_rfl) (by kernel_rfl) (door_met os _), by simp only [Assume.holds]; exact ⟨by simp, by simp, fun _ => Modest.zero, by simp, by simp⟩⟩ ?_
  intro W base args ds gs before hval0 hW _ hcond _ hL _ _
  have hk := hcond _ rfl
  have hval : ∀ (j : Nat) t v, Tryd.f6.params[j]? = some t → args[j]? = some v → Value.okWide Tryd.prog W .any base t v := hval0
  have hW' := hW
  obtain ⟨p, q, hA0, hV, rfl, hfz, hnd⟩ := hW
  have hA : DataW.TrodAll enc Tryd.prog W 0 (fun _ => true) true Tryd.f6.params.toList args.toList ds p := hA0
  have hAk := hA
  rw [Tryd.params6] at hA hval
  obtain ⟨v0, vs0, d0, ds0, p0, q0, hargs, rfl, rfl, h0, r0⟩ := trodAll_cons hA
  obtain ⟨rfl, rfl, rfl⟩ := trodAll_nil r0
  obtain rfl : args = #[v0] := by cases args; simp_all
  obtain ⟨rfl, rfl⟩ := trodVars_none hV
  simp only [List.append_nil] at hW' hAk hk
  obtain ⟨r, e0, g1, g2, g3⟩ := open_Rc (hval 0 53 v0 rfl rfl) h0
  have hb0 : Rows.uptoBulkAll [d0] ≤ 1048576 := of_decide_eq_true hk
  have hlen : r.rows.length ≤ 1048576 := by simp only [Rows.uptoBulkAll] at hb0; omega
  obtain ⟨A1, c1, e1⟩ := g1.form
  obtain ⟨A2, c2, e2⟩ := g2.1.form
  have hw := meets_core r.name r.union A1 A2 _ c1 _ c2 r.forget r W (tabW_of hL) ⟨g1, g2, hlen⟩ rfl rfl e1 e2 rfl
  rw [show (.agg #[.int .i64 r.name, .bool r.union, .slice A1 r.names.length c1, .slice A2 r.rows.length c2, .bool r.forget] : Value) = v0 by rw [e0, rcC, ← e1, ← e2]] at hw
  refine hw.mono fun e W' ⟨he, hb⟩ => ?_
  exact ⟨_, he, law_post laidOut (by rw [Tryd.params6]; intro t ht; simp only [List.mem_cons, List.not_mem_nil, or_false] at ht; subst ht; exact ⟨by kernel_rfl, of_decide_eq_true (by kernel_rfl)⟩) rfl hAk hW' rfl (by kernel_rfl) Tryd.underlying4 hb rfl⟩

theorem over : Rows.ctypeMeetsUptoRow.holds Tryd.pinned (Rows.OpenSpec.upto Rows.ctypeMeetsSpec) :=
  OpenClaim.holds_of_cond 6 Tryd.f6 rfl rfl rfl rfl rfl rfl rfl ⟨rfl, rfl, rfl, rfl, rfl⟩ rfl rfl rfl rfl rfl (by kernel_rfl) Tryd.func6 (by kernel_rfl)
    (of_decide_eq_true (by kernel_rfl)) (by unfold Func.isWrapper; first | (rw [if_pos (by decide +kernel)]; kernel_rfl) | (rw [if_neg (by decide +kernel)]; exact ⟨rfl, rfl⟩))
    (fun os started H enc _ F => by rw [OpenClaim.pre_eq_preRow]; exact lifted os started H enc F)

theorem proved : Rows.CtypeMeetsUptoCardSaid :=
  Claim7.holds_tied_plain_at .later [] _ _ _ _
    over (fun _ h => by cases h) (by kernel_rfl) (fun _ h => by cases h) ctypeMeetsUpto_row_tie rfl ⟨rfl, rfl⟩ (by kernel_rfl) rfl
    (fun f fn hf hfn => by
      obtain rfl : f = 6 := Option.some.inj ((show Tryd.prog.funcNamed "alembic/alembiclaw05.CtypeMeets" = some 6 by kernel_rfl).symm.trans hf) |>.symm
      obtain rfl : fn = Tryd.f6 := (Option.some.inj (Tryd.func6.symm.trans hfn)).symm
      exact ⟨by kernel_rfl, fun j t ht => by
        rw [Tryd.params6] at ht
        have hm : t ∈ [53] := by simpa using Array.mem_of_getElem? ht
        have hall : ([53].all fun u => !Tryd.prog.wantsStandIn u) = true := by kernel_rfl
        exact (show Tryd.prog.wantsStandIn t = false by simpa using List.all_eq_true.1 hall t hm)⟩)
    (by kernel_rfl)
end Go.Proofs.YteeojgepgjndgaaDoor.ctypeMeets
