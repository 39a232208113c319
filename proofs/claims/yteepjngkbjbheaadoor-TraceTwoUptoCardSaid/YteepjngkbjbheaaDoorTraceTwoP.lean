/-
  For every input of bulk at most 1048576 the law 'TraceTwo' answers true, and the input reads as it did: the tied card Rows.TraceTwoUptoCardSaid, with no condition ahead of it.
-/
import Derived.Test.YteepjngkbjbheaaDoorRows
import Derived.Test.YteepjngkbjbheaaDoorCards
import Derived.Test.YteepjngkbjbheaaDoorTie
import Derived.Test.YteepjngkbjbheaaDoorFrame
import Derived.Test.YteepjngkbjbheaaDoorArgs
import Derived.Test.YteepjngkbjbheaaDoorBulk
import Derived.Deep.DeepHandedRow
import Derived.JoinedCond
import Derived.Test.YteepjngkbjbheaaDoorTraceT10
import Derived.Test.YteepjngkbjbheaaDoorTraceT11
import Derived.Test.YteepjngkbjbheaaDoorTraceT12
import Derived.LaidMore
import Derived.SevenTiedAt
import Derived.Stop.Joined
namespace Go.Proofs.YteepjngkbjbheaaDoor.traceTwo
open Go.ChangeShapes Go.WideShapes Go.ChangeAt Go.RowKit Go.Joins
set_option linter.unusedVariables false

theorem own : ownKnob Tryd.prog.godebug = none := by kernel_rfl
theorem laidOut : laidOutB Tryd.prog = true := by kernel_rfl
theorem door_met (os : Os) (args : Array Value) : laidMetH Tryd.prog laidT ((World.doorLaid Tryd.prog 4000 os).forCall (fun _ _ => 0) ⟨#[], args, []⟩).memory :=
  laidMetH_of_parts3 (fuel := 8) (laidMet_of_run' 8 (by kernel_rfl) (by kernel_rfl)) (by kernel_rfl) (by kernel_rfl)
theorem reads (os : Os) {H : Type} (enc : TypeId × Value → H) : ∃ places, DataW.whole enc Tryd.prog ((World.doorLaid Tryd.prog 4000 os).forCall (fun _ _ => 0) ⟨#[], #[.agg #[.slice none 0 0, .int .i64 0, .int .i32 0, .int .i64 0], .agg #[.slice none 0 0, .int .i64 0, .int .i32 0, .int .i64 0]], []⟩).memory Tryd.f4.params.toList Rows.traceTwoSpec.vars false #[Value.agg #[.slice none 0 0, .int .i64 0, .int .i32 0, .int .i64 0], Value.agg #[.slice none 0 0, .int .i64 0, .int .i32 0, .int .i64 0]].toList 8 = some ([.agg [.nil, .lit (.int .i64 0), .lit (.int .i32 0), .lit (.int .i64 0)], .agg [.nil, .lit (.int .i64 0), .lit (.int .i32 0), .lit (.int .i64 0)]], [], places) :=
  ⟨[], by kernel_rfl⟩
theorem shaped_door (os : Os) : ((World.doorLaid Tryd.prog 4000 os).forCall (fun _ _ => 0) ⟨#[], #[.agg #[.slice none 0 0, .int .i64 0, .int .i32 0, .int .i64 0], .agg #[.slice none 0 0, .int .i64 0, .int .i32 0, .int .i64 0]], []⟩).Shaped Tryd.prog := World.shaped_of_RefB (by kernel_rfl) (by kernel_rfl)
theorem ok_door (os : Os) : Input.okWideB Tryd.prog ((World.doorLaid Tryd.prog 4000 os).forCall (fun _ _ => 0) ⟨#[], #[.agg #[.slice none 0 0, .int .i64 0, .int .i32 0, .int .i64 0], .agg #[.slice none 0 0, .int .i64 0, .int .i32 0, .int .i64 0]], []⟩) 4 ⟨#[], #[.agg #[.slice none 0 0, .int .i64 0, .int .i32 0, .int .i64 0], .agg #[.slice none 0 0, .int .i64 0, .int .i32 0, .int .i64 0]], []⟩ = true := by kernel_rfl

/-- The plain law: program and reference answer the same. -/
theorem walk (s1 s2 : Value) (a b : Out) (w : World) (h1 : RdEvs w s1 a.tr) (h2 : RdEvs w s2 b.tr) (hok : ∀ e ∈ a.tr, EvOk e) (hc : I32 a.code) (ht : TabT w) (hl : evsC a.tr ≤ 1099511627776) :
    Calls Tryd.prog 4 #[.agg #[s1, .int .i64 a.st, .int .i32 a.code, .int .i64 a.steps], .agg #[s2, .int .i64 b.st, .int .i32 b.code, .int .i64 b.steps]] w fun e w' => e = .returned (.bool true) ∧ Below w.heap.size w w' := by
  obtain ⟨b1, g1, i1⟩ := beg_of h1 h2
  obtain ⟨b2, g2, i2⟩ := beg_of h2 h1
  obtain ⟨c1, k1, j1⟩ := rbeg_of h1 h2
  obtain ⟨c2, k2, j2⟩ := rbeg_of h2 h1
  obtain ⟨s, g3, i3⟩ : ∃ b3 : Bool, (∀ W, Ext w W → Calls Tryd.prog 15 #[.agg #[s1, .int .i64 a.st, .int .i32 a.code, .int .i64 a.steps], .agg #[s2, .int .i64 b.st, .int .i32 b.code, .int .i64 b.steps]] W fun e w' => e = .returned (.bool b3) ∧ Below W.heap.size W w') ∧ (b3 = true ↔ SameO a b) := by
    by_cases h : SameO a b
    · exact ⟨true, fun W hW => boolp_yes (sameO_any _ _ _ _ W (h1.next hW) (h2.next hW)) h, by simp [h]⟩
    · exact ⟨false, fun W hW => boolp_no (sameO_any _ _ _ _ W (h1.next hW) (h2.next hW)) h, by simp [h]⟩
  obtain ⟨rs, k3, j3⟩ := rsameO_of h1 h2
  obtain ⟨st, k5, j5⟩ := rsamT_of h1 h2
  obtain ⟨r, g4, i4⟩ := ref_of h1 h2
  obtain rfl : b1 = c1 := Bool.eq_iff_iff.2 (i1.trans j1.symm)
  obtain rfl : s = rs := Bool.eq_iff_iff.2 (i3.trans j3.symm)
  have T1 : ∀ W, Ext w W → Calls Tryd.prog 19 #[.agg #[s1, .int .i64 a.st, .int .i32 a.code, .int .i64 a.steps]] W fun e w' => e = .returned (.string ⟨(outT a).toArray⟩) ∧ Below W.heap.size W w' := fun W hW => text_any _ _ W (h1.next hW) hok hc (ht.next hW) hl
  have T2 : ∀ W, Ext w W → Calls Tryd.prog 20 #[.agg #[s1, .int .i64 a.st, .int .i32 a.code, .int .i64 a.steps]] W fun e w' => e = .returned (.string ⟨(outT a).toArray⟩) ∧ Below W.heap.size W w' := fun W hW => rtext_any _ _ W (h1.next hW) hok hc hl
  have hr : r = if b.st < 0 ∨ 3 < b.st then false else if a.st = 1 then (if b.st = 1 then (decide (b.code = a.code) && st) else (decide (b.st ≠ 2) && c2)) else if a.st = 0 ∨ a.st = 2 then b1 || c2 else false := by
    rw [Bool.eq_iff_iff, i4]
    unfold RefinesO
    by_cases q1 : b.st < 0 ∨ 3 < b.st
    · rw [if_pos q1]
      simp
      intro _ _; omega
    · rw [if_neg q1]
      have q0 : 0 ≤ b.st ∧ b.st ≤ 3 := by omega
      by_cases q2 : a.st = 1
      · rw [if_pos q2]
        by_cases q3 : b.st = 1
        · rw [if_pos q3]
          have hS : SameO a b ↔ (b.code = a.code ∧ EqE a.tr b.tr) := ⟨fun h => ⟨h.2.1.symm, h.2.2⟩, fun h => ⟨by omega, h.1.symm, h.2⟩⟩
          simp [q2, q3, hS, j5]
        · rw [if_neg q3]
          simp [q2, q3, q0.1, q0.2, j2]
      · rw [if_neg q2]
        by_cases q4 : a.st = 0 ∨ a.st = 2
        · rw [if_pos q4]
          simp [q2, q4, q0.1, q0.2, j1, j2, Or.comm]
        · rw [if_neg q4]
          simp [q2, q4]
  obtain ⟨A1, c1', rfl⟩ := h1.1.form
  obtain ⟨A2, c2', rfl⟩ := h2.1.form
  refine two_core A1 A2 _ _ c1' c2' _ _ _ _ _ _ b1 s r _ w (Lib.hid g1) (Lib.hid k1) (Lib.hid g3) (Lib.hid k3) (Lib.hid g4) (Lib.hid fun W hW => ?_) (Lib.hid T1) (Lib.hid T2)
  exact rrefines_core A1 A2 _ _ c1' c2' _ _ _ _ _ _ b1 c2 st r W (Lib.hid fun W' h' => k1 W' (Ext.next hW h')) (Lib.hid fun W' h' => k2 W' (Ext.next hW h')) (Lib.hid fun W' h' => k5 W' (Ext.next hW h')) hr

set_option maxRecDepth 100000 in
theorem lifted (os : Os) (started : os.Started) (H : Type) (enc : TypeId × Value → H) (F : Stop.Interp) :
    ReturnsInHanded {} Tryd.checked os 4 .any ((Rows.OpenSpec.upto Rows.traceTwoSpec).preRow enc Tryd.prog Tryd.f4 Rows.traceTwoUptoRow.domain false Rows.traceTwoUptoRow.laid) (((Rows.OpenSpec.upto Rows.traceTwoSpec).at F).post enc Tryd.prog Tryd.f4 false true false false) := by
  obtain ⟨places, hx⟩ := reads os enc
  refine returnsInHanded_of_row (C := Tryd.checked) (s := Rows.OpenSpec.upto Rows.traceTwoSpec) own started (by kernel_rfl) Tryd.func4
    ⟨World.doorLaid Tryd.prog 4000 os, fun _ _ => 0, ⟨#[], #[.agg #[.slice none 0 0, .int .i64 0, .int .i32 0, .int .i64 0], .agg #[.slice none 0 0, .int .i64 0, .int .i32 0, .int .i64 0]], []⟩, rfl, shaped_door os, (Input.okWide_of_okWideB (base := 0) (ok_door os)).1, (Input.okWide_of_okWideB (ok_door os)).2,
      OpenSpec.preRow_of_cond 8 hx (by kernel_rfl) (fun k hk => by cases hk; kernel_rfl) (by kernel_rfl) (door_met os _), by simp only [Assume.holds]; exact ⟨by simp, by simp, fun _ => Modest.zero, by simp, by simp⟩⟩ ?_
  intro W base args ds gs before hval0 hW _ hcond _ hL _ _
  have hk := hcond _ rfl
  have hval : ∀ (j : Nat) t v, Tryd.f4.params[j]? = some t → args[j]? = some v → Value.okWide Tryd.prog W .any base t v := hval0
  have hW' := hW
  obtain ⟨p, q, hA0, hV, rfl, hfz, hnd⟩ := hW
  have hA : DataW.TrodAll enc Tryd.prog W 0 (fun _ => true) true Tryd.f4.params.toList args.toList ds p := hA0
  have hAk := hA
  rw [Tryd.params4] at hA hval
  obtain ⟨v0, vs0, d0, ds0, p0, q0, hargs, rfl, rfl, h0, r0⟩ := trodAll_cons hA
  obtain ⟨v1, vs1, d1, ds1, p1, q1, rfl, rfl, rfl, h1, r1⟩ := trodAll_cons r0
  obtain ⟨rfl, rfl, rfl⟩ := trodAll_nil r1
  obtain rfl : args = #[v0, v1] := by cases args; simp_all
  obtain ⟨rfl, rfl⟩ := trodVars_none hV
  simp only [List.append_nil] at hW' hAk hk
  have hb0 : Rows.uptoBulkAll [d0, d1] ≤ 1048576 := of_decide_eq_true hk
  have hd0 : Rows.uptoBulk d0 ≤ 1048576 := by simp only [Rows.uptoBulkAll] at hb0; omega
  obtain ⟨s0, a0, e0, w0, ok0, _, hc0, _, hl0⟩ := open_OB (hval 0 40 v0 rfl rfl) h0
  obtain ⟨s1, a1, e1, w1, _⟩ := open_O (hval 1 40 v1 rfl rfl) h1
  have hw := walk s0 s1 a0 a1 W w0 w1 ok0 hc0 (tabT_of hL) (by omega)
  rw [← e0, ← e1] at hw
  refine hw.mono fun e W' ⟨he, hb⟩ => ?_
  exact ⟨_, he, law_post laidOut (by rw [Tryd.params4]; intro t ht; simp only [List.mem_cons, List.not_mem_nil, or_false] at ht; rcases ht with rfl | rfl <;> exact ⟨by kernel_rfl, of_decide_eq_true (by kernel_rfl)⟩) rfl hAk hW' rfl (by kernel_rfl) Tryd.underlying4 hb rfl⟩

theorem over : Rows.traceTwoUptoRow.holds Tryd.pinned (Rows.OpenSpec.upto Rows.traceTwoSpec) :=
  OpenClaim.holds_of_cond 4 Tryd.f4 rfl rfl rfl rfl rfl rfl rfl ⟨rfl, rfl, rfl, rfl, rfl⟩ rfl rfl rfl rfl rfl (by kernel_rfl) Tryd.func4 (by kernel_rfl)
    (of_decide_eq_true (by kernel_rfl)) (by unfold Func.isWrapper; first | (rw [if_pos (by decide +kernel)]; kernel_rfl) | (rw [if_neg (by decide +kernel)]; exact ⟨rfl, rfl⟩))
    (fun os started H enc _ F => by rw [OpenClaim.pre_eq_preRow]; exact lifted os started H enc F)

theorem proved : Rows.TraceTwoUptoCardSaid :=
  Claim7.holds_tied_plain_at .later [] _ _ _ _
    over (fun _ h => by cases h) (by kernel_rfl) (fun _ h => by cases h) traceTwoUpto_row_tie rfl ⟨rfl, rfl⟩ (by kernel_rfl) rfl
    (fun f fn hf hfn => by
      obtain rfl : f = 4 := Option.some.inj ((show Tryd.prog.funcNamed "alembic/alembiclaw03.TraceTwo" = some 4 by kernel_rfl).symm.trans hf) |>.symm
      obtain rfl : fn = Tryd.f4 := (Option.some.inj (Tryd.func4.symm.trans hfn)).symm
      exact ⟨by kernel_rfl, fun j t ht => by
        rw [Tryd.params4] at ht
        have hm : t ∈ [40] := by simpa using Array.mem_of_getElem? ht
        have hall : ([40].all fun u => !Tryd.prog.wantsStandIn u) = true := by kernel_rfl
        exact (show Tryd.prog.wantsStandIn t = false by simpa using List.all_eq_true.1 hall t hm)⟩)
    (by kernel_rfl)
end Go.Proofs.YteepjngkbjbheaaDoor.traceTwo
