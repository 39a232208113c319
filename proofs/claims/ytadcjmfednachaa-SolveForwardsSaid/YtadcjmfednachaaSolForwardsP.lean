/-
  For every input the law 'SolveForwards' answers true, and the input reads as it did: the statement Rows.SolveForwardsSaid, with no condition ahead of it.
-/
import Derived.Test.YtadcjmfednachaaRows
import Derived.Test.YtadcjmfednachaaFrame
import Derived.Test.YtadcjmfednachaaSolWf
import Derived.Test.YtadcjmfednachaaSolW42
namespace Go.Proofs.Ytadcjmfednachaa.solveForwards
open Go.ChangeShapes Go.WideShapes Go.ChangeAt Go.RowKit Go.Joins
set_option linter.unusedVariables false

theorem own : ownKnob Try.prog.godebug = none := by kernel_rfl
theorem laidOut : laidOutB Try.prog = true := by kernel_rfl
set_option maxRecDepth 100000 in
theorem lifted (os : Os) (started : os.Started) (H : Type) (enc : TypeId × Value → H) :
    ReturnsInHanded {} Try.checked os 7 .any (Rows.solveForwardsSpec.pre6 enc Try.prog Try.f7 Rows.solveForwardsRow.domain false) (Rows.solveForwardsSpec.post enc Try.prog Try.f7 false true false false) := by
  refine returnsInHanded_of_change (C := Try.checked) own started (by kernel_rfl) Try.func7
    (ChangeSpec.witness6 (enc := enc) (C := Try.checked) false ⟨#[], #[.slice none 0 0, .int .i64 0, .slice none 0 0, .slice none 0 0, .slice none 0 0], []⟩ 8 (by kernel_rfl) (by kernel_rfl) (by kernel_rfl) (by kernel_rfl)) ?_
  intro W base args ds gs before hval0 hW hcnd hsz
  have hval : ∀ (j : Nat) t v, Try.f7.params[j]? = some t → args[j]? = some v → Value.okWide Try.prog W .any base t v := hval0
  have hW' := hW
  obtain ⟨p, q, hA0, hV, rfl, hfz, hnd⟩ := hW
  have hA : DataW.TrodAll enc Try.prog W 0 (fun _ => true) true Try.f7.params.toList args.toList ds p := hA0
  have hAk := hA
  rw [Try.params7] at hA hval
  obtain ⟨v0, vs0, d0, ds0, p0, q0, hargs, rfl, rfl, h0, r0⟩ := trodAll_cons hA
  obtain ⟨v1, vs1, d1, ds1, p1, q1, rfl, rfl, rfl, h1, r1⟩ := trodAll_cons r0
  obtain ⟨v2, vs2, d2, ds2, p2, q2, rfl, rfl, rfl, h2, r2⟩ := trodAll_cons r1
  obtain ⟨v3, vs3, d3, ds3, p3, q3, rfl, rfl, rfl, h3, r3⟩ := trodAll_cons r2
  obtain ⟨v4, vs4, d4, ds4, p4, q4, rfl, rfl, rfl, h4, r4⟩ := trodAll_cons r3
  obtain ⟨rfl, rfl, rfl⟩ := trodAll_nil r4
  obtain rfl : args = #[v0, v1, v2, v3, v4] := by cases args; simp_all
  obtain ⟨rfl, rfl⟩ := trodVars_none hV
  simp only [List.append_nil] at hW' hAk
  obtain ⟨A0, c0, l0, e0, hl0, hw0⟩ := open_mat (hval 0 22 v0 rfl rfl) h0
  obtain ⟨a1, e1, _, _, w1⟩ := open_int Try.underlying3 (hval 1 3 v1 rfl rfl) h1
  obtain ⟨A2, c2, l2, e2, hl2, hw2⟩ := open_row (hval 2 28 v2 rfl rfl) h2
  obtain ⟨A3, c3, l3, e3, hl3, hw3⟩ := open_mat (hval 3 22 v3 rfl rfl) h3
  obtain ⟨A4, c4, l4, e4, hl4, hw4⟩ := open_mat (hval 4 22 v4 rfl rfl) h4
  have hw := forwards_any A0 A2 A3 A4 l0.length l2.length l3.length l4.length c0 c2 c3 c4 l0 a1 l2 l3 l4 W hl0 hl2 hl3 hl4 hw2 hw3 hw4
  rw [← e0, ← e1, ← e2, ← e3, ← e4] at hw
  refine hw.mono fun e W' ⟨he, hb⟩ => ?_
  exact ⟨_, he, law_post laidOut (by rw [Try.params7]; intro t ht; simp only [List.mem_cons, List.not_mem_nil, or_false] at ht; rcases ht with rfl | rfl | rfl | rfl | rfl <;> exact ⟨by kernel_rfl, of_decide_eq_true (by kernel_rfl)⟩) rfl hAk hW' rfl (by kernel_rfl) Try.underlying4 hb rfl⟩

theorem over : Rows.solveForwardsRow.holds Try.pinned (OpenSpec.ofChange Rows.solveForwardsSpec) :=
  OpenClaim.holds_of_wide 7 Try.f7 rfl rfl rfl rfl rfl rfl rfl ⟨rfl, rfl, rfl, rfl, rfl⟩ rfl rfl rfl rfl rfl (by kernel_rfl) Try.func7 (by kernel_rfl)
    (of_decide_eq_true (by kernel_rfl)) (by unfold Func.isWrapper; first | (rw [if_pos (by decide +kernel)]; kernel_rfl) | (rw [if_neg (by decide +kernel)]; exact ⟨rfl, rfl⟩))
    (fun os started H enc _ => lifted os started H enc)

theorem proved : Rows.SolveForwardsSaid :=
  over
end Go.Proofs.Ytadcjmfednachaa.solveForwards
