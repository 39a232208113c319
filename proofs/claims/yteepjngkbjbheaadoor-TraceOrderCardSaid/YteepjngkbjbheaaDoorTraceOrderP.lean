/-
  For every input the law 'TraceOrder' answers true, and the input reads as it did: the tied card Rows.TraceOrderCardSaid, with no condition ahead of it.
-/
import Derived.Test.YteepjngkbjbheaaDoorRows
import Derived.Test.YteepjngkbjbheaaDoorCards
import Derived.Test.YteepjngkbjbheaaDoorTie
import Derived.Test.YteepjngkbjbheaaDoorFrame
import Derived.Test.YteepjngkbjbheaaDoorTraceWf
import Derived.Test.YteepjngkbjbheaaDoorTraceOrder
import Derived.LaidMore
import Derived.SevenTiedAt
import Derived.Stop.Joined
namespace Go.Proofs.YteepjngkbjbheaaDoor.traceOrder
open Go.ChangeShapes Go.WideShapes Go.ChangeAt Go.RowKit Go.Joins
set_option linter.unusedVariables false

theorem own : ownKnob Tryd.prog.godebug = none := by kernel_rfl
theorem laidOut : laidOutB Tryd.prog = true := by kernel_rfl
/-- The tables that the row lists. -/
def laid : List (String × DataW Unit) := [("math/bits.deBruijn32tab", Rows.laid_math_bits_deBruijn32tab), ("math/bits.deBruijn64tab", Rows.laid_math_bits_deBruijn64tab), ("internal/strconv.uint64pow10", Rows.laid_internal_strconv_uint64pow10)]
theorem door_met (os : Os) (args : Array Value) : laidMetH Tryd.prog laid ((World.doorLaid Tryd.prog 4000 os).forCall (fun _ _ => 0) ⟨#[], args, []⟩).memory :=
  laidMetH_of_parts3 (fuel := 8) (laidMet_of_run' 8 (by kernel_rfl) (by kernel_rfl)) (by kernel_rfl) (by kernel_rfl)

/-- The plain law: to begin is an order, to refine goes through. -/
theorem walk (s1 s2 s3 : Value) (a b c : Out) (w : World) (h1 : RdEvs w s1 a.tr) (h2 : RdEvs w s2 b.tr) (h3 : RdEvs w s3 c.tr) :
    Calls Tryd.prog 5 #[.agg #[s1, .int .i64 a.st, .int .i32 a.code, .int .i64 a.steps], .agg #[s2, .int .i64 b.st, .int .i32 b.code, .int .i64 b.steps], .agg #[s3, .int .i64 c.st, .int .i32 c.code, .int .i64 c.steps]] w fun e w' => e = .returned (.bool true) ∧ Below w.heap.size w w' := by
  obtain ⟨aa, g0, i0⟩ := beg_of h1 h1
  obtain ⟨ab, g1, i1⟩ := beg_of h1 h2
  obtain ⟨ba, g2, i2⟩ := beg_of h2 h1
  obtain ⟨bc, g3, i3⟩ := beg_of h2 h3
  obtain ⟨ac, g4, i4⟩ := beg_of h1 h3
  obtain ⟨r1, k1, j1⟩ := ref_of h1 h2
  obtain ⟨r2, k2, j2⟩ := ref_of h2 h3
  obtain ⟨r3, k3, j3⟩ := ref_of h1 h3
  obtain rfl : aa = true := i0.2 (BeginsE.refl _)
  obtain ⟨A1, c1, rfl⟩ := h1.1.form
  obtain ⟨A2, c2, rfl⟩ := h2.1.form
  obtain ⟨A3, c3, rfl⟩ := h3.1.form
  refine order_core A1 A2 A3 _ _ _ c1 c2 c3 _ _ _ _ _ _ _ _ _ ab ba bc ac r1 r2 r3 w (Lib.hid g0) (Lib.hid g1) (Lib.hid g2) (Lib.hid g3) (Lib.hid g4) (Lib.hid k1) (Lib.hid k2) (Lib.hid k3)
    (Lib.hid fun x y => Nat.le_antisymm (i1.1 x).1 (i2.1 y).1) (Lib.hid fun x y => i4.2 ((i1.1 x).trans (i3.1 y))) (Lib.hid fun x y z => j3.2 (refines_trans x (j1.1 y) (j2.1 z)))

set_option maxRecDepth 100000 in
theorem lifted (os : Os) (started : os.Started) (H : Type) (enc : TypeId × Value → H) :
    ReturnsInHanded {} Tryd.checked os 5 .any (fun w args => (Rows.traceOrderSpec.pre enc Tryd.prog Tryd.f5 [] false w args ∧ laidMetH Tryd.prog laid w) ∧ sizedMet enc Tryd.prog Tryd.f5 (OpenSpec.ofChange Rows.traceOrderSpec) false w args)
      (Rows.traceOrderSpec.post enc Tryd.prog Tryd.f5 false true false false) := by
  refine returnsInHanded_of_change_and (C := Tryd.checked) (X := fun w _ => laidMetH Tryd.prog laid w) (fun _ _ _ hh h => h.of_heap hh) own started (by kernel_rfl) Tryd.func5
    (ChangeSpec.witness_shaped (enc := enc) (C := Tryd.checked) (os := os) (X := fun w _ => laidMetH Tryd.prog laid w) false (World.doorLaid Tryd.prog 4000 os) #[.agg #[.slice none 0 0, .int .i64 0, .int .i32 0, .int .i64 0], .agg #[.slice none 0 0, .int .i64 0, .int .i32 0, .int .i64 0], .agg #[.slice none 0 0, .int .i64 0, .int .i32 0, .int .i64 0]] 8 rfl (World.shaped_of_RefB (by kernel_rfl) (by kernel_rfl)) (by kernel_rfl) (by kernel_rfl) (by kernel_rfl) (door_met os _)) ?_
  intro W base args ds gs before hval0 hW _ _ hL _
  have hval : ∀ (j : Nat) t v, Tryd.f5.params[j]? = some t → args[j]? = some v → Value.okWide Tryd.prog W .any base t v := hval0
  have hW' := hW
  obtain ⟨p, q, hA0, hV, rfl, hfz, hnd⟩ := hW
  have hA : DataW.TrodAll enc Tryd.prog W 0 (fun _ => true) true Tryd.f5.params.toList args.toList ds p := hA0
  have hAk := hA
  rw [Tryd.params5] at hA hval
  obtain ⟨v0, vs0, d0, ds0, p0, q0, hargs, rfl, rfl, h0, r0⟩ := trodAll_cons hA
  obtain ⟨v1, vs1, d1, ds1, p1, q1, rfl, rfl, rfl, h1, r1⟩ := trodAll_cons r0
  obtain ⟨v2, vs2, d2, ds2, p2, q2, rfl, rfl, rfl, h2, r2⟩ := trodAll_cons r1
  obtain ⟨rfl, rfl, rfl⟩ := trodAll_nil r2
  obtain rfl : args = #[v0, v1, v2] := by cases args; simp_all
  obtain ⟨rfl, rfl⟩ := trodVars_none hV
  simp only [List.append_nil] at hW' hAk
  obtain ⟨s0, a0, e0, w0, _⟩ := open_O (hval 0 40 v0 rfl rfl) h0
  obtain ⟨s1, a1, e1, w1, _⟩ := open_O (hval 1 40 v1 rfl rfl) h1
  obtain ⟨s2, a2, e2, w2, _⟩ := open_O (hval 2 40 v2 rfl rfl) h2
  have hw := walk s0 s1 s2 a0 a1 a2 W w0 w1 w2
  rw [← e0, ← e1, ← e2] at hw
  refine hw.mono fun e W' ⟨he, hb⟩ => ?_
  exact ⟨_, he, law_post laidOut (by rw [Tryd.params5]; intro t ht; simp only [List.mem_cons, List.not_mem_nil, or_false] at ht; rcases ht with rfl | rfl | rfl <;> exact ⟨by kernel_rfl, of_decide_eq_true (by kernel_rfl)⟩) rfl hAk hW' rfl (by kernel_rfl) Tryd.underlying4 hb rfl⟩

theorem over : Rows.traceOrderRow.holds Tryd.pinned (OpenSpec.ofChange Rows.traceOrderSpec) :=
  OpenClaim.holds_of_wide 5 Tryd.f5 rfl rfl rfl rfl rfl rfl rfl ⟨rfl, rfl, rfl, rfl, rfl⟩ rfl rfl rfl rfl rfl (by kernel_rfl) Tryd.func5 (by kernel_rfl)
    (of_decide_eq_true (by kernel_rfl)) (by unfold Func.isWrapper; first | (rw [if_pos (by decide +kernel)]; kernel_rfl) | (rw [if_neg (by decide +kernel)]; exact ⟨rfl, rfl⟩))
    (fun os started H enc _ => lifted os started H enc)

theorem proved : Rows.TraceOrderCardSaid :=
  Claim7.holds_tied_plain_at .later [] [.data, .data, .data] true (true, "2e5b95e1677c43c9dd050ccd7b99f53ef1b665ce99cfcceffdd5a3c16c4ae70c") false
    over (fun _ h => by cases h) (by kernel_rfl) (fun _ h => by cases h) traceOrder_row_tie rfl ⟨rfl, rfl⟩ (by kernel_rfl) rfl
    (fun f fn hf hfn => by
      obtain rfl : f = 5 := Option.some.inj ((show Tryd.prog.funcNamed "alembic/alembiclaw03.TraceOrder" = some 5 by kernel_rfl).symm.trans hf) |>.symm
      obtain rfl : fn = Tryd.f5 := (Option.some.inj (Tryd.func5.symm.trans hfn)).symm
      exact ⟨by kernel_rfl, fun j t ht => by
        rw [Tryd.params5] at ht
        have hm : t ∈ [40] := by simpa using Array.mem_of_getElem? ht
        have hall : ([40].all fun u => !Tryd.prog.wantsStandIn u) = true := by kernel_rfl
        exact (show Tryd.prog.wantsStandIn t = false by simpa using List.all_eq_true.1 hall t hm)⟩)
    (by kernel_rfl)
end Go.Proofs.YteepjngkbjbheaaDoor.traceOrder
