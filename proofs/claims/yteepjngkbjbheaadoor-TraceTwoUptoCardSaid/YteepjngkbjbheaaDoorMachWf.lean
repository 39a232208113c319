/-
  What it says that a number fits its kind; a value that came in, opened.
-/
import Derived.Test.YteepjngkbjbheaaDoorMachDefs
import Derived.Test.YteepjngkbjbheaaDoorProg
import Derived.ProofKit
import Derived.OpenShut
import Derived.Lib.SmallJoins
namespace Go.Proofs.YteepjngkbjbheaaDoor
open Go.RowKit Go.WideShapes Go.ChangeShapes Go.Joins
theorem wf_i64 {a : Int} (h : (Lit.int .i64 a).wf = true) : I64 a := by
  have e1 : IntKind.i64.min = -9223372036854775808 := by decide
  have e2 : IntKind.i64.max = 9223372036854775807 := by decide
  simp [Lit.wf, e1, e2] at h; exact h
theorem wf_u64 {a : Int} (h : (Lit.int .u64 a).wf = true) : U64 a := by
  have e1 : IntKind.u64.min = 0 := by decide
  have e2 : IntKind.u64.max = 18446744073709551615 := by decide
  simp [Lit.wf, e1, e2] at h; exact h
theorem wf_i32 {a : Int} (h : (Lit.int .i32 a).wf = true) : I32 a := by
  have e1 : IntKind.i32.min = -2147483648 := by decide
  have e2 : IntKind.i32.max = 2147483647 := by decide
  simp [Lit.wf, e1, e2] at h; exact h


set_option maxRecDepth 100000 in
theorem open_V {H : Type} {enc : TypeId × Value → H} {w : World} {base : Nat} {spare : Nat → Bool} {held : Bool} {r : Reach} {b0 : Nat} {v : Value} {d : DataW H} {ps : List MemPlace}
    (hv : Value.okWide Tryd.prog w r b0 30 v) (h : DataW.Trod enc Tryd.prog w base spare held 30 v d ps) :
    ∃ k b l : Int, v = .agg #[.int .i64 k, .int .u64 b, .int .i64 l] ∧ I64 k ∧ U64 b ∧ I64 l := by
  obtain ⟨c0, c1, c2, y0, y1, y2, m, rfl, rfl, rfl, h0, h1, h2⟩ := open_agg3 Tryd.underlying30 (by kernel_rfl) (by kernel_rfl) hv h
  obtain ⟨k, e0, _, w0⟩ := DataW.trod_int Tryd.underlying3 h0
  obtain ⟨b, e1, _, w1⟩ := DataW.trod_int Tryd.underlying28 h1
  obtain ⟨l, e2, _, w2⟩ := DataW.trod_int Tryd.underlying3 h2
  simp at e0 e1 e2
  subst e0 e1 e2
  exact ⟨k, b, l, rfl, wf_i64 w0, wf_u64 w1, wf_i64 w2⟩

end Go.Proofs.YteepjngkbjbheaaDoor
