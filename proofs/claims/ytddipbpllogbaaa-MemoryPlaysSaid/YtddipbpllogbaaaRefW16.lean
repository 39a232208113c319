/-
  Load and Eval2 of both memories, joined.
-/
import Derived.Test.YtddipbpllogbaaaRefW7
import Derived.Test.YtddipbpllogbaaaRefW13
import Derived.Test.YtddipbpllogbaaaMachW9
import Derived.Test.YtddipbpllogbaaaPlaysRel2
namespace Go.Proofs.Ytddipbpllogbaaa
open Go.RowKit
set_option linter.unusedVariables false
set_option linter.unusedSimpArgs false

theorem rload_any {w : World} {base rm cap : Nat} {s : Value} {R : List RB} (h : RefS w base rm s cap R) (chunk k b l : Int) (hl : I64 l) :
    Calls Try.prog 16 #[.pointer (some ⟨rm, 0, none⟩), .int .i64 chunk, .agg #[.int .i64 k, .int .u64 b, .int .i64 l]] w fun e w' =>
      e = .returned (.tuple #[.agg #[.int .i64 (ptrV_ (rloadA R chunk ⟨k, b, l⟩)).k, .int .u64 (ptrV_ (rloadA R chunk ⟨k, b, l⟩)).b, .int .i64 (ptrV_ (rloadA R chunk ⟨k, b, l⟩)).l], .bool (rloadA R chunk ⟨k, b, l⟩).isSome]) ∧ Below w.heap.size w w' := by
  unfold rloadA
  cases hf : reachA R chunk ⟨k, b, l⟩ with
  | none => exact rload_none h chunk k b l hl hf
  | some Bo =>
    obtain ⟨B, off⟩ := Bo
    exact rload_yes h chunk k b l hl B off hf
theorem reval_any {w : World} {base rm cap : Nat} {s : Value} {R : List RB} (h : RefS w base rm s cap R) (op xk xb xl yk yb yl : Int) (ho : I64 op) (hx : U64 xb) (hy : U64 yb) (hxl : I64 xl) (hyl : I64 yl) (r : V × Bool)
    (hr : evalG (inR R ⟨xk, xb, xl⟩) (inR R ⟨yk, yb, yl⟩) (endsR R ⟨xk, xb, xl⟩) (endsR R ⟨yk, yb, yl⟩) op ⟨xk, xb, xl⟩ ⟨yk, yb, yl⟩ = r) :
    Calls Try.prog 20 #[.pointer (some ⟨rm, 0, none⟩), .int .i64 op, .agg #[.int .i64 xk, .int .u64 xb, .int .i64 xl], .agg #[.int .i64 yk, .int .u64 yb, .int .i64 yl]] w fun e w' =>
      e = .returned (.tuple #[.agg #[.int .i64 r.1.k, .int .u64 r.1.b, .int .i64 r.1.l], .bool r.2]) ∧ Below w.heap.size w w' :=
  reval_core rm op xk xb xl yk yb yl _ _ _ _ _ _ _ _ r w ho rfl hr (Lib.hid fun W hb => rin_any (h.next hb) xk xb xl hxl) (Lib.hid fun W hb => rin_any (h.next hb) yk yb yl hyl)
    (Lib.hid fun W hb => rends_any (h.next hb) xk xb xl hxl) (Lib.hid fun W hb => rends_any (h.next hb) yk yb yl hyl) (Lib.hid fun W => ref_eval2_any op xk xb xl yk yb yl ho hx hy W)
theorem peval_any {w : World} {base pm bm nb last cap : Nat} {M : Int → Option Bk} (h : MemS w base pm bm nb last cap M) (op xk xb xl yk yb yl : Int) (ho : I64 op) (hx : U64 xb) (hy : U64 yb) (hxl : I64 xl) (hyl : I64 yl) (r : V × Bool)
    (hr : evalG (inM M ⟨xk, xb, xl⟩) (inM M ⟨yk, yb, yl⟩) (nearM M ⟨xk, xb, xl⟩) (nearM M ⟨yk, yb, yl⟩) op ⟨xk, xb, xl⟩ ⟨yk, yb, yl⟩ = r) :
    Calls Try.prog 19 #[.pointer (some ⟨pm, 0, none⟩), .int .i64 op, .agg #[.int .i64 xk, .int .u64 xb, .int .i64 xl], .agg #[.int .i64 yk, .int .u64 yb, .int .i64 yl]] w fun e w' =>
      e = .returned (.tuple #[.agg #[.int .i64 r.1.k, .int .u64 r.1.b, .int .i64 r.1.l], .bool r.2]) ∧ Below w.heap.size w w' :=
  peval_core pm op xk xb xl yk yb yl _ _ _ _ _ _ _ _ r w ho rfl hr (Lib.hid fun W hb => in_any (h.next hb) xk xb xl hxl) (Lib.hid fun W hb => in_any (h.next hb) yk yb yl hyl)
    (Lib.hid fun W hb => near_any (h.next hb) xk xb xl hxl) (Lib.hid fun W hb => near_any (h.next hb) yk yb yl hyl) (Lib.hid fun W => eval2_any op xk xb xl yk yb yl ho hx hy W)
theorem Rel.eval {w : World} {base pm bm nb last cap : Nat} {M : Int → Option Bk} {R : List RB} (h : Rel M last R) (hm : MemS w base pm bm nb last cap M) (op : Int) (x y : V) (hx : U64 x.b) (hy : U64 y.b) :
    evalG (inM M x) (inM M y) (nearM M x) (nearM M y) op x y = evalG (inR R x) (inR R y) (endsR R x) (endsR R y) op x y := by
  have hs : ∀ k B, M k = some B → B.cells.length ≤ 16777216 := fun k B e => (hm.keys k B e).2.2.2.2.2.2.1
  unfold inM nearM inR endsR
  rw [h.at_ x hx hs 0 (.inl rfl), h.at_ y hy hs 0 (.inl rfl), h.at_ x hx hs 1 (.inr rfl), h.at_ y hy hs 1 (.inr rfl)]

end Go.Proofs.Ytddipbpllogbaaa
