/-
  fixed() of layer 5: true.
-/
import Derived.Test.YteeojgepgjndgaaDoorCtypeW21
import Derived.Test.YteeojgepgjndgaaDoorCtypeW18
import Derived.Test.YteeojgepgjndgaaDoorCtypeW7
import Derived.Test.YteeojgepgjndgaaDoorCtypeW5
namespace Go.Proofs.YteeojgepgjndgaaDoor
open Go.RowKit
set_option linter.unusedVariables false
set_option linter.unusedSimpArgs false

def fxIn : List Fd := [⟨⟨#[99]⟩, .num 1 false, 0⟩, ⟨⟨#[110]⟩, .num 4 false, 0⟩, ⟨⟨#[100]⟩, .flt, 0⟩]
def fxOut : List Fd := [⟨⟨#[99]⟩, .num 1 false, 0⟩, ⟨⟨#[110]⟩, .num 4 false, 4⟩, ⟨⟨#[100]⟩, .flt, 8⟩]
def fxLy (sv : Value) : Ly := ⟨⟨#[115]⟩, false, sv, fxOut, 16, 8⟩
theorem fx_rd (w : World) : RdFs (w.alloc (.cells #[.string ⟨#[99]⟩, .int .i64 2, .int .i64 1, .int .i64 0, .bool false, .string ⟨#[]⟩, .slice none 0 0, .int .i64 0, .string ⟨#[110]⟩, .int .i64 2, .int .i64 4, .int .i64 0, .bool false, .string ⟨#[]⟩, .slice none 0 0, .int .i64 0, .string ⟨#[100]⟩, .int .i64 3, .int .i64 0, .int .i64 0, .bool false, .string ⟨#[]⟩, .slice none 0 0, .int .i64 0] 59)) (.slice (some ⟨w.heap.size, 0, none⟩) 3 3) fxIn := by
  refine ⟨⟨_, 3, rfl, Nat.le_refl _, by decide, fun _ => ⟨_, 0, rfl, by simp, fun k a ha j v hv => ?_⟩⟩, fun f hf => ?_⟩
  · have hb := cells_of_block (heap_alloc_new w (.cells #[.string ⟨#[99]⟩, .int .i64 2, .int .i64 1, .int .i64 0, .bool false, .string ⟨#[]⟩, .slice none 0 0, .int .i64 0, .string ⟨#[110]⟩, .int .i64 2, .int .i64 4, .int .i64 0, .bool false, .string ⟨#[]⟩, .slice none 0 0, .int .i64 0, .string ⟨#[100]⟩, .int .i64 3, .int .i64 0, .int .i64 0, .bool false, .string ⟨#[]⟩, .slice none 0 0, .int .i64 0] 59))
    rw [hb.1]
    have key : ∀ k : Nat, k < 3 → ∀ j : Nat, j < 8 → ∀ a, fxIn[k]? = some a → (#[.string ⟨#[99]⟩, .int .i64 2, .int .i64 1, .int .i64 0, .bool false, .string ⟨#[]⟩, .slice none 0 0, .int .i64 0, .string ⟨#[110]⟩, .int .i64 2, .int .i64 4, .int .i64 0, .bool false, .string ⟨#[]⟩, .slice none 0 0, .int .i64 0, .string ⟨#[100]⟩, .int .i64 3, .int .i64 0, .int .i64 0, .bool false, .string ⟨#[]⟩, .slice none 0 0, .int .i64 0] : Array Value)[0 + k * 8 + j]? = (fdC a)[j]? := by
      intro k hk j hj a ha
      have hk' : k = 0 ∨ k = 1 ∨ k = 2 := by omega
      have hj' : j = 0 ∨ j = 1 ∨ j = 2 ∨ j = 3 ∨ j = 4 ∨ j = 5 ∨ j = 6 ∨ j = 7 := by omega
      rcases hk' with rfl | rfl | rfl <;> (simp [fxIn] at ha; subst ha) <;> rcases hj' with rfl | rfl | rfl | rfl | rfl | rfl | rfl | rfl <;> rfl
    have hk : k < 3 := by
      rcases Nat.lt_or_ge k 3 with h | h
      · exact h
      · rw [List.getElem?_eq_none (by simpa [fxIn] using h)] at ha; cases ha
    have hj : j < 8 := by
      rcases Nat.lt_or_ge j 8 with h | h
      · exact h
      · rw [List.getElem?_eq_none (by rw [fdC_len]; exact h)] at hv; cases hv
    rw [key k hk j hj a ha]
    exact hv
  · simp [fxIn] at hf
    rcases hf with rfl | rfl | rfl <;> simp [RdT]
theorem fx_lay : layF false [] fxIn = .ok (16, 8, fxOut) := by
  simp [layF, layGo, fxIn, fxOut, complete, isSz, upTo, ByteArray.toList_eq]
  kernel_rfl
def FxLay (w : World) (e : Ending) (w' : World) : Prop := ∃ g o c, e = .returned (.tuple #[.agg #[.string ⟨#[115]⟩, .bool false, .slice (some ⟨g, o, none⟩) 3 c, .int .i64 16, .int .i64 8], .int .i64 (-1), .int .i64 0]) ∧ RdFs w' (.slice (some ⟨g, o, none⟩) 3 c) fxOut ∧ Below w.heap.size w w' ∧ g < w'.heap.size ∧ w'.cell? ⟨g, o + 15, none⟩ = some (.int .i64 4)
theorem lay_fixed (w : World) : Calls Tryd.prog 34 #[.string ⟨#[115]⟩, .bool false, .slice (some ⟨w.heap.size, 0, none⟩) 3 3, .slice none 0 0] (w.alloc (.cells #[.string ⟨#[99]⟩, .int .i64 2, .int .i64 1, .int .i64 0, .bool false, .string ⟨#[]⟩, .slice none 0 0, .int .i64 0, .string ⟨#[110]⟩, .int .i64 2, .int .i64 4, .int .i64 0, .bool false, .string ⟨#[]⟩, .slice none 0 0, .int .i64 0, .string ⟨#[100]⟩, .int .i64 3, .int .i64 0, .int .i64 0, .bool false, .string ⟨#[]⟩, .slice none 0 0, .int .i64 0] 59)) (FxLay (w.alloc (.cells #[.string ⟨#[99]⟩, .int .i64 2, .int .i64 1, .int .i64 0, .bool false, .string ⟨#[]⟩, .slice none 0 0, .int .i64 0, .string ⟨#[110]⟩, .int .i64 2, .int .i64 4, .int .i64 0, .bool false, .string ⟨#[]⟩, .slice none 0 0, .int .i64 0, .string ⟨#[100]⟩, .int .i64 3, .int .i64 0, .int .i64 0, .bool false, .string ⟨#[]⟩, .slice none 0 0, .int .i64 0] 59))) := by
  refine (lay_any ⟨#[115]⟩ false _ (.slice none 0 0) fxIn [] _ (fun y hy => by cases hy) (fx_rd w) ⟨RdL.nil _ _ _, fun y hy => by cases hy⟩ (fun f hf => ?_) (by decide)).mono ?_
  · simp [fxIn] at hf
    rcases hf with rfl | rfl | rfl <;> decide
  · rintro e w' (⟨i, c, h, _⟩ | ⟨S, A, out, sv, h, rfl, hrd, _, hb⟩)
    · rw [fx_lay] at h; cases h
    · rw [fx_lay] at h
      injection h with h
      injection h with h1 h
      injection h with h2 h3
      subst h1 h2 h3
      obtain ⟨g, o, c, rfl, _, _, hlt, hc⟩ := hrd.1.some_ (by decide)
      exact ⟨g, o, c, rfl, hrd, hb, hlt, hc 1 _ rfl 7 _ rfl⟩

theorem fx_known (w : World) (g o c : Nat) (h : RdFs w (.slice (some ⟨g, o, none⟩) 3 c) fxOut) : RdLs ((w.alloc (.cells #[.string ⟨#[115]⟩, .bool false, .slice (some ⟨g, o, none⟩) 3 c, .int .i64 16, .int .i64 8] 36)).alloc (.cells #[.string ⟨#[115]⟩, .bool false, .slice (some ⟨g, o, none⟩) 3 c, .int .i64 16, .int .i64 8] 36)) (.slice (some ⟨w.heap.size + 1, 0, none⟩) 1 1) [fxLy (.slice (some ⟨g, o, none⟩) 3 c)] := by
  have hn := heap_alloc_new (w.alloc (.cells #[.string ⟨#[115]⟩, .bool false, .slice (some ⟨g, o, none⟩) 3 c, .int .i64 16, .int .i64 8] 36)) (.cells #[.string ⟨#[115]⟩, .bool false, .slice (some ⟨g, o, none⟩) 3 c, .int .i64 16, .int .i64 8] 36)
  rw [World.size_alloc] at hn
  have hb := cells_of_block hn
  refine ⟨⟨_, 1, rfl, Nat.le_refl _, by decide, fun _ => ⟨_, 0, rfl, by simp, fun k a ha j v hv => ?_⟩⟩, fun f hf => ?_⟩
  · match k, ha with
    | 0, ha =>
      injection ha with ha
      subst ha
      rw [hb.1, ← hv, Nat.zero_mul, Nat.zero_add]
      match j with
      | 0 => rfl
      | 1 => rfl
      | 2 => rfl
      | 3 => rfl
      | 4 => rfl
      | j + 5 => rfl
  · simp at hf
    subst hf
    exact h.next (((Below.refl _ _).alloc (Nat.le_refl _) _).alloc (by simp) _)
theorem fx_kok (sv : Value) : KOk [fxLy sv] := by
  intro y hy
  simp at hy
  subst hy
  refine ⟨show (0 : Int) ≤ 16 by decide, show (16 : Int) ≤ 1048576 by decide, .inr (.inr (.inr rfl))⟩
theorem fx_find (sv : Value) : find [fxLy sv] [115] = some (fxLy sv) := by
  unfold find
  rw [List.find?_cons, show ((fxLy sv).name.toList == [115]) = true by simp [fxLy, ByteArray.toList_eq]]
theorem fx_size (sv sv2 : Value) : sizeT [fxLy sv] (.arr sv2 3 (.rcd false ⟨#[115]⟩)) = (48, 8) := by
  have h : complete [fxLy sv] (.rcd false ⟨#[115]⟩) = some (16, 8) := by
    unfold complete
    rw [show (⟨#[115]⟩ : ByteArray).toList = [115] by simp [ByteArray.toList_eq], fx_find]
    rfl
  unfold sizeT
  rw [complete_arr, h]
  rfl
theorem size_fixed {s2 l2 k2 : Int} {f2 : Bool} {n2 : ByteArray} {A2 : Option Addr} {m2 c2 : Nat} (sv sv2 s : Value) (w : World) (hK : RdLs w s [fxLy sv]) (h : RdT w (.arr sv2 3 (.rcd false ⟨#[115]⟩))) (e : tyC (.arr sv2 3 (.rcd false ⟨#[115]⟩)) = [.int .i64 k2, .int .i64 s2, .int .i64 l2, .bool f2, .string n2, .slice A2 m2 c2]) :
    Calls Tryd.prog 12 #[.agg #[.int .i64 k2, .int .i64 s2, .int .i64 l2, .bool f2, .string n2, .slice A2 m2 c2], s] w fun e w' => e = .returned (.tuple #[.int .i64 48, .int .i64 8]) ∧ Below w.heap.size w w' := by
  have h1 := (both_any _).2 _ s w (fx_kok sv) hK h
  rw [fx_size, tyV_of e] at h1
  exact h1
theorem common_fixed (w : World) : Calls Tryd.prog 30 #[.agg #[.int .i64 2, .int .i64 1, .int .i64 0, .bool false, .string ⟨#[]⟩, .slice none 0 0], .agg #[.int .i64 2, .int .i64 4, .int .i64 0, .bool true, .string ⟨#[]⟩, .slice none 0 0]] w fun e w' => e = .returned (.tuple #[.agg #[.int .i64 2, .int .i64 4, .int .i64 0, .bool true, .string ⟨#[]⟩, .slice none 0 0], .bool true]) ∧ Below w.heap.size w w' := by
  have h := common_any (.num 1 false) (.num 4 true) w (by simp [RdT]) (by simp [RdT])
  have e : common (.num 1 false) (.num 4 true) = (.num 4 true, true) := by simp [common, isF, numOf, promote, isSz]
  rw [e] at h
  exact h
theorem ops_fixed (w : World) : Calls Tryd.prog 32 #[.agg #[.int .i64 2, .int .i64 8, .int .i64 0, .bool false, .string ⟨#[]⟩, .slice none 0 0], .agg #[.int .i64 2, .int .i64 1, .int .i64 0, .bool false, .string ⟨#[]⟩, .slice none 0 0]] w fun e w' => ∃ g o c, e = .returned (.tuple #[.slice (some ⟨g, o, none⟩) 2 c, .bool true]) ∧ w'.cell? ⟨g, o + 1, none⟩ = some (.int .i64 80) ∧ g < w'.heap.size ∧ Below w.heap.size w w' := by
  have h := ops_any (.num 8 false) (.num 1 false) w (by simp [RdT]) (by simp [RdT])
  have e : opsT (.num 8 false) (.num 1 false) = ([86, 80], true) := by simp [opsT, isF, isP, numOf, isSz, numsOp, narrow]
  rw [e] at h
  refine h.mono ?_
  rintro e w' ⟨A, c, rfl, hr, hb⟩
  obtain ⟨g, o, c', e, _, _, hlt, hc⟩ := hr.some_ (by decide)
  injection e with e1 e2 e3
  subst e1 e3
  exact ⟨g, o, _, rfl, hc 1 _ rfl 0 _ rfl, hlt, hb⟩
theorem find_fixed (g o c : Nat) (s : Value) (w : World) (hK : RdLs w s [fxLy (.slice (some ⟨g, o, none⟩) 3 c)]) : Calls Tryd.prog 14 #[s, .string ⟨#[115]⟩] w fun e w' => e = .returned (.tuple #[.agg #[.string ⟨#[115]⟩, .bool false, .slice (some ⟨g, o, none⟩) 3 c, .int .i64 16, .int .i64 8], .bool true]) ∧ Below w.heap.size w w' := by
  have h := find_any s _ ⟨#[115]⟩ w hK
  unfold FindR foundL at h
  rw [show (⟨#[115]⟩ : ByteArray).toList = [115] by simp [ByteArray.toList_eq], fx_find] at h
  exact h
/-- int*[3], as it is made. -/
def FxArr (x : Ty) : Prop := ∃ sv1 sv2, x = .arr sv1 3 (.ptr sv2 (.num 4 false))
section
variable {k1 s1 l1 : Int} {f1 : Bool} {n1 : ByteArray} {A1 : Option Addr} {m1 c1 : Nat} {k2 s2 l2 : Int} {f2 : Bool} {n2 : ByteArray} {A2 : Option Addr} {m2 c2 : Nat}
theorem text_fixed (x : Ty) (w : World) (ht : TabW w) (hx : FxArr x) (h : RdT w x) (e : tyC x = [.int .i64 k1, .int .i64 s1, .int .i64 l1, .bool f1, .string n1, .slice A1 m1 c1]) :
    Calls Tryd.prog 19 #[.agg #[.int .i64 k1, .int .i64 s1, .int .i64 l1, .bool f1, .string n1, .slice A1 m1 c1]] w fun e w' => e = .returned (.string ⟨#[105, 110, 116, 42, 91, 51, 93]⟩) ∧ Below w.heap.size w w' := by
  obtain ⟨sv1, sv2, rfl⟩ := hx
  have he : text (er (.arr sv1 3 (.ptr sv2 (.num 4 false)))) = [105, 110, 116, 42, 91, 51, 93] := by
    simp only [er, text]
    rw [show Lib.itoa 3 = [51] from by decide +kernel]
    simp [numText, isSz, numName]
  have h1 := text_any (.arr sv1 3 (.ptr sv2 (.num 4 false))) (by simp [er, ErOk, I64]) (by rw [he]; decide) w h ht
  rw [he, tyV_of e] at h1
  exact h1
theorem depth_fixed (x : Ty) (w : World) (hx : FxArr x) (h : RdT w x) (e : tyC x = [.int .i64 k1, .int .i64 s1, .int .i64 l1, .bool f1, .string n1, .slice A1 m1 c1]) :
    Calls Tryd.prog 21 #[.agg #[.int .i64 k1, .int .i64 s1, .int .i64 l1, .bool f1, .string n1, .slice A1 m1 c1]] w fun e w' => e = .returned (.int .i64 3) ∧ Below w.heap.size w w' := by
  obtain ⟨sv1, sv2, rfl⟩ := hx
  have h1 := depth_any (.arr sv1 3 (.ptr sv2 (.num 4 false))) (by simp [er, ErOk, I64]) (by simp [er, depth]) w h
  rw [tyV_of e] at h1
  simpa [er, depth] using h1
theorem same_fixed (x y : Ty) (w : World) (hx : FxArr x) (hy : FxArr y) (h : RdT w x) (h2 : RdT w y) (e : tyC x = [.int .i64 k1, .int .i64 s1, .int .i64 l1, .bool f1, .string n1, .slice A1 m1 c1]) (e2 : tyC y = [.int .i64 k2, .int .i64 s2, .int .i64 l2, .bool f2, .string n2, .slice A2 m2 c2]) :
    Calls Tryd.prog 29 #[.agg #[.int .i64 k1, .int .i64 s1, .int .i64 l1, .bool f1, .string n1, .slice A1 m1 c1], .agg #[.int .i64 k2, .int .i64 s2, .int .i64 l2, .bool f2, .string n2, .slice A2 m2 c2]] w fun e w' => e = .returned (.bool true) ∧ Below w.heap.size w w' := by
  obtain ⟨sv1, sv2, rfl⟩ := hx
  obtain ⟨sv3, sv4, rfl⟩ := hy
  have h1 := boolp_yes (same_any _ _ w h h2) (by simp [er])
  rw [tyV_of e, tyV_of e2] at h1
  exact h1
theorem kind_fixed (sv : Value) (w : World) (h : RdT w (.ptr sv (.num 4 false))) (e : tyC (.ptr sv (.num 4 false)) = [.int .i64 k1, .int .i64 s1, .int .i64 l1, .bool f1, .string n1, .slice A1 m1 c1]) :
    Calls Tryd.prog 25 #[.agg #[.int .i64 k1, .int .i64 s1, .int .i64 l1, .bool f1, .string n1, .slice A1 m1 c1]] w fun e w' => e = .returned (.int .i64 2) ∧ Below w.heap.size w w' := by
  have h1 := kind_any _ w h
  rw [tyV_of e] at h1
  exact h1
end
theorem same_num (s : Int) (u : Bool) (w : World) : Calls Tryd.prog 29 #[.agg #[.int .i64 2, .int .i64 s, .int .i64 0, .bool u, .string ⟨#[]⟩, .slice none 0 0], .agg #[.int .i64 2, .int .i64 s, .int .i64 0, .bool u, .string ⟨#[]⟩, .slice none 0 0]] w fun e w' => e = .returned (.bool true) ∧ Below w.heap.size w w' :=
  boolp_yes (same_any (.num s u) (.num s u) w (by simp [RdT]) (by simp [RdT])) rfl
theorem promote_fixed (w : World) : Calls Tryd.prog 27 #[.agg #[.int .i64 2, .int .i64 1, .int .i64 0, .bool false, .string ⟨#[]⟩, .slice none 0 0]] w fun e w' => e = .returned (.agg #[.int .i64 2, .int .i64 4, .int .i64 0, .bool false, .string ⟨#[]⟩, .slice none 0 0]) ∧ Below w.heap.size w w' := by
  have h := promote_any (.num 1 false) w (by simp [RdT])
  have e : promote (.num 1 false) = .num 4 false := by simp [promote]
  rw [e] at h
  exact h
theorem chunk_fixed (w : World) : Calls Tryd.prog 23 #[.agg #[.int .i64 3, .int .i64 0, .int .i64 0, .bool false, .string ⟨#[]⟩, .slice none 0 0]] w fun e w' => e = .returned (.int .i64 7) ∧ Below w.heap.size w w' :=
  chunk_any .flt w (by simp [RdT])

/-- What is read in the last test. -/
def FxB (kp sp lp : Int) (fp : Bool) (np : ByteArray) (Ap : Option Addr) (mp cp : Nat) (g o c b8 b12 b14 g2 o2 : Nat) (W : World) : Prop :=
  W.heap[b8]? = some (.cells #[.int .i64 2, .int .i64 4, .int .i64 0, .bool true, .string ⟨#[]⟩, .slice none 0 0] 30 (0, 0)) ∧ W.heap[b12]? = some (.cells #[.string ⟨#[115]⟩, .bool false, .slice (some ⟨g, o, none⟩) 3 c, .int .i64 16, .int .i64 8] 36 (0, 0)) ∧ W.heap[b14]? = some (.cells #[.int .i64 kp, .int .i64 sp, .int .i64 lp, .bool fp, .string np, .slice Ap mp cp, .int .i64 3] 79 (0, 0)) ∧ g2 < W.heap.size ∧ W.cell? ⟨g2, o2 + 1, none⟩ = some (.int .i64 80)
theorem below_blk {W W' : World} {b : Nat} {x : Obj} (hb : Below W.heap.size W W') (h : W.heap[b]? = some x) : W'.heap[b]? = some x := by
  have hlt : b < W.heap.size := by
    rcases Nat.lt_or_ge b W.heap.size with h1 | h1
    · exact h1
    · rw [Array.getElem?_eq_none h1] at h; cases h
  rw [hb.block b hlt]; exact h
section
variable {kp sp lp : Int} {fp : Bool} {np : ByteArray} {Ap : Option Addr} {mp cp : Nat} {g o c b8 b12 b14 g2 o2 : Nat} {W W' : World}
theorem fxb_next (hb : Below W.heap.size W W') (h : FxB kp sp lp fp np Ap mp cp g o c b8 b12 b14 g2 o2 W) : FxB kp sp lp fp np Ap mp cp g o c b8 b12 b14 g2 o2 W' := by
  obtain ⟨h1, h2, h3, h4, h5⟩ := h
  exact ⟨below_blk hb h1, below_blk hb h2, below_blk hb h3, Nat.lt_of_lt_of_le h4 hb.size, (hb.cell (p := ⟨g2, _, none⟩) h4).trans h5⟩
theorem fxb_cells (h : FxB kp sp lp fp np Ap mp cp g o c b8 b12 b14 g2 o2 W) : W.cell? ⟨b8, 0, none⟩ = some (.int .i64 2) ∧ W.cell? ⟨b8, 1, none⟩ = some (.int .i64 4) ∧ W.cell? ⟨b8, 2, none⟩ = some (.int .i64 0) ∧ W.cell? ⟨b8, 3, none⟩ = some (.bool true) ∧ W.cell? ⟨b8, 4, none⟩ = some (.string ⟨#[]⟩) ∧ W.cell? ⟨b8, 5, none⟩ = some (.slice none 0 0) ∧ W.cell? ⟨b12, 3, none⟩ = some (.int .i64 16) ∧ W.cell? ⟨b14, 0, none⟩ = some (.int .i64 kp) ∧ W.cell? ⟨b14, 1, none⟩ = some (.int .i64 sp) ∧ W.cell? ⟨b14, 2, none⟩ = some (.int .i64 lp) ∧ W.cell? ⟨b14, 3, none⟩ = some (.bool fp) ∧ W.cell? ⟨b14, 4, none⟩ = some (.string np) ∧ W.cell? ⟨b14, 5, none⟩ = some (.slice Ap mp cp) ∧ W.cell? ⟨b14, 6, none⟩ = some (.int .i64 3) ∧ W.cell? ⟨g2, o2 + 1, none⟩ = some (.int .i64 80) ∧ FxB kp sp lp fp np Ap mp cp g o c b8 b12 b14 g2 o2 W := by
  have h0 := h
  obtain ⟨h1, h2, h3, h4, h5⟩ := h
  refine ⟨?_, ?_, ?_, ?_, ?_, ?_, ?_, ?_, ?_, ?_, ?_, ?_, ?_, ?_, h5, h0⟩
  · rw [Lib.cell_of_heap h1]; rfl
  · rw [Lib.cell_of_heap h1]; rfl
  · rw [Lib.cell_of_heap h1]; rfl
  · rw [Lib.cell_of_heap h1]; rfl
  · rw [Lib.cell_of_heap h1]; rfl
  · rw [Lib.cell_of_heap h1]; rfl
  · rw [Lib.cell_of_heap h2]; rfl
  · rw [Lib.cell_of_heap h3]; rfl
  · rw [Lib.cell_of_heap h3]; rfl
  · rw [Lib.cell_of_heap h3]; rfl
  · rw [Lib.cell_of_heap h3]; rfl
  · rw [Lib.cell_of_heap h3]; rfl
  · rw [Lib.cell_of_heap h3]; rfl
  · rw [Lib.cell_of_heap h3]; rfl
end

set_option maxRecDepth 100000 in
set_option maxHeartbeats 16000000 in
theorem fixed_any (w : World) (ht : TabW w) : Calls Tryd.prog 9 #[] w fun e w' => e = .returned (.bool true) ∧ Below w.heap.size w w' := by
  have HT := Lib.hid ht
  have ES := Lib.hid (show tyC (.rcd false ⟨#[115]⟩) = [.int .i64 6, .int .i64 0, .int .i64 0, .bool false, .string ⟨#[115]⟩, .slice none 0 0] from rfl)
  have EN := Lib.hid (show tyC (.num 4 false) = [.int .i64 2, .int .i64 4, .int .i64 0, .bool false, .string ⟨#[]⟩, .slice none 0 0] from rfl)
  clear ht
  have hA1 := cell_alloc_if
  have hA2 := frozen_alloc_if
  have hA3 := cell_set_if
  go_enter Tryd.func9, Tryd.ntmps9
  go_upto_region 6 with (first
    | (go_at_call 39; (with_reducible refine (numberTy_any _ _ _).mono ?_); rintro e w1 ⟨rfl, hb1⟩; obtain ⟨hc1, hf1, hz1⟩ := cif hb1; clear hf1; (try simp only [World.size_alloc, World.size_setCell, World.size_drew, World.heap_drewN] at hz1))
    | (go_at_call 42; (with_reducible refine (floatTy_any _).mono ?_); rintro e w1 ⟨rfl, hb1⟩; obtain ⟨hc1, hf1, hz1⟩ := cif hb1; clear hf1; (try simp only [World.size_alloc, World.size_setCell, World.size_drew, World.heap_drewN] at hz1))
    | (go_at_call 34; (with_reducible refine (lay_fixed _).mono ?_); rintro e w4 ⟨g, o, c, rfl, hrd, hb4, hgl, hgc⟩; have HRD := Lib.hid hrd; clear hrd; obtain ⟨hc4, hf4, hz4⟩ := cif hb4; clear hf4; (try simp only [World.size_alloc, World.size_setCell, World.size_drew, World.heap_drewN] at hz4)))
  have HK := Lib.hid (fx_known w4 g o c HRD.out)
  have hw4 : Below w.heap.size w w4 := Below.trans (by (repeat' (first | (with_reducible exact Below.refl _ _) | (with_reducible assumption) | (with_reducible refine Below.setCell ?_ ?_ _) | (with_reducible refine Below.alloc ?_ ?_ _) | (with_reducible refine Below.drew ?_) | (with_reducible refine below_drewN ?_ _) | (with_reducible refine below_next ?_ (by with_reducible assumption)) | omega | (dsimp only; omega) | (simp only [World.size_alloc, World.size_setCell, World.size_drew, World.heap_drewN]; omega)))) (hb4.mono (by simp; omega))
  have hz40 := hw4.size
  clear hc1 hc4 hgc
  go_upto_region 10 with (first
    | (go_at_call 39; (with_reducible refine (numberTy_any _ _ _).mono ?_); rintro e w1 ⟨rfl, hb1⟩; obtain ⟨hc1, hf1, hz1⟩ := cif hb1; clear hf1; (try simp only [World.size_alloc, World.size_setCell, World.size_drew, World.heap_drewN] at hz1))
    | (go_at_call 43; (with_reducible refine (recordTy_any _ _ _).mono ?_); rintro e w1 ⟨rfl, hb1⟩; obtain ⟨hc1, hf1, hz1⟩ := cif hb1; clear hf1; (try simp only [World.size_alloc, World.size_setCell, World.size_drew, World.heap_drewN] at hz1))
    | (go_at_call 44; (with_reducible refine (arrayTy_any _ _ _ _ _ _ _ _ 3 (.rcd false ⟨#[115]⟩) _ (by simp [RdT]) ES.out).mono ?_); rintro e w1 ⟨x, ⟨sv, rfl, _⟩, rfl, hrx, hb1⟩; obtain ⟨kx, sx, lx, fx, nx, Ax, mx, cx, ex⟩ := tyC_form _ hrx; rw [tyV_of ex]; have EX := Lib.hid ex; have HRX := Lib.hid hrx; clear ex hrx; obtain ⟨hc1, hf1, hz1⟩ := cif hb1; clear hf1; (try simp only [World.size_alloc, World.size_setCell, World.size_drew, World.heap_drewN] at hz1))
    | (go_at_call 12; (with_reducible refine (size_fixed _ _ _ _ (HK.out.next (by (repeat' (first | (with_reducible exact Below.refl _ _) | (with_reducible assumption) | (with_reducible refine Below.setCell ?_ ?_ _) | (with_reducible refine Below.alloc ?_ ?_ _) | (with_reducible refine Below.drew ?_) | (with_reducible refine below_drewN ?_ _) | (with_reducible refine below_next ?_ (by with_reducible assumption)) | omega | (dsimp only; omega) | (simp only [World.size_alloc, World.size_setCell, World.size_drew, World.heap_drewN]; omega))))) (HRX.out.next (by (repeat' (first | (with_reducible exact Below.refl _ _) | (with_reducible assumption) | (with_reducible refine Below.setCell ?_ ?_ _) | (with_reducible refine Below.alloc ?_ ?_ _) | (with_reducible refine Below.drew ?_) | (with_reducible refine below_drewN ?_ _) | (with_reducible refine below_next ?_ (by with_reducible assumption)) | omega | (dsimp only; omega) | (simp only [World.size_alloc, World.size_setCell, World.size_drew, World.heap_drewN]; omega))))) EX.out).mono ?_); rintro e w1 ⟨rfl, hb1⟩; obtain ⟨hc1, hf1, hz1⟩ := cif hb1; clear hf1; (try simp only [World.size_alloc, World.size_setCell, World.size_drew, World.heap_drewN] at hz1))
    | (go_at_call 30; (with_reducible refine (common_fixed _).mono ?_); rintro e wc ⟨rfl, hbc⟩; obtain ⟨hcc, hfc, hzc⟩ := cif hbc; clear hfc; (try simp only [World.size_alloc, World.size_setCell, World.size_drew, World.heap_drewN] at hzc))
    | (go_at_call 32; (with_reducible refine (ops_fixed _).mono ?_); rintro e wo ⟨g2, o2, c2, rfl, hq2, hg2, hbo⟩; obtain ⟨hco, hfo, hzo⟩ := cif hbo; clear hfo; (try simp only [World.size_alloc, World.size_setCell, World.size_drew, World.heap_drewN] at hzo))
    | (go_at_call 14; (with_reducible refine (find_fixed g o c _ _ (HK.out.next (by (repeat' (first | (with_reducible exact Below.refl _ _) | (with_reducible assumption) | (with_reducible refine Below.setCell ?_ ?_ _) | (with_reducible refine Below.alloc ?_ ?_ _) | (with_reducible refine Below.drew ?_) | (with_reducible refine below_drewN ?_ _) | (with_reducible refine below_next ?_ (by with_reducible assumption)) | omega | (dsimp only; omega) | (simp only [World.size_alloc, World.size_setCell, World.size_drew, World.heap_drewN]; omega)))))).mono ?_); rintro e wf ⟨rfl, hbf⟩; obtain ⟨hcf, hff, hzf⟩ := cif hbf; clear hff; (try simp only [World.size_alloc, World.size_setCell, World.size_drew, World.heap_drewN] at hzf)))
  go_upto_region 11 with (first
    | (go_at_call 39; (with_reducible refine (numberTy_any _ _ _).mono ?_); rintro e w1 ⟨rfl, hb1⟩; obtain ⟨hc1, hf1, hz1⟩ := cif hb1; clear hf1; (try simp only [World.size_alloc, World.size_setCell, World.size_drew, World.heap_drewN] at hz1))
    | (go_at_call 45; (with_reducible refine (pointerTy_any _ _ _ _ _ _ _ _ (.num 4 false) _ (by simp [RdT]) EN.out).mono ?_); rintro e wp ⟨x, ⟨svp, rfl, _⟩, rfl, hrx, hbp⟩; obtain ⟨kp, sp, lp, fp, np, Ap, mp, cp, ex⟩ := tyC_form _ hrx; rw [tyV_of ex]; have EP := Lib.hid ex; have HRP := Lib.hid hrx; clear ex hrx; obtain ⟨hcp, hfp, hzp⟩ := cif hbp; clear hfp; (try simp only [World.size_alloc, World.size_setCell, World.size_drew, World.heap_drewN] at hzp)))
  obtain ⟨WZ, hWZ⟩ : ∃ WZ, WZ = wp.alloc (.cells #[.int .i64 kp, .int .i64 sp, .int .i64 lp, .bool fp, .string np, .slice Ap mp cp, .int .i64 3] 79) := ⟨_, rfl⟩
  have o8 := heap_alloc_new wc (.cells #[.int .i64 2, .int .i64 4, .int .i64 0, .bool true, .string ⟨#[]⟩, .slice none 0 0] 30)
  have o12 := heap_alloc_new wf (.cells #[.string ⟨#[115]⟩, .bool false, .slice (some ⟨g, o, none⟩) 3 c, .int .i64 16, .int .i64 8] 36)
  have o14 := heap_alloc_new wp (.cells #[.int .i64 kp, .int .i64 sp, .int .i64 lp, .bool fp, .string np, .slice Ap mp cp, .int .i64 3] 79)
  have h8 : Below (wc.alloc (.cells #[.int .i64 2, .int .i64 4, .int .i64 0, .bool true, .string ⟨#[]⟩, .slice none 0 0] 30)).heap.size (wc.alloc (.cells #[.int .i64 2, .int .i64 4, .int .i64 0, .bool true, .string ⟨#[]⟩, .slice none 0 0] 30)) WZ := by rw [hWZ]; (repeat' (first | (with_reducible exact Below.refl _ _) | (with_reducible assumption) | (with_reducible refine Below.setCell ?_ ?_ _) | (with_reducible refine Below.alloc ?_ ?_ _) | (with_reducible refine Below.drew ?_) | (with_reducible refine below_drewN ?_ _) | (with_reducible refine below_next ?_ (by with_reducible assumption)) | omega | (dsimp only; omega) | (simp only [World.size_alloc, World.size_setCell, World.size_drew, World.heap_drewN]; omega)))
  have h12 : Below (wf.alloc (.cells #[.string ⟨#[115]⟩, .bool false, .slice (some ⟨g, o, none⟩) 3 c, .int .i64 16, .int .i64 8] 36)).heap.size (wf.alloc (.cells #[.string ⟨#[115]⟩, .bool false, .slice (some ⟨g, o, none⟩) 3 c, .int .i64 16, .int .i64 8] 36)) WZ := by rw [hWZ]; (repeat' (first | (with_reducible exact Below.refl _ _) | (with_reducible assumption) | (with_reducible refine Below.setCell ?_ ?_ _) | (with_reducible refine Below.alloc ?_ ?_ _) | (with_reducible refine Below.drew ?_) | (with_reducible refine below_drewN ?_ _) | (with_reducible refine below_next ?_ (by with_reducible assumption)) | omega | (dsimp only; omega) | (simp only [World.size_alloc, World.size_setCell, World.size_drew, World.heap_drewN]; omega)))
  have h10 : Below wo.heap.size wo WZ := by rw [hWZ]; (repeat' (first | (with_reducible exact Below.refl _ _) | (with_reducible assumption) | (with_reducible refine Below.setCell ?_ ?_ _) | (with_reducible refine Below.alloc ?_ ?_ _) | (with_reducible refine Below.drew ?_) | (with_reducible refine below_drewN ?_ _) | (with_reducible refine below_next ?_ (by with_reducible assumption)) | omega | (dsimp only; omega) | (simp only [World.size_alloc, World.size_setCell, World.size_drew, World.heap_drewN]; omega)))
  have q8 := below_blk h8 o8
  have q12 := below_blk h12 o12
  have q14 := o14
  rw [← hWZ] at q14
  have q10 := (h10.cell (p := ⟨g2, _, none⟩) hg2).trans hq2
  have l10 := Nat.lt_of_lt_of_le hg2 h10.size
  have hzz : WZ.heap.size = wp.heap.size + 1 := by rw [hWZ]; simp
  have hlow : Below w.heap.size w WZ := by rw [hWZ]; (repeat' (first | (with_reducible exact Below.refl _ _) | (with_reducible assumption) | (with_reducible refine Below.setCell ?_ ?_ _) | (with_reducible refine Below.alloc ?_ ?_ _) | (with_reducible refine Below.drew ?_) | (with_reducible refine below_drewN ?_ _) | (with_reducible refine below_next ?_ (by with_reducible assumption)) | omega | (dsimp only; omega) | (simp only [World.size_alloc, World.size_setCell, World.size_drew, World.heap_drewN]; omega)))
  have HRZ : Hid (RdT WZ (.ptr svp (.num 4 false))) := Lib.hid (HRP.out.next (by rw [hWZ]; (repeat' (first | (with_reducible exact Below.refl _ _) | (with_reducible assumption) | (with_reducible refine Below.setCell ?_ ?_ _) | (with_reducible refine Below.alloc ?_ ?_ _) | (with_reducible refine Below.drew ?_) | (with_reducible refine below_drewN ?_ _) | (with_reducible refine below_next ?_ (by with_reducible assumption)) | omega | (dsimp only; omega) | (simp only [World.size_alloc, World.size_setCell, World.size_drew, World.heap_drewN]; omega)))))
  rw [← hWZ]
  have hzo2 := h10.size
  have hzc2 := h8.size
  have hzf2 := h12.size
  simp only [World.size_alloc] at hzc2 hzf2
  obtain ⟨b8, hb8⟩ : ∃ g, g = wc.heap.size := ⟨_, rfl⟩
  obtain ⟨b12, hb12⟩ : ∃ g, g = wf.heap.size := ⟨_, rfl⟩
  obtain ⟨b14, hb14⟩ : ∃ g, g = wp.heap.size := ⟨_, rfl⟩
  rw [← hb8] at q8 ⊢
  rw [← hb12] at q12 ⊢
  rw [← hb14] at q14 ⊢
  have hBx0 : FxB kp sp lp fp np Ap mp cp g o c b8 b12 b14 g2 o2 WZ := ⟨q8, q12, q14, l10, q10⟩
  have hzw := hlow.size
  clear hb8 hb12 hb14 hWZ o8 o12 o14 h8 h12 h10 q8 q12 q14 q10 hzz hA1 hA2 hA3 hq2 hg2 l10 hcc hco hcf hcp hzc2 hzf2 hzo2 HRP hgl
  clear hzc hzo hzf hzp hbc hbo hbf hbp HRX EX HK HRD hb4
  have tk1 : True := trivial
  have tk2 : True := trivial
  have tk3 : True := trivial
  have tk4 : True := trivial
  dsimp only [List.append]
  go_region_held3 (fun w' => w'.cell? ⟨b8, 0, none⟩ = some (.int .i64 2) ∧ w'.cell? ⟨b8, 1, none⟩ = some (.int .i64 4) ∧ w'.cell? ⟨b8, 2, none⟩ = some (.int .i64 0) ∧ w'.cell? ⟨b8, 3, none⟩ = some (.bool true) ∧ w'.cell? ⟨b8, 4, none⟩ = some (.string ⟨#[]⟩) ∧ w'.cell? ⟨b8, 5, none⟩ = some (.slice none 0 0) ∧ w'.cell? ⟨b12, 3, none⟩ = some (.int .i64 16) ∧ w'.cell? ⟨b14, 0, none⟩ = some (.int .i64 kp) ∧ w'.cell? ⟨b14, 1, none⟩ = some (.int .i64 sp) ∧ w'.cell? ⟨b14, 2, none⟩ = some (.int .i64 lp) ∧ w'.cell? ⟨b14, 3, none⟩ = some (.bool fp) ∧ w'.cell? ⟨b14, 4, none⟩ = some (.string np) ∧ w'.cell? ⟨b14, 5, none⟩ = some (.slice Ap mp cp) ∧ w'.cell? ⟨b14, 6, none⟩ = some (.int .i64 3) ∧ w'.cell? ⟨g2, o2 + 1, none⟩ = some (.int .i64 80) ∧ FxB kp sp lp fp np Ap mp cp g o c b8 b12 b14 g2 o2 w') (first | exact fxb_cells hBX | exact fxb_cells hBx0) (first
    | (go_at_call 39; (with_reducible refine (numberTy_any _ _ _).mono ?_); rintro e w1 ⟨rfl, hb1⟩; have hz1 := hb1.size; (try simp only [World.size_alloc, World.size_setCell, World.size_drew, World.heap_drewN] at hz1); have hBX := fxb_next hb1 (by assumption))
    | (go_at_call 42; (with_reducible refine (floatTy_any _).mono ?_); rintro e w1 ⟨rfl, hb1⟩; have hz1 := hb1.size; (try simp only [World.size_alloc, World.size_setCell, World.size_drew, World.heap_drewN] at hz1); have hBX := fxb_next hb1 (by assumption))
    | (go_at_call 44; have tk := tk1; (with_reducible refine (arrayTy_any _ _ _ _ _ _ _ _ 3 (.ptr svp (.num 4 false)) _ (HRZ.out.next (by (repeat' (first | (with_reducible exact Below.refl _ _) | (with_reducible assumption) | (with_reducible refine Below.setCell ?_ ?_ _) | (with_reducible refine Below.alloc ?_ ?_ _) | (with_reducible refine Below.drew ?_) | (with_reducible refine below_drewN ?_ _) | (with_reducible refine below_next ?_ (by with_reducible assumption)) | omega | (dsimp only; omega) | (simp only [World.size_alloc, World.size_setCell, World.size_drew, World.heap_drewN]; omega))))) EP.out).mono ?_); rintro e w1 ⟨y1, ⟨sv, hy, _⟩, rfl, hry, hb1⟩; obtain ⟨ky, sy, ly, fy, ny, Ay, my, cy, ey⟩ := tyC_form _ hry; rw [tyV_of ey]; have y1E := Lib.hid ey; have y1R := Lib.hid hry; have y1F := Lib.hid (show FxArr y1 from ⟨_, _, hy⟩); clear tk1 tk hy hry ey; have hz1 := hb1.size; (try simp only [World.size_alloc, World.size_setCell, World.size_drew, World.heap_drewN] at hz1); have hBX := fxb_next hb1 (by assumption))
    | (go_at_call 44; have tk := tk2; (with_reducible refine (arrayTy_any _ _ _ _ _ _ _ _ 3 (.ptr svp (.num 4 false)) _ (HRZ.out.next (by (repeat' (first | (with_reducible exact Below.refl _ _) | (with_reducible assumption) | (with_reducible refine Below.setCell ?_ ?_ _) | (with_reducible refine Below.alloc ?_ ?_ _) | (with_reducible refine Below.drew ?_) | (with_reducible refine below_drewN ?_ _) | (with_reducible refine below_next ?_ (by with_reducible assumption)) | omega | (dsimp only; omega) | (simp only [World.size_alloc, World.size_setCell, World.size_drew, World.heap_drewN]; omega))))) EP.out).mono ?_); rintro e w1 ⟨y2, ⟨sv, hy, _⟩, rfl, hry, hb1⟩; obtain ⟨ky, sy, ly, fy, ny, Ay, my, cy, ey⟩ := tyC_form _ hry; rw [tyV_of ey]; have y2E := Lib.hid ey; have y2R := Lib.hid hry; have y2F := Lib.hid (show FxArr y2 from ⟨_, _, hy⟩); clear tk2 tk hy hry ey; have hz1 := hb1.size; (try simp only [World.size_alloc, World.size_setCell, World.size_drew, World.heap_drewN] at hz1); have hBX := fxb_next hb1 (by assumption))
    | (go_at_call 44; have tk := tk3; (with_reducible refine (arrayTy_any _ _ _ _ _ _ _ _ 3 (.ptr svp (.num 4 false)) _ (HRZ.out.next (by (repeat' (first | (with_reducible exact Below.refl _ _) | (with_reducible assumption) | (with_reducible refine Below.setCell ?_ ?_ _) | (with_reducible refine Below.alloc ?_ ?_ _) | (with_reducible refine Below.drew ?_) | (with_reducible refine below_drewN ?_ _) | (with_reducible refine below_next ?_ (by with_reducible assumption)) | omega | (dsimp only; omega) | (simp only [World.size_alloc, World.size_setCell, World.size_drew, World.heap_drewN]; omega))))) EP.out).mono ?_); rintro e w1 ⟨y3, ⟨sv, hy, _⟩, rfl, hry, hb1⟩; obtain ⟨ky, sy, ly, fy, ny, Ay, my, cy, ey⟩ := tyC_form _ hry; rw [tyV_of ey]; have y3E := Lib.hid ey; have y3R := Lib.hid hry; have y3F := Lib.hid (show FxArr y3 from ⟨_, _, hy⟩); clear tk3 tk hy hry ey; have hz1 := hb1.size; (try simp only [World.size_alloc, World.size_setCell, World.size_drew, World.heap_drewN] at hz1); have hBX := fxb_next hb1 (by assumption))
    | (go_at_call 44; have tk := tk4; (with_reducible refine (arrayTy_any _ _ _ _ _ _ _ _ 3 (.ptr svp (.num 4 false)) _ (HRZ.out.next (by (repeat' (first | (with_reducible exact Below.refl _ _) | (with_reducible assumption) | (with_reducible refine Below.setCell ?_ ?_ _) | (with_reducible refine Below.alloc ?_ ?_ _) | (with_reducible refine Below.drew ?_) | (with_reducible refine below_drewN ?_ _) | (with_reducible refine below_next ?_ (by with_reducible assumption)) | omega | (dsimp only; omega) | (simp only [World.size_alloc, World.size_setCell, World.size_drew, World.heap_drewN]; omega))))) EP.out).mono ?_); rintro e w1 ⟨y4, ⟨sv, hy, _⟩, rfl, hry, hb1⟩; obtain ⟨ky, sy, ly, fy, ny, Ay, my, cy, ey⟩ := tyC_form _ hry; rw [tyV_of ey]; have y4E := Lib.hid ey; have y4R := Lib.hid hry; have y4F := Lib.hid (show FxArr y4 from ⟨_, _, hy⟩); clear tk4 tk hy hry ey; have hz1 := hb1.size; (try simp only [World.size_alloc, World.size_setCell, World.size_drew, World.heap_drewN] at hz1); have hBX := fxb_next hb1 (by assumption))
    | (go_at_call 19; (with_reducible refine (text_fixed y1 _ (HT.out.next (by (repeat' (first | (with_reducible exact Below.refl _ _) | (with_reducible assumption) | (with_reducible refine Below.setCell ?_ ?_ _) | (with_reducible refine Below.alloc ?_ ?_ _) | (with_reducible refine Below.drew ?_) | (with_reducible refine below_drewN ?_ _) | (with_reducible refine below_next ?_ (by with_reducible assumption)) | omega | (dsimp only; omega) | (simp only [World.size_alloc, World.size_setCell, World.size_drew, World.heap_drewN]; omega))))) y1F.out (y1R.out.next (by (repeat' (first | (with_reducible exact Below.refl _ _) | (with_reducible assumption) | (with_reducible refine Below.setCell ?_ ?_ _) | (with_reducible refine Below.alloc ?_ ?_ _) | (with_reducible refine Below.drew ?_) | (with_reducible refine below_drewN ?_ _) | (with_reducible refine below_next ?_ (by with_reducible assumption)) | omega | (dsimp only; omega) | (simp only [World.size_alloc, World.size_setCell, World.size_drew, World.heap_drewN]; omega))))) y1E.out).mono ?_); rintro e w1 ⟨rfl, hb1⟩; have hz1 := hb1.size; (try simp only [World.size_alloc, World.size_setCell, World.size_drew, World.heap_drewN] at hz1); have hBX := fxb_next hb1 (by assumption))
    | (go_at_call 21; (with_reducible refine (depth_fixed y2 _ y2F.out (y2R.out.next (by (repeat' (first | (with_reducible exact Below.refl _ _) | (with_reducible assumption) | (with_reducible refine Below.setCell ?_ ?_ _) | (with_reducible refine Below.alloc ?_ ?_ _) | (with_reducible refine Below.drew ?_) | (with_reducible refine below_drewN ?_ _) | (with_reducible refine below_next ?_ (by with_reducible assumption)) | omega | (dsimp only; omega) | (simp only [World.size_alloc, World.size_setCell, World.size_drew, World.heap_drewN]; omega))))) y2E.out).mono ?_); rintro e w1 ⟨rfl, hb1⟩; have hz1 := hb1.size; (try simp only [World.size_alloc, World.size_setCell, World.size_drew, World.heap_drewN] at hz1); have hBX := fxb_next hb1 (by assumption))
    | (go_at_call 29; (with_reducible refine (same_num _ _ _).mono ?_); rintro e w1 ⟨rfl, hb1⟩; have hz1 := hb1.size; (try simp only [World.size_alloc, World.size_setCell, World.size_drew, World.heap_drewN] at hz1); have hBX := fxb_next hb1 (by assumption))
    | (go_at_call 29; (with_reducible refine (same_fixed y3 y4 _ y3F.out y4F.out (y3R.out.next (by (repeat' (first | (with_reducible exact Below.refl _ _) | (with_reducible assumption) | (with_reducible refine Below.setCell ?_ ?_ _) | (with_reducible refine Below.alloc ?_ ?_ _) | (with_reducible refine Below.drew ?_) | (with_reducible refine below_drewN ?_ _) | (with_reducible refine below_next ?_ (by with_reducible assumption)) | omega | (dsimp only; omega) | (simp only [World.size_alloc, World.size_setCell, World.size_drew, World.heap_drewN]; omega))))) (y4R.out.next (by (repeat' (first | (with_reducible exact Below.refl _ _) | (with_reducible assumption) | (with_reducible refine Below.setCell ?_ ?_ _) | (with_reducible refine Below.alloc ?_ ?_ _) | (with_reducible refine Below.drew ?_) | (with_reducible refine below_drewN ?_ _) | (with_reducible refine below_next ?_ (by with_reducible assumption)) | omega | (dsimp only; omega) | (simp only [World.size_alloc, World.size_setCell, World.size_drew, World.heap_drewN]; omega))))) y3E.out y4E.out).mono ?_); rintro e w1 ⟨rfl, hb1⟩; have hz1 := hb1.size; (try simp only [World.size_alloc, World.size_setCell, World.size_drew, World.heap_drewN] at hz1); have hBX := fxb_next hb1 (by assumption))
    | (go_at_call 23; (with_reducible refine (chunk_fixed _).mono ?_); rintro e w1 ⟨rfl, hb1⟩; have hz1 := hb1.size; (try simp only [World.size_alloc, World.size_setCell, World.size_drew, World.heap_drewN] at hz1); have hBX := fxb_next hb1 (by assumption))
    | (go_at_call 25; (with_reducible refine (kind_fixed svp _ (HRZ.out.next (by (repeat' (first | (with_reducible exact Below.refl _ _) | (with_reducible assumption) | (with_reducible refine Below.setCell ?_ ?_ _) | (with_reducible refine Below.alloc ?_ ?_ _) | (with_reducible refine Below.drew ?_) | (with_reducible refine below_drewN ?_ _) | (with_reducible refine below_next ?_ (by with_reducible assumption)) | omega | (dsimp only; omega) | (simp only [World.size_alloc, World.size_setCell, World.size_drew, World.heap_drewN]; omega))))) EP.out).mono ?_); rintro e w1 ⟨rfl, hb1⟩; have hz1 := hb1.size; (try simp only [World.size_alloc, World.size_setCell, World.size_drew, World.heap_drewN] at hz1); have hBX := fxb_next hb1 (by assumption))
    | (go_at_call 27; (with_reducible refine (promote_fixed _).mono ?_); rintro e w1 ⟨rfl, hb1⟩; have hz1 := hb1.size; (try simp only [World.size_alloc, World.size_setCell, World.size_drew, World.heap_drewN] at hz1); have hBX := fxb_next hb1 (by assumption)))
  all_goals (go_wp2; go_returns; exact ⟨rfl, by (repeat' (first | (with_reducible exact Below.refl _ _) | (with_reducible assumption) | (with_reducible refine Below.setCell ?_ ?_ _) | (with_reducible refine Below.alloc ?_ ?_ _) | (with_reducible refine Below.drew ?_) | (with_reducible refine below_drewN ?_ _) | (with_reducible refine below_next ?_ (by with_reducible assumption)) | omega | (dsimp only; omega) | (simp only [World.size_alloc, World.size_setCell, World.size_drew, World.heap_drewN]; omega)))⟩)
end Go.Proofs.YteeojgepgjndgaaDoor
