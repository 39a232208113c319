/-
  A record's layout: the state of the program's rounds.
-/
import Derived.Test.YteeojgepgjndgaaDoorCtypeW12
import Derived.Test.YteeojgepgjndgaaDoorCtypeW15
import Derived.Test.YteeojgepgjndgaaDoorCtypeW16
import Derived.Test.YteeojgepgjndgaaDoorMapS
namespace Go.Proofs.YteeojgepgjndgaaDoor
open Go.RowKit
set_option linter.unusedVariables false
set_option linter.unusedSimpArgs false

def zeroLyC : Array Value := #[.string ⟨#[]⟩, .bool false, .slice none 0 0, .int .i64 0, .int .i64 0]
def lyBox (nm : ByteArray) (u : Bool) (A : Option Addr) (k c : Nat) (a : Int) : Array Value := #[.string nm, .bool u, .slice A k c, .int .i64 0, .int .i64 a]
def seenF (seen : List (List UInt8)) (s : List UInt8) : Int := if s ∈ seen then 1 else 0
theorem fd_info : (Tryd.prog.info? 59).map (fun i => (i.zero, i.size, i.bytes)) = some (some (.agg #[.string ⟨#[]⟩, .int .i64 0, .int .i64 0, .int .i64 0, .bool false, .string ⟨#[]⟩, .slice none 0 0, .int .i64 0]), 8, 96) := by kernel_rfl
theorem zint : ∀ w : World, (zeroValue 3).run Tryd.prog w = .ok (.int .i64 0) w := fun w => by kernel_rfl
theorem fdC_len (f : Fd) : (fdC f).length = 8 := by
  unfold fdC
  simp [tyC_len]
theorem fdC_one {w : World} {f : Fd} (h : RdT w f.ty) : ∀ u ∈ fdC f, u.oneCell' = true := by
  intro u hu
  unfold fdC at hu
  simp only [List.mem_cons, List.mem_append, List.not_mem_nil, or_false] at hu
  rcases hu with (rfl | hu) | rfl
  · rfl
  · exact tyC_one h u hu
  · rfl
/-- A layout under way: k members are there. -/
structure LayS (w wr : World) (nm : ByteArray) (u : Bool) (out : List Fd) (a : Int) (seen : List (List UInt8)) (A6 : Option Addr) (c6 k : Nat) : Prop where
  low : Below w.heap.size w wr
  size : w.heap.size + 3 ≤ wr.heap.size
  res : wr.heap[w.heap.size]? = some (.cells zeroLyC 36 (0, 0))
  box : wr.heap[w.heap.size + 1]? = some (.cells (lyBox nm u A6 k c6 a) 36 (0, 0))
  map : MapS Tryd.prog 9 3 wr (w.heap.size + 2) k (seenF seen)
  own : OwnL 59 fdC 8 (w.heap.size + 3) wr (.slice A6 k c6) out
  len : out.length = k
  tys : ∀ f ∈ out, RdT w f.ty
theorem setS_seen (seen : List (List UInt8)) (s : List UInt8) (h : s ∉ seen) : setS (seenF seen) s 1 = seenF (s :: seen) := by
  funext x
  unfold setS seenF
  by_cases hx : x = s
  · subst hx; simp
  · simp [hx]
/-- One member more. -/
theorem LayS.step {w wr w7 w9 W11 w12 wf : World} {nm : ByteArray} {u : Bool} {out : List Fd} {a a2 : Int} {seen : List (List UInt8)} {A6 A9 : Option Addr} {c6 c9 k : Nat} {f : Fd}
    (h : LayS w wr nm u out a seen A6 c6 k)
    (h7 : ∀ b, b ≠ w.heap.size + 2 → b < wr.heap.size → w7.heap[b]? = wr.heap[b]?) (hs7 : wr.heap.size + 1 ≤ w7.heap.size) (hl7 : Below w.heap.size wr w7)
    (hm7 : MapS Tryd.prog 9 3 w7 (w.heap.size + 2) (k + 1) (setS (seenF seen) f.name.toList 1)) (hn : f.name.toList ∉ seen)
    (h9 : Below w7.heap.size w7 w9)
    (h11 : ∀ b, b ≠ wr.heap.size → b ≠ w.heap.size + 1 → b < w9.heap.size → W11.heap[b]? = w9.heap[b]?) (hs11 : w9.heap.size + 1 = W11.heap.size) (hl11 : Below w.heap.size w9 W11)
    (hb11 : W11.heap[w.heap.size + 1]? = some (.cells (lyBox nm u A6 k c6 a2) 36 (0, 0)))
    (hown : OwnL 59 fdC 8 (w.heap.size + 3) w12 (.slice A9 (k + 1) c9) (out ++ [f])) (hg : W11.grownBy w12 (Value.slice A6 k c6).ownBlock) (hB : Below (w.heap.size + 3) W11 w12)
    (hty : RdT w f.ty)
    (hf : wf = w12.setCell ⟨w.heap.size + 1, 2, none⟩ (.slice A9 (k + 1) c9)) :
    LayS w wf nm u (out ++ [f]) a2 (f.name.toList :: seen) A9 c9 (k + 1) := by
  have z1 := hB.size
  have z2 := h.size
  have z3 := h9.size
  have hsz : wf.heap.size = w12.heap.size := by rw [hf, size_setC]
  refine ⟨?_, by omega, ?_, ?_, ?_, ?_, ?_, ?_⟩
  · rw [hf]
    exact Below.setCell (Below.trans h.low (Below.trans hl7 (Below.trans (h9.mono (by omega)) (Below.trans hl11 (hB.mono (by omega)))))) (by show w.heap.size ≤ w.heap.size + 1; omega) _
  · rw [hf, heap_setC _ _ _ _ _ (by omega), hB.block _ (by omega), h11 _ (by omega) (by omega) (by omega), h9.block _ (by omega), h7 _ (by omega) (by omega)]
    exact h.res
  · have hb12 : w12.heap[w.heap.size + 1]? = some (.cells (lyBox nm u A6 k c6 a2) 36 (0, 0)) := by
      rw [hB.block _ (by omega)]; exact hb11
    rw [hf]
    simp only [World.setCell, Array.getElem?_modify, if_true, hb12]
    rfl
  · rw [← setS_seen _ _ hn]
    refine hm7.block ?_
    rw [hf, heap_setC _ _ _ _ _ (by omega), hB.block _ (by omega), h11 _ (by omega) (by omega) (by omega), h9.block _ (by omega)]
  · refine hown.keep fun b hb => ?_
    have := (hown.lt hb).1
    rw [hf, heap_setC _ _ _ _ _ (by omega)]
  · rw [List.length_append, h.len]; rfl
  · intro g hg'
    rw [List.mem_append] at hg'
    rcases hg' with hg' | hg'
    · exact h.tys g hg'
    · simp at hg'; subst hg'; exact hty
/-- A member's cells. -/
theorem fd_cells {w : World} {b off : Nat} {l : List Fd} (hc : ∀ (k : Nat) (a : Fd), l[k]? = some a → ∀ (j : Nat) (v : Value), (fdC a)[j]? = some v → w.cell? ⟨b, off + k * 8 + j, none⟩ = some v) {i : Nat} {f : Fd} (h : l[i]? = some f)
    {k s n' : Int} {fl : Bool} {n : ByteArray} {A : Option Addr} {m c : Nat} (e : tyC f.ty = [.int .i64 k, .int .i64 s, .int .i64 n', .bool fl, .string n, .slice A m c]) :
    w.cell? ⟨b, off + i * 8, none⟩ = some (.string f.name) ∧ w.cell? ⟨b, off + i * 8 + 1, none⟩ = some (.int .i64 k) ∧ w.cell? ⟨b, off + i * 8 + 2, none⟩ = some (.int .i64 s) ∧ w.cell? ⟨b, off + i * 8 + 3, none⟩ = some (.int .i64 n') ∧ w.cell? ⟨b, off + i * 8 + 4, none⟩ = some (.bool fl) ∧ w.cell? ⟨b, off + i * 8 + 5, none⟩ = some (.string n) ∧ w.cell? ⟨b, off + i * 8 + 6, none⟩ = some (.slice A m c) ∧ w.cell? ⟨b, off + i * 8 + 7, none⟩ = some (.int .i64 f.off) := by
  have ef : fdC f = .string f.name :: ([.int .i64 k, .int .i64 s, .int .i64 n', .bool fl, .string n, .slice A m c] ++ [.int .i64 f.off]) := by unfold fdC; rw [e]; rfl
  have g := fun j v hv => hc i f h j v (by rw [ef]; exact hv)
  exact ⟨g 0 _ rfl, g 1 _ rfl, g 2 _ rfl, g 3 _ rfl, g 4 _ rfl, g 5 _ rfl, g 6 _ rfl, g 7 _ rfl⟩
/-- A member as a block of its own. -/
def fdBox (k s n' : Int) (fl : Bool) (n nm : ByteArray) (A : Option Addr) (m c : Nat) (o : Int) : Array Value := #[.string nm, .int .i64 k, .int .i64 s, .int .i64 n', .bool fl, .string n, .slice A m c, .int .i64 o]
theorem RdL.oneFd {w : World} {b : Nat} {f : Fd} {k s n' : Int} {fl : Bool} {n : ByteArray} {A : Option Addr} {m c : Nat} {T : TypeId} (e : tyC f.ty = [.int .i64 k, .int .i64 s, .int .i64 n', .bool fl, .string n, .slice A m c]) (h : w.heap[b]? = some (.cells (fdBox k s n' fl n f.name A m c f.off) T (0, 0))) :
    RdL fdC 8 w (.slice (some ⟨b, 0, none⟩) 1 1) [f] := by
  have hx := (cells_of_block h).1
  refine ⟨_, _, rfl, Nat.le_refl _, by decide, fun _ => ⟨b, 0, rfl, lt_of_block h, fun i a ha j v hv => ?_⟩⟩
  cases i with
  | succ i => simp at ha
  | zero =>
    simp at ha; subst ha
    have ef : fdC f = (fdBox k s n' fl n f.name A m c f.off).toList := by unfold fdC; rw [e]; rfl
    rw [ef] at hv
    rw [Nat.zero_mul, Nat.zero_add, hx]
    simpa using hv
theorem set_fd {w : World} {b : Nat} {T : TypeId} {k s n' : Int} {fl : Bool} {n nm : ByteArray} {A : Option Addr} {m c : Nat} {o : Int} (v : Int) (h : w.heap[b]? = some (.cells (fdBox k s n' fl n nm A m c o) T (0, 0))) :
    (w.setCell ⟨b, 7, none⟩ (.int .i64 v)).heap[b]? = some (.cells (fdBox k s n' fl n nm A m c v) T (0, 0)) := by
  simp only [World.setCell, Array.getElem?_modify, if_true, h]; rfl
theorem set_ly {w : World} {b : Nat} {T : TypeId} {nm : ByteArray} {u : Bool} {A : Option Addr} {k c : Nat} {a : Int} (v : Int) (h : w.heap[b]? = some (.cells (lyBox nm u A k c a) T (0, 0))) :
    (w.setCell ⟨b, 4, none⟩ (.int .i64 v)).heap[b]? = some (.cells (lyBox nm u A k c v) T (0, 0)) := by
  simp only [World.setCell, Array.getElem?_modify, if_true, h]; rfl
end Go.Proofs.YteeojgepgjndgaaDoor
