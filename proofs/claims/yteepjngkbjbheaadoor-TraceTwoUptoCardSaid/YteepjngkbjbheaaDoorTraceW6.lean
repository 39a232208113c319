/-
  The fixed examples of layer 3.
-/
import Derived.Test.YteepjngkbjbheaaDoorTraceW5
import Derived.Test.YteepjngkbjbheaaDoorTraceB
import Derived.Test.YteepjngkbjbheaaDoorShelf
namespace Go.Proofs.YteepjngkbjbheaaDoor
open Go.RowKit
set_option linter.unusedVariables false
set_option linter.unusedSimpArgs false

theorem itoa_0 (w : World) : Calls Tryd.prog 48 #[.int .i64 0] w fun e w' => e = .returned (.string ⟨#[48]⟩) ∧ w = w' := by
  have h := Tryd.strconv_Itoa_small 0 (by decide) w
  rw [show (Lib.decDigits 0).toArray = #[48] from by decide +kernel] at h
  exact h.mono fun e w' ⟨h1, h2⟩ => ⟨h1, h2.symm⟩
theorem itoa_1 (w : World) : Calls Tryd.prog 48 #[.int .i64 1] w fun e w' => e = .returned (.string ⟨#[49]⟩) ∧ w = w' := by
  have h := Tryd.strconv_Itoa_small 1 (by decide) w
  rw [show (Lib.decDigits 1).toArray = #[49] from by decide +kernel] at h
  exact h.mono fun e w' ⟨h1, h2⟩ => ⟨h1, h2.symm⟩

set_option maxHeartbeats 1000000 in
theorem written_one (w : World) : Calls Tryd.prog 33 #[.agg #[.int .i64 1, .int .u64 1, .int .i64 0]] w fun e w' => e = .returned (.string ⟨#[49]⟩) ∧ Below w.heap.size w w' := by
  go_enter Tryd.func33, Tryd.ntmps33
  go_wp2_with (go_at_call 48; (with_reducible refine (itoa_1 _).mono ?_); rintro e w' ⟨rfl, rfl⟩)
  all_goals (go_returns; exact ⟨rfl, by (repeat' (first | (with_reducible exact Below.refl _ _) | (with_reducible assumption) | (with_reducible refine Below.setCell ?_ ?_ _) | (with_reducible refine Below.alloc ?_ ?_ _) | (with_reducible refine Below.drew ?_) | (with_reducible refine below_drewN ?_ _) | (with_reducible refine below_next ?_ (by with_reducible assumption)) | omega | (dsimp only; omega) | (simp only [World.size_alloc, World.size_setCell, World.size_drew, World.heap_drewN]; omega)))⟩)

set_option maxHeartbeats 1000000 in
theorem ending_one (A : Option Addr) (n c : Nat) (w : World) : Calls Tryd.prog 37 #[.agg #[.slice A n c, .int .i64 1, .int .i32 0, .int .i64 0]] w fun e w' => e = .returned (.string ⟨#[101, 120, 105, 116, 101, 100, 32, 48]⟩) ∧ Below w.heap.size w w' := by
  go_enter Tryd.func37, Tryd.ntmps37
  go_wp2_with (go_at_call 48; (with_reducible refine (itoa_0 _).mono ?_); rintro e w' ⟨rfl, rfl⟩)
  all_goals (go_returns; exact ⟨rfl, by (repeat' (first | (with_reducible exact Below.refl _ _) | (with_reducible assumption) | (with_reducible refine Below.setCell ?_ ?_ _) | (with_reducible refine Below.alloc ?_ ?_ _) | (with_reducible refine Below.drew ?_) | (with_reducible refine below_drewN ?_ _) | (with_reducible refine below_next ?_ (by with_reducible assumption)) | omega | (dsimp only; omega) | (simp only [World.size_alloc, World.size_setCell, World.size_drew, World.heap_drewN]; omega)))⟩)

/-- Blocks behind new blocks, stores and calls, each as one equation with linear tests. -/
def heapElse (w : World) (k : Nat) : Option Obj := w.heap[k]?
theorem blkif {W w1 : World} (hb : Below W.heap.size W w1) : ∀ k, w1.heap[k]? = if k < W.heap.size then W.heap[k]? else heapElse w1 k := by
  intro k
  split
  · exact hb.block k ‹_›
  · rfl
theorem heap_alloc_if (w : World) (o : Obj) (k : Nat) : (w.alloc o).heap[k]? = if k < w.heap.size then w.heap[k]? else if k = w.heap.size then some o else none := by
  split
  · exact Below.heap_alloc w o k ‹_›
  · split
    · subst k; exact heap_alloc_new w o
    · exact block_gone w o k ‹_› ‹_›
theorem heap_set_if (w : World) (b o : Nat) (v : Value) (k : Nat) : (w.setCell ⟨b, o, none⟩ v).heap[k]? = if k = b then heapElse (w.setCell ⟨b, o, none⟩ v) k else w.heap[k]? := by
  split
  · rfl
  · exact Below.heap_setCell w _ v k ‹_›
theorem heap_drew (w : World) (k : Nat) : w.drew.heap[k]? = w.heap[k]? := rfl

theorem builder_next {B b : Nat} {p : Value} {bs : List Value} {w w' : World} (h : Lib.BuilderAt 59 5 B b p bs w) (hb : Below w.heap.size w w') : Lib.BuilderAt 59 5 B b p bs w' := by
  obtain ⟨hB, v, hblk, hown, hne⟩ := h
  have hlt : b < w.heap.size := by
    rcases Nat.lt_or_ge b w.heap.size with h1 | h1
    · exact h1
    · rw [Array.getElem?_eq_none h1] at hblk; cases hblk
  refine ⟨hB, v, (hb.block b hlt).trans hblk, hown.kept (row := none) ⟨hb.os, hb.tape, hb.output, hb.size, fun i hi _ => hb.block i hi⟩ ?_, hne⟩
  cases v.ownBlock with
  | none => exact .inl rfl
  | some k => exact .inr (by simp)

def strC (s : ByteArray) : List Value := [.string s]
theorem join_one (s : Value) (x sep : ByteArray) (w : World) (h : RdL strC 1 w s [x]) (hj : (⟨(Lib.join ([x].map (·.data.toList)) sep.data.toList).toArray⟩ : ByteArray) = x) (hl : (Lib.join ([x].map (·.data.toList)) sep.data.toList).length ≤ 140737488355328) :
    Calls Tryd.prog 35 #[s, .string sep] w fun e w' => e = .returned (.string x) ∧ Below w.heap.size w w' := by
  obtain ⟨b, off, c, rfl, hc1, hc2, hb, hc⟩ := h.some_ (by simp)
  have g := Tryd.strings_Join b off c [x] sep w (fun j y hy => by have := hc j y hy 0 _ rfl; rw [Nat.mul_one, Nat.add_zero] at this; exact this) hb (by simp) hc1 hl
  rw [hj] at g
  exact g

theorem str_info : (Tryd.prog.info? 9).map (fun i => (i.zero, i.size, i.bytes)) = some (some (.string ⟨#[]⟩), 1, 16) := by kernel_rfl
set_option maxRecDepth 100000 in
set_option maxHeartbeats 8000000 in
theorem text_one (b off c b2 off2 c2 : Nat) (w : World) (hb : b < w.heap.size) (hb2 : b2 < w.heap.size)
    (p1 : w.cell? ⟨b, off, none⟩ = some (.string ⟨#[112, 117, 116]⟩)) (p2 : w.cell? ⟨b, off + 1, none⟩ = some (.slice (some ⟨b2, off2, none⟩) 1 c2)) (p3 : w.cell? ⟨b, off + 2, none⟩ = some (.int .i64 1)) (p4 : w.cell? ⟨b, off + 3, none⟩ = some (.int .u64 1)) (p5 : w.cell? ⟨b, off + 4, none⟩ = some (.int .i64 0))
    (q1 : w.cell? ⟨b2, off2, none⟩ = some (.int .i64 1)) (q2 : w.cell? ⟨b2, off2 + 1, none⟩ = some (.int .u64 1)) (q3 : w.cell? ⟨b2, off2 + 2, none⟩ = some (.int .i64 0)) :
    Calls Tryd.prog 19 #[.agg #[.slice (some ⟨b, off, none⟩) 1 c, .int .i64 1, .int .i32 0, .int .i64 0]] w fun e w' =>
      e = .returned (.string ⟨#[112, 117, 116, 40, 49, 41, 32, 61, 32, 49, 10, 101, 120, 105, 116, 101, 100, 32, 48, 10]⟩) ∧ Below w.heap.size w w' := by
  obtain ⟨i0, hi0, hz0, hz1, hz2⟩ := info_parts str_info
  have hA1 := cell_alloc_if
  have hA2 := frozen_alloc_if
  have hA3 := cell_set_if
  go_enter Tryd.func19, Tryd.ntmps19
  go_wp2
  refine wp_loop_rounds 2 ?_
  rw [rounds_succ]
  go_wp2
  refine wp_loop_rounds 2 ?_
  rw [rounds_succ]
  go_wp2_with (first
    | (go_at_call 33; (with_reducible refine (written_one _).mono ?_); rintro e w1 ⟨rfl, hb1⟩; obtain ⟨hc1, hf1, hz1'⟩ := cif hb1; (try simp only [World.size_alloc, World.size_setCell, World.size_drew, World.heap_drewN] at hz1'))
    | (at_builtin
       refine wpList_append_own _ rfl _ _ 60 rfl w.heap.size 9 i0 (.string ⟨#[]⟩) 1 16 Tryd.underlying60 hi0 hz0 hz1 hz2 rfl (by decide) (.slice none 0 0) 0 [] rfl (World.ownsRow_nil _ _ _ _) ⟨w1.heap.size, 0, none⟩ 1 1 [.string ⟨#[49]⟩] rfl rfl ?c1 ?c2 ?c3 ?c4 ?c5 ?_))
  case c1 =>
    intro j u hj
    match j, hj with
    | 0, hj => simp at hj; subst hj; rw [add_at, cell_alloc_if, if_neg (by omega), if_pos rfl]; rfl
  case c2 => intro u hu; simp at hu; subst hu; rfl
  case c3 => unfold maxLen; omega
  case c4 => omega
  case c5 => simp; omega
  intro v1 w2 hown1 hg1 hne
  obtain ⟨A1, n1, c1, rfl⟩ : ∃ A1 n1 c1, v1 = .slice A1 n1 c1 := by
    rcases hown1.2 with ⟨hv, _⟩ | ⟨g, cap, cur, hv, _⟩
    · exact ⟨_, _, _, hv⟩
    · exact ⟨_, _, _, hv⟩
  have hn1 : n1 = 1 := by
    rcases hown1.2 with ⟨hv, h0⟩ | ⟨g, cap, cur, hv, _⟩
    · omega
    · simp only [Value.slice.injEq] at hv; omega
  subst hn1
  have hrd : RdL strC 1 w2 (.slice A1 1 c1) [⟨#[49]⟩] := RdL.of_own hown1 rfl (by
    intro k a hk j v hv
    match k, hk with
    | 0, hk =>
      simp at hk; subst hk
      match j, hv with
      | 0, hv => simpa [strC] using hv)
  have hbw2 : Below (w1.alloc (.cells #[.string ⟨#[49]⟩] 9)).heap.size (w1.alloc (.cells #[.string ⟨#[49]⟩] 9)) w2 := (Below.refl _ _).grown hg1 (Nat.le_refl _) (by simp [Value.ownBlock])
  obtain ⟨hc2, hf2, hz2'⟩ := cif hbw2
  simp only [World.size_alloc] at hz2'
  have HR := Lib.hid hrd
  clear hown1 hg1 hne hrd
  have hblk2 : w2.heap[w.heap.size + 1]? = some (.cells #[.pointer none, .slice none 0 0] 59 (0, 0)) := by
    rw [blkif hbw2, if_pos (by simp; omega), heap_alloc_if, if_pos (by omega), blkif hb1, if_pos (by simp)]
    simp only [heap_alloc_if, World.size_alloc]
    rw [if_pos (by omega), if_pos (by omega), if_neg (by omega), if_pos trivial]
  have HB2 := Lib.hid hblk2
  have hblkE : w2.heap[w.heap.size + 2]? = some (.cells #[.string ⟨#[112, 117, 116]⟩, .slice (some ⟨b2, off2, none⟩) 1 c2, .int .i64 1, .int .u64 1, .int .i64 0] 32 (0, 0)) := by
    rw [blkif hbw2, if_pos (by simp; omega), heap_alloc_if, if_pos (by omega), blkif hb1, if_pos (by simp)]
    simp only [heap_alloc_if, World.size_alloc]
    rw [if_pos (by omega), if_neg (by omega), if_pos trivial]
  have HE2 := Lib.hid hblkE
  have hblkO : w2.heap[w.heap.size]? = some (.cells #[.slice (some ⟨b, off, none⟩) 1 c, .int .i64 1, .int .i32 0, .int .i64 0] 40 (0, 0)) := by
    rw [blkif hbw2, if_pos (by simp; omega), heap_alloc_if, if_pos (by omega), blkif hb1, if_pos (by simp; omega)]
    simp only [heap_alloc_if, World.size_alloc]
    rw [if_pos (by omega), if_pos (by omega), if_pos (by omega), if_neg (by omega), if_pos trivial]
  have HO2 := Lib.hid hblkO
  clear hblkO
  clear hblkE
  have HJ : Hid (∀ W, Below w2.heap.size w2 W → Calls Tryd.prog 35 #[.slice A1 1 c1, .string ⟨#[44, 32]⟩] W fun e w' => e = .returned (.string ⟨#[49]⟩) ∧ Below W.heap.size W w') := Lib.hid fun W hW => join_one _ _ _ W (HR.out.next hW) (by decide +kernel) (by decide +kernel)
  clear hblk2
  go_wp2
  rw [rounds_succ]
  go_wp2
  go_region_with (first
    | (go_at_call 35; (with_reducible refine (HJ.out _ (by (repeat' (first | (with_reducible exact Below.refl _ _) | (with_reducible assumption) | (with_reducible refine Below.setCell ?_ ?_ _) | (with_reducible refine Below.alloc ?_ ?_ _) | (with_reducible refine Below.drew ?_) | (with_reducible refine below_drewN ?_ _) | (with_reducible refine below_next ?_ (by with_reducible assumption)) | omega | (dsimp only; omega) | (simp only [World.size_alloc, World.size_setCell, World.size_drew, World.heap_drewN]; omega))))).mono ?_); rintro e w3 ⟨rfl, hb3⟩; obtain ⟨hc3, hf3, hz3⟩ := cif hb3; (try simp only [World.size_alloc, World.size_setCell, World.size_drew, World.heap_drewN] at hz3))
    | (go_at_call 34; refine (writeString_any (w.heap.size + 1) (w.heap.size + 1) [] _ _ (.inl ⟨by omega, .slice none 0 0, (hb3.block _ (by simp; omega)).trans HB2.out, World.ownsRow_nil _ _ _ _, by simp [Value.ownBlock]⟩) (by decide) (by omega)).mono ?_; rintro e w4 ⟨rfl, ⟨hB4, hb4⟩, HK4⟩))
  all_goals (
    obtain ⟨hz4, hk4⟩ := HK4
    have h3 : w3.heap[w.heap.size + 1]? = some (.cells #[.pointer none, .slice none 0 0] 59 (0, 0)) := (hb3.block _ (by simp; omega)).trans HB2.out
    have h4 : w4.heap[w.heap.size + 2]? = some (.cells #[.string ⟨#[112, 117, 116]⟩, .slice (some ⟨b2, off2, none⟩) 1 c2, .int .i64 1, .int .u64 1, .int .i64 0] 32 (0, 0)) := by
      rw [hk4 _ (by omega) (by omega) (by
        intro v hv
        rw [Lib.cell_of_heap h3] at hv
        simp at hv; subst hv
        simp [Value.ownBlock])]
      exact (hb3.block _ (by simp; omega)).trans HE2.out
    have y1 : w4.cell? ⟨w.heap.size + 2, 2, none⟩ = some (.int .i64 1) := by rw [Lib.cell_of_heap h4]; rfl
    have y2 : w4.cell? ⟨w.heap.size + 2, 3, none⟩ = some (.int .u64 1) := by rw [Lib.cell_of_heap h4]; rfl
    have y3 : w4.cell? ⟨w.heap.size + 2, 4, none⟩ = some (.int .i64 0) := by rw [Lib.cell_of_heap h4]; rfl
    have hb4' : Below w.heap.size w w4 := Below.trans (by (repeat' (first | (with_reducible exact Below.refl _ _) | (with_reducible assumption) | (with_reducible refine Below.setCell ?_ ?_ _) | (with_reducible refine Below.alloc ?_ ?_ _) | (with_reducible refine Below.drew ?_) | (with_reducible refine below_drewN ?_ _) | (with_reducible refine below_next ?_ (by with_reducible assumption)) | omega | (dsimp only; omega) | (simp only [World.size_alloc, World.size_setCell, World.size_drew, World.heap_drewN]; omega)))) (hb4.mono (Nat.le_succ _))
    have h4o := (hb4.block w.heap.size (by omega)).trans ((hb3.block _ (by simp; omega)).trans HO2.out)
    have HO4 := Lib.hid h4o
    clear h4o
    clear hc1 hf1 hc2 hf2 hc3 hf3 h3 h4 hk4 hb1 hbw2 hb3 hb4
    have HB4 := Lib.hid hB4
    clear hB4
    go_wp2_with (first
      | (go_at_call 33; (with_reducible refine (written_one _).mono ?_); rintro e w5 ⟨rfl, hb5⟩; obtain ⟨hc5, hf5, hz5⟩ := cif hb5; (try simp only [World.size_alloc, World.size_setCell, World.size_drew, World.heap_drewN] at hz5))
      | (go_at_call 34; refine (writeString_any (w.heap.size + 1) (w.heap.size + 1) _ _ _ (.inr (builder_next HB6.out (by (repeat' (first | (with_reducible exact Below.refl _ _) | (with_reducible assumption) | (with_reducible refine Below.setCell ?_ ?_ _) | (with_reducible refine Below.alloc ?_ ?_ _) | (with_reducible refine Below.drew ?_) | (with_reducible refine below_drewN ?_ _) | (with_reducible refine below_next ?_ (by with_reducible assumption)) | omega | (dsimp only; omega) | (simp only [World.size_alloc, World.size_setCell, World.size_drew, World.heap_drewN]; omega)))))) (by simp [Lib.strCells, ByteArray.size]) (by omega)).mono ?_; rintro e w7 ⟨rfl, ⟨hB7, hb7⟩, HK7⟩)
      | (go_at_call 34; refine (writeString_any (w.heap.size + 1) (w.heap.size + 1) _ _ _ (.inr (builder_next HB4.out (by (repeat' (first | (with_reducible exact Below.refl _ _) | (with_reducible assumption) | (with_reducible refine Below.setCell ?_ ?_ _) | (with_reducible refine Below.alloc ?_ ?_ _) | (with_reducible refine Below.drew ?_) | (with_reducible refine below_drewN ?_ _) | (with_reducible refine below_next ?_ (by with_reducible assumption)) | omega | (dsimp only; omega) | (simp only [World.size_alloc, World.size_setCell, World.size_drew, World.heap_drewN]; omega)))))) (by simp [Lib.strCells, ByteArray.size]) (by omega)).mono ?_; rintro e w6 ⟨rfl, ⟨hB6, hb6⟩, HK6⟩; have HB6 := Lib.hid hB6; have hz6 := HK6.1; clear hB6 HK6)))
  all_goals (
    have HO7 := Lib.hid ((hb7.block w.heap.size (by omega)).trans ((hb6.block _ (by omega)).trans ((hb5.block _ (by first | omega | (simp; omega))).trans HO4.out)))
    have hz7 := HK7.1
    have hb6' : Below w.heap.size w w6 := Below.trans (by (repeat' (first | (with_reducible exact Below.refl _ _) | (with_reducible assumption) | (with_reducible refine Below.setCell ?_ ?_ _) | (with_reducible refine Below.alloc ?_ ?_ _) | (with_reducible refine Below.drew ?_) | (with_reducible refine below_drewN ?_ _) | (with_reducible refine below_next ?_ (by with_reducible assumption)) | omega | (dsimp only; omega) | (simp only [World.size_alloc, World.size_setCell, World.size_drew, World.heap_drewN]; omega)))) (hb6.mono (Nat.le_succ _))
    have hb7' : Below w.heap.size w w7 := Below.trans (by (repeat' (first | (with_reducible exact Below.refl _ _) | (with_reducible assumption) | (with_reducible refine Below.setCell ?_ ?_ _) | (with_reducible refine Below.alloc ?_ ?_ _) | (with_reducible refine Below.drew ?_) | (with_reducible refine below_drewN ?_ _) | (with_reducible refine below_next ?_ (by with_reducible assumption)) | omega | (dsimp only; omega) | (simp only [World.size_alloc, World.size_setCell, World.size_drew, World.heap_drewN]; omega)))) (hb7.mono (Nat.le_succ _))
    have HB8 : Hid (Lib.BuilderAt 59 5 (w.heap.size + 1) (w.heap.size + 1) (.pointer (some ⟨w.heap.size + 1, 0, none⟩)) (Lib.byteCells [112, 117, 116, 40, 49, 41, 32, 61, 32, 49, 10]) w7) := Lib.hid (Eq.mp (congrArg (fun bs => Lib.BuilderAt _ _ _ _ _ bs _) (by kernel_rfl)) hB7)
    have y1' : w7.cell? ⟨w.heap.size, 0, none⟩ = some (.slice (some ⟨b, off, none⟩) 1 c) := by rw [Lib.cell_of_heap HO7.out]; rfl
    have y2' : w7.cell? ⟨w.heap.size, 1, none⟩ = some (.int .i64 1) := by rw [Lib.cell_of_heap HO7.out]; rfl
    have y3' : w7.cell? ⟨w.heap.size, 2, none⟩ = some (.int .i32 0) := by rw [Lib.cell_of_heap HO7.out]; rfl
    have y4' : w7.cell? ⟨w.heap.size, 3, none⟩ = some (.int .i64 0) := by rw [Lib.cell_of_heap HO7.out]; rfl
    clear HK7 hB7 hb6 hb7 hb5 hc5 hf5 HO4 HO7
    rw [rounds_succ]
    go_wp2
    go_region_with (first
      | (go_at_call 36; refine (Tryd.Builder_String_any (w.heap.size + 1) (w.heap.size + 1) [112, 117, 116, 40, 49, 41, 32, 61, 32, 49, 10] _ (.inr (builder_next HB8.out (by (repeat' (first | (with_reducible exact Below.refl _ _) | (with_reducible assumption) | (with_reducible refine Below.setCell ?_ ?_ _) | (with_reducible refine Below.alloc ?_ ?_ _) | (with_reducible refine Below.drew ?_) | (with_reducible refine below_drewN ?_ _) | (with_reducible refine below_next ?_ (by with_reducible assumption)) | omega | (dsimp only; omega) | (simp only [World.size_alloc, World.size_setCell, World.size_drew, World.heap_drewN]; omega)))))) (by first | omega | (simp; omega))).mono ?_; rintro e w8 ⟨rfl, hb8⟩; have hq8 := fun o => hb8.cell (p := ⟨w.heap.size, o, none⟩) (Nat.lt_succ_self _); (try dsimp only at hq8); have hz8 := hb8.size; (try simp only [World.size_alloc, World.size_setCell, World.size_drew, World.heap_drewN] at hz8); have hb8' : Below w.heap.size w w8 := Below.trans (by (repeat' (first | (with_reducible exact Below.refl _ _) | (with_reducible assumption) | (with_reducible refine Below.setCell ?_ ?_ _) | (with_reducible refine Below.alloc ?_ ?_ _) | (with_reducible refine Below.drew ?_) | (with_reducible refine below_drewN ?_ _) | (with_reducible refine below_next ?_ (by with_reducible assumption)) | omega | (dsimp only; omega) | (simp only [World.size_alloc, World.size_setCell, World.size_drew, World.heap_drewN]; omega)))) (hb8.mono (Nat.le_succ _)); clear hb8)
      | (go_at_call 37; (with_reducible refine (ending_one _ _ _ _).mono ?_); rintro e w9 ⟨rfl, hb9⟩; obtain ⟨hc9, hf9, hz9⟩ := cif hb9; (try simp only [World.size_alloc, World.size_setCell, World.size_drew, World.heap_drewN] at hz9)))
    all_goals (go_wp2; go_returns; refine ⟨congrArg (fun s => Ending.returned (Value.string s)) (by kernel_rfl), by (repeat' (first | (with_reducible exact Below.refl _ _) | (with_reducible assumption) | (with_reducible refine Below.setCell ?_ ?_ _) | (with_reducible refine Below.alloc ?_ ?_ _) | (with_reducible refine Below.drew ?_) | (with_reducible refine below_drewN ?_ _) | (with_reducible refine below_next ?_ (by with_reducible assumption)) | omega | (dsimp only; omega) | (simp only [World.size_alloc, World.size_setCell, World.size_drew, World.heap_drewN]; omega)))⟩))


end Go.Proofs.YteepjngkbjbheaaDoor
