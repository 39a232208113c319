/-
  The program's memory: Store.
-/
import Derived.Test.YtddipbpllogbaaaMemW3
namespace Go.Proofs.Ytddipbpllogbaaa
open Go.RowKit
set_option linter.unusedVariables false
set_option linter.unusedSimpArgs false

/-- Does a chunk take a value? -/
def takesA (chunk k : Int) : Bool := decide (k = 0 ∨ k = kindV chunk ∨ (k = 4 ∧ chunk = 6))
set_option maxRecDepth 100000 in
set_option maxHeartbeats 4000000 in
theorem takes_any (chunk k b l : Int) (w : World) :
    Calls Try.prog 39 #[.int .i64 chunk, .agg #[.int .i64 k, .int .u64 b, .int .i64 l]] w fun e w' => e = .returned (.bool (takesA chunk k)) ∧ Below w.heap.size w w' := by
  have HK := Lib.hid (kind_any chunk)
  by_cases c0 : k = 0
  · have e : takesA chunk k = true := by simp [takesA, c0]
    rw [e]
    subst c0
    clear e
    have hA1 := cell_alloc_if
    have hA2 := frozen_alloc_if
    have hA3 := cell_set_if
    go_enter Try.func39, Try.ntmps39
    go_wp2
    refine wp_region_ext (by kernel_rfl) (by kernel_rfl) ?_
    repeat (first | go_big_quiet_skip | (go_big_quiet_want; go_big_quiet_op; first | go_big_quiet_on | (apply Exists.intro; refine ⟨fun W hW => ?_, ?_⟩; (focus (first
      | (go_at_call 26; (with_reducible refine (HK.out _).mono ?_); rintro e w1 ⟨rfl, rfl⟩; exact ⟨rfl, hW⟩)
      | exact rfl | (obtain ⟨hcW, hfW, hzW⟩ := cif (Ext.of hW); (try simp only [World.size_alloc, World.size_setCell, World.size_drew, World.heap_drewN] at hzW); simp [go_sem, *, ↓IntWalk.iteOmega]; (try exact rfl)))); go_big_quiet_on)))
    refine wpQuiet_nil ?_
    intro w' hw'
    have hbl := Ext.of hw'
    obtain ⟨hc, hf, hz⟩ := cif hbl
    (try simp only [World.size_alloc, World.size_setCell, World.size_drew, World.heap_drewN] at hz)
    clear hw'
    go_wp2
    go_returns
    exact ⟨rfl, by (repeat' (first | (with_reducible exact Below.refl _ _) | (with_reducible assumption) | (with_reducible refine Below.setCell ?_ ?_ _) | (with_reducible refine Below.alloc ?_ ?_ _) | (with_reducible refine Below.drew ?_) | (with_reducible refine below_drewN ?_ _) | (with_reducible refine below_next ?_ (by with_reducible assumption)) | omega | (dsimp only; omega) | (simp only [World.size_alloc, World.size_setCell, World.size_drew, World.heap_drewN]; omega)))⟩
  · have d0 : (k == 0) = false := by simpa using c0
    by_cases c1 : k = kindV chunk
    · have e : takesA chunk k = true := by simp [takesA, c1]
      have d1 : (k == kindV chunk) = true := by simpa using c1
      rw [e]
      clear e c1
      generalize kindV chunk = kv at *
      have hA1 := cell_alloc_if
      have hA2 := frozen_alloc_if
      have hA3 := cell_set_if
      go_enter Try.func39, Try.ntmps39
      go_wp2
      refine wp_region_ext (by kernel_rfl) (by kernel_rfl) ?_
      repeat (first | go_big_quiet_skip | (go_big_quiet_want; go_big_quiet_op; first | go_big_quiet_on | (apply Exists.intro; refine ⟨fun W hW => ?_, ?_⟩; (focus (first
        | (go_at_call 26; (with_reducible refine (HK.out _).mono ?_); rintro e w1 ⟨rfl, rfl⟩; exact ⟨rfl, hW⟩)
        | exact rfl | (obtain ⟨hcW, hfW, hzW⟩ := cif (Ext.of hW); (try simp only [World.size_alloc, World.size_setCell, World.size_drew, World.heap_drewN] at hzW); simp [go_sem, *, ↓IntWalk.iteOmega]; (try exact rfl)))); go_big_quiet_on)))
      refine wpQuiet_nil ?_
      intro w' hw'
      have hbl := Ext.of hw'
      obtain ⟨hc, hf, hz⟩ := cif hbl
      (try simp only [World.size_alloc, World.size_setCell, World.size_drew, World.heap_drewN] at hz)
      clear hw'
      go_wp2
      go_returns
      exact ⟨rfl, by (repeat' (first | (with_reducible exact Below.refl _ _) | (with_reducible assumption) | (with_reducible refine Below.setCell ?_ ?_ _) | (with_reducible refine Below.alloc ?_ ?_ _) | (with_reducible refine Below.drew ?_) | (with_reducible refine below_drewN ?_ _) | (with_reducible refine below_next ?_ (by with_reducible assumption)) | omega | (dsimp only; omega) | (simp only [World.size_alloc, World.size_setCell, World.size_drew, World.heap_drewN]; omega)))⟩
    · have d1 : (k == kindV chunk) = false := by simpa using c1
      by_cases c4 : k = 4
      · have d4 : (k == 4) = true := by simpa using c4
        by_cases c6 : chunk = 6
        · have e : takesA chunk k = true := by simp [takesA, c4, c6]
          have d6 : (chunk == 6) = true := by simpa using c6
          rw [e]
          clear e c1 c4 c6
          generalize kindV chunk = kv at *
          have hA1 := cell_alloc_if
          have hA2 := frozen_alloc_if
          have hA3 := cell_set_if
          go_enter Try.func39, Try.ntmps39
          go_wp2
          refine wp_region_ext (by kernel_rfl) (by kernel_rfl) ?_
          repeat (first | go_big_quiet_skip | (go_big_quiet_want; go_big_quiet_op; first | go_big_quiet_on | (apply Exists.intro; refine ⟨fun W hW => ?_, ?_⟩; (focus (first
            | (go_at_call 26; (with_reducible refine (HK.out _).mono ?_); rintro e w1 ⟨rfl, rfl⟩; exact ⟨rfl, hW⟩)
            | exact rfl | (obtain ⟨hcW, hfW, hzW⟩ := cif (Ext.of hW); (try simp only [World.size_alloc, World.size_setCell, World.size_drew, World.heap_drewN] at hzW); simp [go_sem, *, ↓IntWalk.iteOmega]; (try exact rfl)))); go_big_quiet_on)))
          refine wpQuiet_nil ?_
          intro w' hw'
          have hbl := Ext.of hw'
          obtain ⟨hc, hf, hz⟩ := cif hbl
          (try simp only [World.size_alloc, World.size_setCell, World.size_drew, World.heap_drewN] at hz)
          clear hw'
          go_wp2
          go_returns
          exact ⟨rfl, by (repeat' (first | (with_reducible exact Below.refl _ _) | (with_reducible assumption) | (with_reducible refine Below.setCell ?_ ?_ _) | (with_reducible refine Below.alloc ?_ ?_ _) | (with_reducible refine Below.drew ?_) | (with_reducible refine below_drewN ?_ _) | (with_reducible refine below_next ?_ (by with_reducible assumption)) | omega | (dsimp only; omega) | (simp only [World.size_alloc, World.size_setCell, World.size_drew, World.heap_drewN]; omega)))⟩
        · have e : takesA chunk k = false := by simp [takesA, c0, c1, c6]
          have d6 : (chunk == 6) = false := by simpa using c6
          rw [e]
          clear e c1 c4 c6
          generalize kindV chunk = kv at *
          have hA1 := cell_alloc_if
          have hA2 := frozen_alloc_if
          have hA3 := cell_set_if
          go_enter Try.func39, Try.ntmps39
          go_wp2
          refine wp_region_ext (by kernel_rfl) (by kernel_rfl) ?_
          repeat (first | go_big_quiet_skip | (go_big_quiet_want; go_big_quiet_op; first | go_big_quiet_on | (apply Exists.intro; refine ⟨fun W hW => ?_, ?_⟩; (focus (first
            | (go_at_call 26; (with_reducible refine (HK.out _).mono ?_); rintro e w1 ⟨rfl, rfl⟩; exact ⟨rfl, hW⟩)
            | exact rfl | (obtain ⟨hcW, hfW, hzW⟩ := cif (Ext.of hW); (try simp only [World.size_alloc, World.size_setCell, World.size_drew, World.heap_drewN] at hzW); simp [go_sem, *, ↓IntWalk.iteOmega]; (try exact rfl)))); go_big_quiet_on)))
          refine wpQuiet_nil ?_
          intro w' hw'
          have hbl := Ext.of hw'
          obtain ⟨hc, hf, hz⟩ := cif hbl
          (try simp only [World.size_alloc, World.size_setCell, World.size_drew, World.heap_drewN] at hz)
          clear hw'
          go_wp2
          go_returns
          exact ⟨rfl, by (repeat' (first | (with_reducible exact Below.refl _ _) | (with_reducible assumption) | (with_reducible refine Below.setCell ?_ ?_ _) | (with_reducible refine Below.alloc ?_ ?_ _) | (with_reducible refine Below.drew ?_) | (with_reducible refine below_drewN ?_ _) | (with_reducible refine below_next ?_ (by with_reducible assumption)) | omega | (dsimp only; omega) | (simp only [World.size_alloc, World.size_setCell, World.size_drew, World.heap_drewN]; omega)))⟩
      · have e : takesA chunk k = false := by simp [takesA, c0, c1, c4]
        have d4 : (k == 4) = false := by simpa using c4
        rw [e]
        clear e c1 c4
        generalize kindV chunk = kv at *
        have hA1 := cell_alloc_if
        have hA2 := frozen_alloc_if
        have hA3 := cell_set_if
        go_enter Try.func39, Try.ntmps39
        go_wp2
        refine wp_region_ext (by kernel_rfl) (by kernel_rfl) ?_
        repeat (first | go_big_quiet_skip | (go_big_quiet_want; go_big_quiet_op; first | go_big_quiet_on | (apply Exists.intro; refine ⟨fun W hW => ?_, ?_⟩; (focus (first
          | (go_at_call 26; (with_reducible refine (HK.out _).mono ?_); rintro e w1 ⟨rfl, rfl⟩; exact ⟨rfl, hW⟩)
          | exact rfl | (obtain ⟨hcW, hfW, hzW⟩ := cif (Ext.of hW); (try simp only [World.size_alloc, World.size_setCell, World.size_drew, World.heap_drewN] at hzW); simp [go_sem, *, ↓IntWalk.iteOmega]; (try exact rfl)))); go_big_quiet_on)))
        refine wpQuiet_nil ?_
        intro w' hw'
        have hbl := Ext.of hw'
        obtain ⟨hc, hf, hz⟩ := cif hbl
        (try simp only [World.size_alloc, World.size_setCell, World.size_drew, World.heap_drewN] at hz)
        clear hw'
        go_wp2
        go_returns
        exact ⟨rfl, by (repeat' (first | (with_reducible exact Below.refl _ _) | (with_reducible assumption) | (with_reducible refine Below.setCell ?_ ?_ _) | (with_reducible refine Below.alloc ?_ ?_ _) | (with_reducible refine Below.drew ?_) | (with_reducible refine below_drewN ?_ _) | (with_reducible refine below_next ?_ (by with_reducible assumption)) | omega | (dsimp only; omega) | (simp only [World.size_alloc, World.size_setCell, World.size_drew, World.heap_drewN]; omega)))⟩

/-- The i-th cell of a value. -/
def pieceOf (v : V) (i : Nat) : Int := if v.k = 0 then 256 else if v.k = 4 then 512 + i else (v.b / 2 ^ (8 * i)) % 256
/-- The cells with the first k of a value's pieces put there. -/
def setN (cells : List Int) (off : Nat) (v : V) : Nat → List Int
  | 0 => cells
  | k + 1 => (setN cells off v k).set (off + k) (pieceOf v k)
theorem setN_len (cells : List Int) (off : Nat) (v : V) : ∀ k, (setN cells off v k).length = cells.length
  | 0 => rfl
  | k + 1 => by simp [setN, setN_len cells off v k]
theorem pieceOf_range (v : V) (hb : 0 ≤ v.b) (i : Nat) (hi : i < 8) : 0 ≤ pieceOf v i ∧ pieceOf v i < 65536 := by
  unfold pieceOf
  split
  · omega
  · split
    · omega
    · omega
theorem setN_range {cells : List Int} {off : Nat} {v : V} (hb : 0 ≤ v.b) (h : ∀ x ∈ cells, 0 ≤ x ∧ x < 65536) : ∀ k, k ≤ 8 → ∀ x ∈ setN cells off v k, 0 ≤ x ∧ x < 65536
  | 0, _ => h
  | k + 1, hk => fun x hx => by
    rcases List.mem_or_eq_of_mem_set hx with h1 | h1
    · exact setN_range hb h k (by omega) x h1
    · rw [h1]; exact pieceOf_range v hb k (by omega)

/-- W, but for one row of cells. -/
structure RowT (g : Nat) (W wr : World) (xs : List Int) : Prop where
  size : wr.heap.size = W.heap.size
  others : ∀ i, i ≠ g → wr.heap[i]? = W.heap[i]?
  row : wr.heap[g]? = some (.cells (xs.map (Value.int .u16)).toArray 64 (0, 0))
  low : Below g W wr
theorem RowT.step {g : Nat} {W wr : World} {xs : List Int} (h : RowT g W wr xs) (o : Nat) (v : Int) : RowT g W (wr.setCell ⟨g, o, none⟩ (.int .u16 v)) (xs.set o v) where
  size := by rw [World.size_setCell]; exact h.size
  others i hi := (heap_set_ne _ _ _ hi).trans (h.others i hi)
  row := by rw [heap_set_at h.row]; simp [List.map_set]
  low := h.low.setCell (Nat.le_refl _) _
theorem RowT.drewN {g : Nat} {W wr : World} {xs : List Int} (h : RowT g W wr xs) (n : Nat) : RowT g W (wr.drewN n) xs := ⟨h.size, h.others, h.row, below_drewN h.low n⟩
theorem RowT.drew {g : Nat} {W wr : World} {xs : List Int} (h : RowT g W wr xs) : RowT g W wr.drew xs := ⟨h.size, h.others, h.row, h.low.drew⟩
theorem RowT.cell {g : Nat} {W wr : World} {xs : List Int} (h : RowT g W wr xs) {i : Nat} {c : Array Value} {t : TypeId} {fr : Nat × Nat} (hi : W.heap[i]? = some (.cells c t fr)) (hg : i ≠ g) (o : Nat) : wr.cell? ⟨i, o, none⟩ = c[o]? := by
  rw [Lib.cell_of_heap ((h.others i hg).trans hi)]

set_option maxRecDepth 100000 in
set_option maxHeartbeats 4000000 in
theorem store_none {w : World} {base pm bm nb last cap : Nat} {M : Int → Option Bk} (h : MemS w base pm bm nb last cap M) (chunk k b l vk vb vl : Int) (hl : I64 l) (hf : findA M chunk ⟨k, b, l⟩ = none) :
    Calls Try.prog 17 #[.pointer (some ⟨pm, 0, none⟩), .int .i64 chunk, .agg #[.int .i64 k, .int .u64 b, .int .i64 l], .agg #[.int .i64 vk, .int .u64 vb, .int .i64 vl]] w fun e w' => e = .returned (.bool false) ∧ Below w.heap.size w w' := by
  have hfv : findV M chunk ⟨k, b, l⟩ = .tuple #[.pointer none, .int .i64 0] := by unfold findV; rw [hf]
  have HF := Lib.hid (fun W (hW : Ext w W) => find_any (h.next (Ext.of hW)) chunk k b l hl)
  rw [hfv] at HF
  clear h hf hfv
  have hA1 := cell_alloc_if
  have hA2 := frozen_alloc_if
  have hA3 := cell_set_if
  go_enter Try.func17, Try.ntmps17
  go_wp2_with (first
    | (go_at_call 32; (with_reducible refine (HF.out _ (by unfold Ext; (repeat' (first | (with_reducible exact Below.refl _ _) | (with_reducible assumption) | (with_reducible refine Below.setCell ?_ ?_ _) | (with_reducible refine Below.alloc ?_ ?_ _) | (with_reducible refine Below.drew ?_) | (with_reducible refine below_drewN ?_ _) | (with_reducible refine below_next ?_ (by with_reducible assumption)) | omega | (dsimp only; omega) | (simp only [World.size_alloc, World.size_setCell, World.size_drew, World.heap_drewN]; omega))))).mono ?_); rintro e wF ⟨rfl, hbF⟩; obtain ⟨hcF, hfF, hzF⟩ := cif hbF; (try simp only [World.size_alloc, World.size_setCell, World.size_drew, World.heap_drewN] at hzF))
    | (go_at_call 39; (with_reducible refine (takes_any _ _ _ _ _).mono ?_); rintro e wT ⟨rfl, hbT⟩; obtain ⟨hcT, hfT, hzT⟩ := cif hbT; (try simp only [World.size_alloc, World.size_setCell, World.size_drew, World.heap_drewN] at hzT))
    | (go_at_call 24; (with_reducible refine (HS.out _).mono ?_); rintro e w2 ⟨rfl, rfl⟩))
  go_returns
  exact ⟨rfl, by (repeat' (first | (with_reducible exact Below.refl _ _) | (with_reducible assumption) | (with_reducible refine Below.setCell ?_ ?_ _) | (with_reducible refine Below.alloc ?_ ?_ _) | (with_reducible refine Below.drew ?_) | (with_reducible refine below_drewN ?_ _) | (with_reducible refine below_next ?_ (by with_reducible assumption)) | omega | (dsimp only; omega) | (simp only [World.size_alloc, World.size_setCell, World.size_drew, World.heap_drewN]; omega)))⟩

set_option maxRecDepth 100000 in
set_option maxHeartbeats 4000000 in
theorem store_fixed {w : World} {base pm bm nb last cap : Nat} {M : Int → Option Bk} (h : MemS w base pm bm nb last cap M) (chunk k b l vk vb vl : Int) (hl : I64 l) (B : Bk) (off : Nat) (hf : findA M chunk ⟨k, b, l⟩ = some (B, off)) (hfx : B.fixed = true) :
    Calls Try.prog 17 #[.pointer (some ⟨pm, 0, none⟩), .int .i64 chunk, .agg #[.int .i64 k, .int .u64 b, .int .i64 l], .agg #[.int .i64 vk, .int .u64 vb, .int .i64 vl]] w fun e w' => e = .returned (.bool false) ∧ Below w.heap.size w w' := by
  have hfv : findV M chunk ⟨k, b, l⟩ = .tuple #[.pointer (some ⟨B.b, 0, none⟩), .int .i64 off] := by unfold findV; rw [hf]
  have HF := Lib.hid (fun W (hW : Ext w W) => find_any (h.next (Ext.of hW)) chunk k b l hl)
  rw [hfv] at HF
  obtain ⟨hk, hM, hn1, ho1, ho2, ho3⟩ := findA_some hf
  dsimp only at hk hM ho1
  subst hk
  have hB := h.at_ l B hM
  have b0 : w.cell? ⟨B.b, 0, none⟩ = some (.slice (some ⟨B.g, 0, none⟩) B.cells.length B.cells.length) := by rw [Lib.cell_of_heap hB.own]; rfl
  have b2 : w.cell? ⟨B.b, 2, none⟩ = some (.bool B.fixed) := by rw [Lib.cell_of_heap hB.own]; rfl
  have hltb := hB.lt.1
  have hltg := hB.lt.2.1
  have hlen := (h.keys l B hM).2.2.2.2.2.2.1
  rw [hfx] at b2
  clear h hf hfv hB hM hfx hn1
  have hA1 := cell_alloc_if
  have hA2 := frozen_alloc_if
  have hA3 := cell_set_if
  go_enter Try.func17, Try.ntmps17
  go_wp2_with (first
    | (go_at_call 32; (with_reducible refine (HF.out _ (by unfold Ext; (repeat' (first | (with_reducible exact Below.refl _ _) | (with_reducible assumption) | (with_reducible refine Below.setCell ?_ ?_ _) | (with_reducible refine Below.alloc ?_ ?_ _) | (with_reducible refine Below.drew ?_) | (with_reducible refine below_drewN ?_ _) | (with_reducible refine below_next ?_ (by with_reducible assumption)) | omega | (dsimp only; omega) | (simp only [World.size_alloc, World.size_setCell, World.size_drew, World.heap_drewN]; omega))))).mono ?_); rintro e wF ⟨rfl, hbF⟩; obtain ⟨hcF, hfF, hzF⟩ := cif hbF; (try simp only [World.size_alloc, World.size_setCell, World.size_drew, World.heap_drewN] at hzF))
    | (go_at_call 39; (with_reducible refine (takes_any _ _ _ _ _).mono ?_); rintro e wT ⟨rfl, hbT⟩; obtain ⟨hcT, hfT, hzT⟩ := cif hbT; (try simp only [World.size_alloc, World.size_setCell, World.size_drew, World.heap_drewN] at hzT))
    | (go_at_call 24; (with_reducible refine (HS.out _).mono ?_); rintro e w2 ⟨rfl, rfl⟩))
  go_returns
  exact ⟨rfl, by (repeat' (first | (with_reducible exact Below.refl _ _) | (with_reducible assumption) | (with_reducible refine Below.setCell ?_ ?_ _) | (with_reducible refine Below.alloc ?_ ?_ _) | (with_reducible refine Below.drew ?_) | (with_reducible refine below_drewN ?_ _) | (with_reducible refine below_next ?_ (by with_reducible assumption)) | omega | (dsimp only; omega) | (simp only [World.size_alloc, World.size_setCell, World.size_drew, World.heap_drewN]; omega)))⟩
set_option maxRecDepth 100000 in
set_option maxHeartbeats 4000000 in
theorem store_not {w : World} {base pm bm nb last cap : Nat} {M : Int → Option Bk} (h : MemS w base pm bm nb last cap M) (chunk k b l vk vb vl : Int) (hl : I64 l) (B : Bk) (off : Nat) (hf : findA M chunk ⟨k, b, l⟩ = some (B, off)) (hfx : B.fixed = false) (ht : takesA chunk vk = false) :
    Calls Try.prog 17 #[.pointer (some ⟨pm, 0, none⟩), .int .i64 chunk, .agg #[.int .i64 k, .int .u64 b, .int .i64 l], .agg #[.int .i64 vk, .int .u64 vb, .int .i64 vl]] w fun e w' => e = .returned (.bool false) ∧ Below w.heap.size w w' := by
  have hfv : findV M chunk ⟨k, b, l⟩ = .tuple #[.pointer (some ⟨B.b, 0, none⟩), .int .i64 off] := by unfold findV; rw [hf]
  have HF := Lib.hid (fun W (hW : Ext w W) => find_any (h.next (Ext.of hW)) chunk k b l hl)
  rw [hfv] at HF
  obtain ⟨hk, hM, hn1, ho1, ho2, ho3⟩ := findA_some hf
  dsimp only at hk hM ho1
  subst hk
  have hB := h.at_ l B hM
  have b0 : w.cell? ⟨B.b, 0, none⟩ = some (.slice (some ⟨B.g, 0, none⟩) B.cells.length B.cells.length) := by rw [Lib.cell_of_heap hB.own]; rfl
  have b2 : w.cell? ⟨B.b, 2, none⟩ = some (.bool B.fixed) := by rw [Lib.cell_of_heap hB.own]; rfl
  have hltb := hB.lt.1
  have hltg := hB.lt.2.1
  have hlen := (h.keys l B hM).2.2.2.2.2.2.1
  rw [hfx] at b2
  clear h hf hfv hB hM hfx hn1
  have hA1 := cell_alloc_if
  have hA2 := frozen_alloc_if
  have hA3 := cell_set_if
  go_enter Try.func17, Try.ntmps17
  go_wp2_with (first
    | (go_at_call 32; (with_reducible refine (HF.out _ (by unfold Ext; (repeat' (first | (with_reducible exact Below.refl _ _) | (with_reducible assumption) | (with_reducible refine Below.setCell ?_ ?_ _) | (with_reducible refine Below.alloc ?_ ?_ _) | (with_reducible refine Below.drew ?_) | (with_reducible refine below_drewN ?_ _) | (with_reducible refine below_next ?_ (by with_reducible assumption)) | omega | (dsimp only; omega) | (simp only [World.size_alloc, World.size_setCell, World.size_drew, World.heap_drewN]; omega))))).mono ?_); rintro e wF ⟨rfl, hbF⟩; obtain ⟨hcF, hfF, hzF⟩ := cif hbF; (try simp only [World.size_alloc, World.size_setCell, World.size_drew, World.heap_drewN] at hzF))
    | (go_at_call 39; (with_reducible refine (takes_any _ _ _ _ _).mono ?_); rintro e wT ⟨rfl, hbT⟩; obtain ⟨hcT, hfT, hzT⟩ := cif hbT; (try simp only [World.size_alloc, World.size_setCell, World.size_drew, World.heap_drewN] at hzT))
    | (go_at_call 24; (with_reducible refine (HS.out _).mono ?_); rintro e w2 ⟨rfl, rfl⟩))
  go_returns
  exact ⟨rfl, by (repeat' (first | (with_reducible exact Below.refl _ _) | (with_reducible assumption) | (with_reducible refine Below.setCell ?_ ?_ _) | (with_reducible refine Below.alloc ?_ ?_ _) | (with_reducible refine Below.drew ?_) | (with_reducible refine below_drewN ?_ _) | (with_reducible refine below_next ?_ (by with_reducible assumption)) | omega | (dsimp only; omega) | (simp only [World.size_alloc, World.size_setCell, World.size_drew, World.heap_drewN]; omega)))⟩

theorem left_of_row {w wT wr : World} {base pm bm nb last cap : Nat} {M : Int → Option Bk} (h : MemS w base pm bm nb last cap M) {l : Int} {B : Bk} (hM : M l = some B) (hb : Below w.heap.size w wT) {off : Nat} {v : V} {j : Nat} (T : RowT B.g wT wr (setN B.cells off v j)) (hv : 0 ≤ v.b ∧ j ≤ 8) :
    Left w wr base pm bm nb last cap (setK M l (some { B with cells := setN B.cells off v j })) := by
  obtain ⟨a1, a2, a3, a4, a5, a6, a7, a8, a9⟩ := h.keys l B hM
  have hB := h.at_ l B hM
  have hBT := hB.next hb
  obtain ⟨es', cl', ho'⟩ := hBT.ptrs.obj
  have hne : ∀ i, i ≠ B.b → i ≠ B.g → i ≠ B.pb → wr.heap[i]? = wT.heap[i]? := fun i _ h2 _ => T.others i h2
  have h1 : BkAt wr { B with cells := setN B.cells off v j } := by
    refine ⟨?_, T.row, ?_⟩
    · show wr.heap[B.b]? = some (.cells #[.slice (some ⟨B.g, 0, none⟩) (setN B.cells off v j).length (setN B.cells off v j).length, .map (some B.pb), .bool B.fixed] _ (0, 0))
      rw [setN_len, T.others B.b (h.b_ne_g hM hM)]
      exact hBT.own
    · exact hBT.ptrs.block (T.others _ (map_ne ho' hBT.row))
  exact {
    mem := (h.next hb).upd hM { B with cells := setN B.cells off v j } ⟨rfl, rfl, rfl⟩ h1 hne ⟨by show (setN B.cells off v j).length ≤ _; rw [setN_len]; exact a7, setN_range hv.1 a9 j hv.2⟩ ⟨a8, Nat.le_refl _, h.nbc.2.2⟩
    low := (hb.mono (by have := lt_of_block h.top; have := h.lo; omega)).trans (T.low.mono a4)
    kept := (KeptT.of_below hb).trans (KeptT.of_ne (by rw [T.size]; exact Nat.le_refl _) (h.next hb) hM fun i h1 h2 h3 _ => hne i h1 h2 h3)
    foot := Foot.after (Foot.of_ne (B' := { B with cells := setN B.cells off v j }) fun i h1 h2 h3 _ => hne i h1 h2 h3) hb }

set_option maxRecDepth 100000 in
set_option maxHeartbeats 4000000 in
theorem store_yes {w : World} {base pm bm nb last cap : Nat} {M : Int → Option Bk} (h : MemS w base pm bm nb last cap M) (chunk k b l vk vb vl n : Int) (hl : I64 l) (hvb : U64 vb) (B : Bk) (off : Nat) (hf : findA M chunk ⟨k, b, l⟩ = some (B, off)) (hfx : B.fixed = false) (ht : takesA chunk vk = true) (hn : sizeV chunk = n) (hn1 : 1 ≤ n ∧ n ≤ 8) (hv4 : vk ≠ 4) :
    Calls Try.prog 17 #[.pointer (some ⟨pm, 0, none⟩), .int .i64 chunk, .agg #[.int .i64 k, .int .u64 b, .int .i64 l], .agg #[.int .i64 vk, .int .u64 vb, .int .i64 vl]] w fun e w' => e = .returned (.bool true) ∧ Left w w' base pm bm nb last cap (setK M l (some { B with cells := setN B.cells off ⟨vk, vb, vl⟩ n.toNat })) := by
  have HS := Lib.hid (size_any chunk)
  rw [hn] at HS
  have HH := Lib.hid h
  have hfv : findV M chunk ⟨k, b, l⟩ = .tuple #[.pointer (some ⟨B.b, 0, none⟩), .int .i64 off] := by unfold findV; rw [hf]
  have HF := Lib.hid (fun W (hW : Ext w W) => find_any (h.next (Ext.of hW)) chunk k b l hl)
  rw [hfv] at HF
  obtain ⟨hk, hM, hn1, ho1, ho2, ho3⟩ := findA_some hf
  dsimp only at hk hM ho1
  subst hk
  have hB := h.at_ l B hM
  have b0 : w.cell? ⟨B.b, 0, none⟩ = some (.slice (some ⟨B.g, 0, none⟩) B.cells.length B.cells.length) := by rw [Lib.cell_of_heap hB.own]; rfl
  have b2 : w.cell? ⟨B.b, 2, none⟩ = some (.bool B.fixed) := by rw [Lib.cell_of_heap hB.own]; rfl
  have hltb := hB.lt.1
  have hltg := hB.lt.2.1
  have hlen := (h.keys l B hM).2.2.2.2.2.2.1
  have HB := Lib.hid hB
  have HM := Lib.hid hM
  rw [hn] at hn1 ho2 ho3
  rw [hfx] at b2
  clear h hf hfv hB hM hfx hn ho1 ho2
  have hA1 := cell_alloc_if
  have hA2 := frozen_alloc_if
  have hA3 := cell_set_if
  go_enter Try.func17, Try.ntmps17
  go_wp2_with (first
    | (go_at_call 32; (with_reducible refine (HF.out _ (by unfold Ext; (repeat' (first | (with_reducible exact Below.refl _ _) | (with_reducible assumption) | (with_reducible refine Below.setCell ?_ ?_ _) | (with_reducible refine Below.alloc ?_ ?_ _) | (with_reducible refine Below.drew ?_) | (with_reducible refine below_drewN ?_ _) | (with_reducible refine below_next ?_ (by with_reducible assumption)) | omega | (dsimp only; omega) | (simp only [World.size_alloc, World.size_setCell, World.size_drew, World.heap_drewN]; omega))))).mono ?_); rintro e wF ⟨rfl, hbF⟩; obtain ⟨hcF, hfF, hzF⟩ := cif hbF; (try simp only [World.size_alloc, World.size_setCell, World.size_drew, World.heap_drewN] at hzF))
    | (go_at_call 39; (with_reducible refine (takes_any _ _ _ _ _).mono ?_); rintro e wT ⟨rfl, hbT⟩; obtain ⟨hcT, hfT, hzT⟩ := cif hbT; (try simp only [World.size_alloc, World.size_setCell, World.size_drew, World.heap_drewN] at hzT))
    | (go_at_call 24; (with_reducible refine (HS.out _).mono ?_); rintro e w2 ⟨rfl, rfl⟩))
  have hbwT : Below w.heap.size w wT := by (repeat' (first | (with_reducible exact Below.refl _ _) | (with_reducible assumption) | (with_reducible refine Below.setCell ?_ ?_ _) | (with_reducible refine Below.alloc ?_ ?_ _) | (with_reducible refine Below.drew ?_) | (with_reducible refine below_drewN ?_ _) | (with_reducible refine below_next ?_ (by with_reducible assumption)) | omega | (dsimp only; omega) | (simp only [World.size_alloc, World.size_setCell, World.size_drew, World.heap_drewN]; omega)))
  have hbox : wT.heap[w.heap.size + 1]? = some (.cells #[.int .i64 vk, .int .u64 vb, .int .i64 vl] 32 (0, 0)) := by
    rw [hbT.block _ (by omega), hbF.block _ (by simp)]
    have h := fun o1 o2 => heap_alloc_new (w.alloc o1) o2
    simp only [World.size_alloc] at h
    exact h _ _
  have hBT := HB.out.next hbwT
  have HBT := Lib.hid hBT
  have HBX := Lib.hid hbox
  have hbg : B.b ≠ B.g := (HH.out.b_ne_g HM.out HM.out)
  have hRT : Hid (RowT B.g wT wT (setN B.cells off ⟨vk, vb, vl⟩ 0)) := Lib.hid ⟨rfl, fun _ _ => rfl, hBT.row, Below.refl _ _⟩
  have HBW := Lib.hid hbwT
  clear hbox hBT hcF hfF hcT hfT hbF hbT hbwT b0 b2
  go_loopw [11, 35] (fun u i wr => ∃ j : Nat, j ≤ n ∧ i = .int .i64 j ∧ Hid (RowT B.g wT wr (setN B.cells off ⟨vk, vb, vl⟩ j))) (fun _ i _ => n.toNat - (intOf i).toNat)
  case atStart => exact ⟨0, by omega, rfl, hRT⟩
  case round =>
  obtain ⟨j, hj, rfl, HT⟩ := hrel
  by_cases hlt : j < n
  · have T := HT.out
    have y0 := T.cell HBX.out (by omega) 0
    have y1 := T.cell HBX.out (by omega) 1
    have z0 := T.cell HBT.out.own hbg 0
    have cg : wr.cell? ⟨B.g, off + j, none⟩ = some (.int .u16 ((setN B.cells off ⟨vk, vb, vl⟩ j).getD (off + j) 0)) := by
      rw [Lib.cell_of_heap T.row]
      have hl := setN_len B.cells off ⟨vk, vb, vl⟩ j
      simp [show off + j < (setN B.cells off ⟨vk, vb, vl⟩ j).length by omega]
    have fg : wr.frozen? ⟨B.g, off + j, none⟩ = false := Lib.frozen_of_heap T.row _
    simp at y0 y1 z0
    have hw : wrap64 ((off : Int) + (j : Int)) = ((off + j : Nat) : Int) := by unfold wrap64; omega
    clear T
    generalize (setN B.cells off ⟨vk, vb, vl⟩ j).getD (off + j) 0 = cc at *
    by_cases c0 : vk = 0
    · have e : pieceOf ⟨vk, vb, vl⟩ j = 256 := by simp [pieceOf, c0]
      have HE : Hid (RowT B.g wT (wr.setCell ⟨B.g, off + j, none⟩ (.int .u16 256)) (setN B.cells off ⟨vk, vb, vl⟩ (j + 1))) := Lib.hid (by rw [← e]; exact HT.out.step (off + j) _)
      have d0 : (vk == 0) = true := by simpa using c0
      clear e c0
      go_wp2
      exact ⟨⟨j + 1, by omega, by go_num, HE⟩, by simp [intOf]; omega⟩
    · have e : pieceOf ⟨vk, vb, vl⟩ j = vb / 2 ^ (8 * j) % 256 := by simp [pieceOf, c0, hv4]
      have HE : Hid (RowT B.g wT (wr.setCell ⟨B.g, off + j, none⟩ (.int .u16 (vb / 2 ^ (8 * j) % 256))).drew (setN B.cells off ⟨vk, vb, vl⟩ (j + 1))) := Lib.hid (by rw [← e]; exact (HT.out.step (off + j) _).drew)
      have d0 : (vk == 0) = false := by simpa using c0
      have d4 : (vk == 4) = false := by simpa using hv4
      clear e
      go_wp2
      go_region
      go_wp2
      exact ⟨⟨j + 1, by omega, by go_num, HE⟩, by simp [intOf]; omega⟩
  · have hkn : (j : Int) = n := by omega
    have e1 : decide ((j : Int) < n) = false := by simpa using hlt
    have T := HT.out
    have y0 := T.cell HBX.out (by omega) 0
    simp at y0
    have d4 : (vk == 4) = false := by simpa using hv4
    have e2 : n.toNat = j := by omega
    clear T
    go_wp2
    go_returns
    refine ⟨rfl, ?_⟩
    (try rw [e2])
    exact left_of_row HH.out HM.out HBW.out HT.out ⟨by have := hvb.1; exact this, by omega⟩

/-- A pointer was put over a row's cells: the block then. -/
theorem left_of_ptr {w wT wr w1 : World} {base pm bm nb last cap : Nat} {M : Int → Option Bk} (h : MemS w base pm bm nb last cap M) {l : Int} {B : Bk} (hM : M l = some B) (hb : Below w.heap.size w wT) {off : Nat} {v : V} {j : Nat} (T : RowT B.g wT wr (setN B.cells off v j)) (hv : 0 ≤ v.b ∧ j ≤ 8)
    (hcap : cap + 1 < 9223372036854775807) (f' : Int → Option V) (hf : MapF Try.prog 3 vR vD w1 B.pb (B.np + 1) f') (hg : wr.grownBy w1 (some B.pb)) :
    Left w w1 base pm bm nb last (cap + 1) (setK M l (some { B with cells := setN B.cells off v j, ptr := f', np := B.np + 1 })) := by
  obtain ⟨a1, a2, a3, a4, a5, a6, a7, a8, a9⟩ := h.keys l B hM
  have hB := h.at_ l B hM
  have hBT := hB.next hb
  obtain ⟨es', cl', ho'⟩ := hBT.ptrs.obj
  have hlt := hBT.lt
  have hsz := T.size
  have hk : ∀ i, i ≠ B.pb → i < wr.heap.size → w1.heap[i]? = wr.heap[i]? := fun i h1 h2 => hg.block i h2 (by simpa using h1)
  have hne : ∀ i, i ≠ B.b → i ≠ B.g → i ≠ B.pb → i < wT.heap.size → w1.heap[i]? = wT.heap[i]? := fun i _ h2 h3 h4 => (hk i h3 (by omega)).trans (T.others i h2)
  have hne' : ∀ i, i ≠ B.b → i ≠ B.g → i ≠ B.pb → w1.heap[i]? = wT.heap[i]? ∨ wT.heap.size ≤ i := fun i h1 h2 h3 => by
    rcases Nat.lt_or_ge i wT.heap.size with h4 | h4
    · exact .inl (hne i h1 h2 h3 h4)
    · exact .inr h4
  have h1 : BkAt w1 { B with cells := setN B.cells off v j, ptr := f', np := B.np + 1 } := by
    refine ⟨?_, ?_, hf⟩
    · show w1.heap[B.b]? = some (.cells #[.slice (some ⟨B.g, 0, none⟩) (setN B.cells off v j).length (setN B.cells off v j).length, .map (some B.pb), .bool B.fixed] _ (0, 0))
      rw [setN_len, hk _ (map_ne ho' hBT.own).symm (by omega), T.others B.b (h.b_ne_g hM hM)]
      exact hBT.own
    · exact (hk _ (map_ne ho' hBT.row).symm (by omega)).trans T.row
  have hTT := h.next hb
  refine { mem := ?_, low := ?_, kept := ?_, foot := Foot.after (Foot.of_ne (B' := { B with cells := setN B.cells off v j, ptr := f', np := B.np + 1 }) fun i h1 h2 h3 h4 => hne i h1 h2 h3 h4) hb }
  · refine hTT.upd' hM { B with cells := setN B.cells off v j, ptr := f', np := B.np + 1 } ⟨rfl, rfl, rfl⟩ h1 (fun i h1 h2 h3 h4 => hne i h1 h2 h3 h4) ⟨by show (setN B.cells off v j).length ≤ _; rw [setN_len]; exact a7, setN_range hv.1 a9 j hv.2⟩ ⟨by show B.np + 1 ≤ _; omega, by omega, hcap⟩
  · exact ((hb.mono (by have := lt_of_block h.top; have := h.lo; omega)).trans (T.low.mono a4)).grown hg (by have := lt_of_block h.top; have := h.lo; have := hb.size; omega) (fun k hk => by injection hk with hk; omega)
  · exact (KeptT.of_below hb).trans (KeptT.of_ne (by have := hg.size; omega) hTT hM fun i h1 h2 h3 h4 => hne i h1 h2 h3 h4)

set_option maxRecDepth 100000 in
set_option maxHeartbeats 4000000 in
theorem store_ptr {w : World} {base pm bm nb last cap : Nat} {M : Int → Option Bk} (h : MemS w base pm bm nb last cap M) (chunk k b l vk vb vl : Int) (hl : I64 l) (hvb : U64 vb) (B : Bk) (off : Nat) (hf : findA M chunk ⟨k, b, l⟩ = some (B, off)) (hfx : B.fixed = false) (ht : takesA chunk vk = true) (hn : sizeV chunk = 8) (hv4 : vk = 4) (hcap : cap + 1 < 9223372036854775807) :
    Calls Try.prog 17 #[.pointer (some ⟨pm, 0, none⟩), .int .i64 chunk, .agg #[.int .i64 k, .int .u64 b, .int .i64 l], .agg #[.int .i64 vk, .int .u64 vb, .int .i64 vl]] w fun e w' => e = .returned (.bool true) ∧ Left w w' base pm bm nb last (cap + 1) (setK M l (some { B with cells := setN B.cells off ⟨vk, vb, vl⟩ 8, ptr := setK B.ptr off (some ⟨vk, vb, vl⟩), np := B.np + 1 })) := by
  have HS := Lib.hid (size_any chunk)
  rw [hn] at HS
  have HH := Lib.hid h
  have hfv : findV M chunk ⟨k, b, l⟩ = .tuple #[.pointer (some ⟨B.b, 0, none⟩), .int .i64 off] := by unfold findV; rw [hf]
  have HF := Lib.hid (fun W (hW : Ext w W) => find_any (h.next (Ext.of hW)) chunk k b l hl)
  rw [hfv] at HF
  obtain ⟨hk, hM, hn1, ho1, ho2, ho3⟩ := findA_some hf
  dsimp only at hk hM ho1
  subst hk
  have hB := h.at_ l B hM
  have b0 : w.cell? ⟨B.b, 0, none⟩ = some (.slice (some ⟨B.g, 0, none⟩) B.cells.length B.cells.length) := by rw [Lib.cell_of_heap hB.own]; rfl
  have b2 : w.cell? ⟨B.b, 2, none⟩ = some (.bool B.fixed) := by rw [Lib.cell_of_heap hB.own]; rfl
  have hltb := hB.lt.1
  have hltg := hB.lt.2.1
  have hlen := (h.keys l B hM).2.2.2.2.2.2.1
  have HB := Lib.hid hB
  have HM := Lib.hid hM
  have hnp := (h.keys l B hM).2.2.2.2.2.2.2.1
  have b1 : w.cell? ⟨B.b, 1, none⟩ = some (.map (some B.pb)) := by rw [Lib.cell_of_heap hB.own]; rfl
  rw [hn] at ho3
  rw [hfx] at b2
  subst hv4
  clear h hf hfv hB hM hfx hn hn1 ho1 ho2 b1
  have hA1 := cell_alloc_if
  have hA2 := frozen_alloc_if
  have hA3 := cell_set_if
  go_enter Try.func17, Try.ntmps17
  go_wp2_with (first
    | (go_at_call 32; (with_reducible refine (HF.out _ (by unfold Ext; (repeat' (first | (with_reducible exact Below.refl _ _) | (with_reducible assumption) | (with_reducible refine Below.setCell ?_ ?_ _) | (with_reducible refine Below.alloc ?_ ?_ _) | (with_reducible refine Below.drew ?_) | (with_reducible refine below_drewN ?_ _) | (with_reducible refine below_next ?_ (by with_reducible assumption)) | omega | (dsimp only; omega) | (simp only [World.size_alloc, World.size_setCell, World.size_drew, World.heap_drewN]; omega))))).mono ?_); rintro e wF ⟨rfl, hbF⟩; obtain ⟨hcF, hfF, hzF⟩ := cif hbF; (try simp only [World.size_alloc, World.size_setCell, World.size_drew, World.heap_drewN] at hzF))
    | (go_at_call 39; (with_reducible refine (takes_any _ _ _ _ _).mono ?_); rintro e wT ⟨rfl, hbT⟩; obtain ⟨hcT, hfT, hzT⟩ := cif hbT; (try simp only [World.size_alloc, World.size_setCell, World.size_drew, World.heap_drewN] at hzT))
    | (go_at_call 24; (with_reducible refine (HS.out _).mono ?_); rintro e w2 ⟨rfl, rfl⟩))
  have hbwT : Below w.heap.size w wT := by (repeat' (first | (with_reducible exact Below.refl _ _) | (with_reducible assumption) | (with_reducible refine Below.setCell ?_ ?_ _) | (with_reducible refine Below.alloc ?_ ?_ _) | (with_reducible refine Below.drew ?_) | (with_reducible refine below_drewN ?_ _) | (with_reducible refine below_next ?_ (by with_reducible assumption)) | omega | (dsimp only; omega) | (simp only [World.size_alloc, World.size_setCell, World.size_drew, World.heap_drewN]; omega)))
  have hbox : wT.heap[w.heap.size + 1]? = some (.cells #[.int .i64 4, .int .u64 vb, .int .i64 vl] 32 (0, 0)) := by
    rw [hbT.block _ (by omega), hbF.block _ (by simp)]
    have h := fun o1 o2 => heap_alloc_new (w.alloc o1) o2
    simp only [World.size_alloc] at h
    exact h _ _
  have hBT := HB.out.next hbwT
  have HBT := Lib.hid hBT
  have HBX := Lib.hid hbox
  have hbg : B.b ≠ B.g := (HH.out.b_ne_g HM.out HM.out)
  have hRT : Hid (RowT B.g wT wT (setN B.cells off ⟨4, vb, vl⟩ 0)) := Lib.hid ⟨rfl, fun _ _ => rfl, hBT.row, Below.refl _ _⟩
  have HBW := Lib.hid hbwT
  clear hbox hBT hcF hfF hcT hfT hbF hbT hbwT b0 b2
  go_loopw [11, 35] (fun u i wr => ∃ j : Nat, j ≤ 8 ∧ i = .int .i64 j ∧ Hid (RowT B.g wT wr (setN B.cells off ⟨4, vb, vl⟩ j))) (fun _ i _ => 8 - (intOf i).toNat)
  case atStart => exact ⟨0, by omega, rfl, hRT⟩
  case round =>
  obtain ⟨j, hj, rfl, HT⟩ := hrel
  by_cases hlt : j < 8
  · have T := HT.out
    have y0 := T.cell HBX.out (by omega) 0
    have y1 := T.cell HBX.out (by omega) 1
    have z0 := T.cell HBT.out.own hbg 0
    have cg : wr.cell? ⟨B.g, off + j, none⟩ = some (.int .u16 ((setN B.cells off ⟨4, vb, vl⟩ j).getD (off + j) 0)) := by
      rw [Lib.cell_of_heap T.row]
      have hl := setN_len B.cells off ⟨4, vb, vl⟩ j
      simp [show off + j < (setN B.cells off ⟨4, vb, vl⟩ j).length by omega]
    have fg : wr.frozen? ⟨B.g, off + j, none⟩ = false := Lib.frozen_of_heap T.row _
    simp at y0 y1 z0
    have ho8 : off + j < 16777216 := by omega
    clear T
    generalize (setN B.cells off ⟨4, vb, vl⟩ j).getD (off + j) 0 = cc at *
    have e : pieceOf ⟨4, vb, vl⟩ j = 512 + j := by simp [pieceOf]
    have HE : Hid (RowT B.g wT (wr.setCell ⟨B.g, off + j, none⟩ (.int .u16 (512 + j))) (setN B.cells off ⟨4, vb, vl⟩ (j + 1))) := Lib.hid (by rw [← e]; exact HT.out.step (off + j) _)
    clear e
    go_wp2
    exact ⟨⟨j + 1, by omega, by go_num, HE⟩, by simp [intOf]; omega⟩
  · have hkn : j = 8 := by omega
    subst hkn
    have T := HT.out
    have y0 := T.cell HBX.out (by omega) 0
    have y1 := T.cell HBX.out (by omega) 1
    have y2 := T.cell HBX.out (by omega) 2
    have z1 := T.cell HBT.out.own hbg 1
    simp at y0 y1 y2 z1
    have hMF : Hid (MapF Try.prog 3 vR vD wr B.pb B.np B.ptr) := Lib.hid (by
      obtain ⟨es', cl', ho'⟩ := HBT.out.ptrs.obj
      exact HBT.out.ptrs.block (T.others _ (map_ne ho' HBT.out.row)))
    clear T
    go_wp2
    go_still_tail 6, (by kernel_rfl)
    change wpList _ _ _ _ _ wr.drew
    go_wp2_with (at_mapUpdate
                 refine wpList_put rfl (.tmp 85) (.tmp 86) (.tmp 87) 61 rfl 32 vE Try.underlying3 Try.underlying61 hMF.out.drew (by unfold maxLen; omega) off (i64wf (by unfold I64; omega)) ⟨4, vb, vl⟩ rfl rfl rfl ?_
                 intro w1 hf1 hg1)
    go_returns
    refine ⟨rfl, left_of_ptr HH.out HM.out HBW.out HT.out.drew ⟨by have := hvb.1; exact this, by omega⟩ hcap _ hf1 hg1⟩

/-- The block behind a store. -/
def putB (B : Bk) (chunk : Int) (off : Nat) (v : V) : Bk :=
  if v.k = 4 then { B with cells := setN B.cells off v 8, ptr := setK B.ptr off (some v), np := B.np + 1 } else { B with cells := setN B.cells off v (sizeV chunk).toNat }
/-- The blocks behind a store; none, where it isn't done. -/
def storeA (M : Int → Option Bk) (chunk : Int) (a v : V) : Option (Int → Option Bk) :=
  match findA M chunk a with
  | none => none
  | some (B, off) => if B.fixed = false ∧ takesA chunk v.k = true then some (setK M a.l (some (putB B chunk off v))) else none
theorem Left.more {w w' : World} {base pm bm nb last cap c : Nat} {M : Int → Option Bk} (h : Left w w' base pm bm nb last cap M) (h1 : cap ≤ c) (h2 : c < 9223372036854775807) : Left w w' base pm bm nb last c M := ⟨h.mem.more h1 h2, h.low, h.kept, h.foot⟩
theorem MemS.left {w w' : World} {base pm bm nb last cap : Nat} {M : Int → Option Bk} (h : MemS w base pm bm nb last cap M) (hb : Below w.heap.size w w') : Left w w' base pm bm nb last cap M :=
  ⟨h.next hb, hb.mono (by have := lt_of_block h.top; have := h.lo; omega), KeptT.of_below hb, Foot.of_below hb⟩

theorem store_any {w : World} {base pm bm nb last cap : Nat} {M : Int → Option Bk} (h : MemS w base pm bm nb last cap M) (chunk k b l vk vb vl : Int) (hl : I64 l) (hvb : U64 vb) (hcap : cap + 1 < 9223372036854775807) :
    Calls Try.prog 17 #[.pointer (some ⟨pm, 0, none⟩), .int .i64 chunk, .agg #[.int .i64 k, .int .u64 b, .int .i64 l], .agg #[.int .i64 vk, .int .u64 vb, .int .i64 vl]] w fun e w' => e = .returned (.bool (storeA M chunk ⟨k, b, l⟩ ⟨vk, vb, vl⟩).isSome) ∧ Left w w' base pm bm nb last (cap + 1) ((storeA M chunk ⟨k, b, l⟩ ⟨vk, vb, vl⟩).getD M) := by
  unfold storeA
  cases hf : findA M chunk ⟨k, b, l⟩ with
  | none => exact (store_none h chunk k b l vk vb vl hl hf).mono fun e w' ⟨he, hb⟩ => ⟨he, (h.left hb).more (by omega) hcap⟩
  | some Bo =>
    obtain ⟨B, off⟩ := Bo
    obtain ⟨hk, hM, hn1, ho1, ho2, ho3⟩ := findA_some hf
    dsimp only at hk hM ho1 ⊢
    cases hfx : B.fixed with
    | true =>
      simp only [Bool.true_eq_false, false_and, if_false, Option.isSome_none, Option.getD_none]
      exact (store_fixed h chunk k b l vk vb vl hl B off hf hfx).mono fun e w' ⟨he, hb⟩ => ⟨he, (h.left hb).more (by omega) hcap⟩
    | false =>
      cases ht : takesA chunk vk with
      | false =>
        simp only [Bool.false_eq_true, and_false, if_false, Option.isSome_none, Option.getD_none]
        exact (store_not h chunk k b l vk vb vl hl B off hf hfx ht).mono fun e w' ⟨he, hb⟩ => ⟨he, (h.left hb).more (by omega) hcap⟩
      | true =>
        simp only [and_self, if_true, Option.isSome_some, Option.getD_some]
        unfold putB
        by_cases c4 : vk = 4
        · simp only [if_pos c4]
          have hs8 : sizeV chunk = 8 := by
            subst c4
            unfold takesA at ht
            have hkv : kindV chunk ≠ 4 := by unfold kindV; grind
            simp at ht
            have : chunk = 6 := by rcases ht with h1 | h1
                                   · exact absurd h1.symm hkv
                                   · exact h1
            subst this; decide
          exact store_ptr h chunk k b l vk vb vl hl hvb B off hf hfx ht hs8 c4 hcap
        · simp only [if_neg c4]
          exact (store_yes h chunk k b l vk vb vl _ hl hvb B off hf hfx ht rfl (by omega) c4).mono fun e w' ⟨he, hL⟩ => ⟨he, hL.more (by omega) hcap⟩

end Go.Proofs.Ytddipbpllogbaaa
