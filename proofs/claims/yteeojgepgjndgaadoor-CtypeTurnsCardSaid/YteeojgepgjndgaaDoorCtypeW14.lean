/-
  A layout found by its name: the program's, the reference's.
-/
import Derived.Test.YteeojgepgjndgaaDoorCtypeW7
import Derived.Test.YteeojgepgjndgaaDoorCtypeLaw3
namespace Go.Proofs.YteeojgepgjndgaaDoor
open Go.RowKit
set_option linter.unusedVariables false
set_option linter.unusedSimpArgs false

theorem find_at {K : List Ly} {n : List UInt8} {k : Nat} {y : Ly} (h : ∀ (i : Nat) (x : Ly), i < k → K[i]? = some x → ¬ x.name.toList = n) (hk : K[k]? = some y) (hy : y.name.toList = n) : find K n = some y := by
  unfold find
  induction K generalizing k with
  | nil => simp at hk
  | cons x K ih =>
    cases k with
    | zero => simp at hk; subst hk; simp [hy]
    | succ k =>
      have h0 := h 0 x (by omega) rfl
      rw [List.find?_cons_of_neg (by simpa using h0)]
      exact ih (k := k) (fun i z hi hz => h (i + 1) z (by omega) (by simpa using hz)) (by simpa using hk)
theorem find_no {K : List Ly} {n : List UInt8} (h : ∀ (i : Nat) (x : Ly), K[i]? = some x → ¬ x.name.toList = n) : find K n = none := by
  unfold find
  rw [List.find?_eq_none]
  intro x hx
  obtain ⟨i, hi⟩ := List.getElem?_of_mem hx
  simpa using h i x hi
def zeroLy : Ly := ⟨⟨#[]⟩, false, .slice none 0 0, [], 0, 0⟩
theorem lyC_form {w : World} (y : Ly) (h : RdFs w y.sv y.fields) : ∃ (A : Option Addr) (m c : Nat), lyC y = [.string y.name, .bool y.union, .slice A m c, .int .i64 y.size, .int .i64 y.align] ∧ y.sv = .slice A m c := by
  obtain ⟨A, c, e⟩ := h.1.form
  exact ⟨A, _, c, by unfold lyC; rw [e], e⟩
/-- The cells of the k-th layout. -/
theorem RdL.lyAt {w : World} {b off : Nat} {K : List Ly} (hc : ∀ (k : Nat) (a : Ly), K[k]? = some a → ∀ (j : Nat) (v : Value), (lyC a)[j]? = some v → w.cell? ⟨b, off + k * 5 + j, none⟩ = some v) {i : Nat} {y : Ly} (h : K[i]? = some y) :
    w.cell? ⟨b, off + i * 5, none⟩ = some (.string y.name) ∧ w.cell? ⟨b, off + i * 5 + 1, none⟩ = some (.bool y.union) ∧ w.cell? ⟨b, off + i * 5 + 2, none⟩ = some y.sv ∧ w.cell? ⟨b, off + i * 5 + 3, none⟩ = some (.int .i64 y.size) ∧ w.cell? ⟨b, off + i * 5 + 4, none⟩ = some (.int .i64 y.align) :=
  ⟨hc i y h 0 _ rfl, hc i y h 1 _ rfl, hc i y h 2 _ rfl, hc i y h 3 _ rfl, hc i y h 4 _ rfl⟩

set_option maxRecDepth 100000 in
set_option maxHeartbeats 1000000 in
theorem named_any (name n : ByteArray) (u : Bool) (A : Option Addr) (m c : Nat) (s a : Int) (p : Nat) (w : World) (hp : p < w.heap.size) (hcell : w.cell? ⟨p, 0, none⟩ = some (.string n)) :
    Calls Tryd.prog 53 #[.agg #[.string name, .bool u, .slice A m c, .int .i64 s, .int .i64 a], .pointer (some ⟨p, 0, none⟩)] w fun e w' => e = .returned (.bool (name.toList == n.toList)) ∧ Below w.heap.size w w' := by
  have hA1 := cell_alloc_if
  have hA2 := frozen_alloc_if
  have hA3 := cell_set_if
  go_enter Tryd.func53, Tryd.ntmps53
  go_wp2
  go_returns
  exact ⟨rfl, by (repeat' (first | (with_reducible exact Below.refl _ _) | (with_reducible assumption) | (with_reducible refine Below.setCell ?_ ?_ _) | (with_reducible refine Below.alloc ?_ ?_ _) | (with_reducible refine Below.drew ?_) | (with_reducible refine below_drewN ?_ _) | (with_reducible refine below_next ?_ (by with_reducible assumption)) | omega | (dsimp only; omega) | (simp only [World.size_alloc, World.size_setCell, World.size_drew, World.heap_drewN]; omega)))⟩

/-- The place of the first of a name. -/
def IdxP (K : List Ly) (n : List UInt8) (w : World) (e : Ending) (w' : World) : Prop := ∃ i : Int, e = .returned (.int .i64 i) ∧ ((i = -1 ∧ find K n = none) ∨ (∃ (k : Nat) (y : Ly), i = k ∧ K[k]? = some y ∧ find K n = some y)) ∧ Below w.heap.size w w'
set_option maxRecDepth 100000 in
set_option maxHeartbeats 2000000 in
theorem index_any (s : Value) (K : List Ly) (n : ByteArray) (p : Nat) (w : World) (h : RdLs w s K) (hp : p < w.heap.size) (hcell : w.cell? ⟨p, 0, none⟩ = some (.string n)) :
    Calls Tryd.prog 52 #[s, .func (.func 53) #[] #[.pointer (some ⟨p, 0, none⟩)]] w (IdxP K n.toList w) := by
  have m1 := h.1.len
  unfold maxLen at m1
  by_cases h0 : K.length = 0
  · obtain ⟨A1, c1, rfl, _⟩ := h.1.empty h0
    have e : find K n.toList = none := by rw [List.eq_nil_of_length_eq_zero h0]; rfl
    have HE := Lib.hid e
    clear e h h0
    go_enter Tryd.func52, Tryd.ntmps52
    go_wp2
    go_loop [8] (fun i => i = .int .i64 0) (fun _ => 0)
    case atStart => rfl
    case round =>
      subst hrel
      go_wp2
      go_returns
      exact ⟨-1, rfl, .inl ⟨rfl, HE.out⟩, Below.refl _ _⟩
  · have k1 := h.2
    obtain ⟨b1, o1, c1, rfl, _, _, hb1, hc1⟩ := h.1.some_ (by omega)
    have H1 := Lib.hid hc1
    have K1 := Lib.hid k1
    clear hc1 h k1
    have hA1 := cell_alloc_if
    have hA2 := frozen_alloc_if
    have hA3 := cell_set_if
    go_enter Tryd.func52, Tryd.ntmps52
    go_wp2
    go_loopw [8] (fun i wr => ∃ k : Nat, k ≤ K.length ∧ i = .int .i64 k ∧ Ext w wr ∧ Hid (∀ (i : Nat) (x : Ly), i < k → K[i]? = some x → ¬ x.name.toList = n.toList)) (fun i _ => K.length - (intOf i).toNat)
    case atStart => exact ⟨0, by omega, rfl, Below.refl _ _, fun i x hi => absurd hi (by omega)⟩
    case round =>
      obtain ⟨k, hk, rfl, hX, HT⟩ := hrel
      have hXb := Ext.of hX
      have hwz := hXb.size
      by_cases hlt : k < K.length
      · obtain ⟨y, e1⟩ : ∃ y, K[k]? = some y := ⟨_, List.getElem?_eq_getElem hlt⟩
        obtain ⟨p1, p2, p3, p4, p5⟩ := RdL.lyAt H1.out e1
        obtain ⟨A2, m2, c2, _, esv⟩ := lyC_form y (K1.out y (List.mem_of_getElem? e1))
        rw [esv] at p3
        have p1' := (hXb.cell (p := ⟨b1, _, none⟩) hb1).trans p1
        have p2' := (hXb.cell (p := ⟨b1, _, none⟩) hb1).trans p2
        have p3' := (hXb.cell (p := ⟨b1, _, none⟩) hb1).trans p3
        have p4' := (hXb.cell (p := ⟨b1, _, none⟩) hb1).trans p4
        have p5' := (hXb.cell (p := ⟨b1, _, none⟩) hb1).trans p5
        have q1' := (hXb.cell (p := ⟨p, 0, none⟩) hp).trans hcell
        have E1 := Lib.hid e1
        clear p1 p2 p3 p4 p5 e1 esv
        by_cases hn : y.name.toList = n.toList
        · have hb : (y.name.toList == n.toList) = true := by simpa using hn
          have HNM := Lib.hid hn
          clear hn
          go_wp2_with (go_at_call 53; (with_reducible refine (named_any _ n _ _ _ _ _ _ _ _ (by omega) q1').mono ?_); rintro e w' ⟨rfl, hbl⟩; obtain ⟨hc, hf, hz⟩ := cif hbl; (try simp only [World.size_alloc, World.size_setCell, World.size_drew, World.heap_drewN] at hz))
          go_returns
          exact ⟨_, rfl, .inr ⟨k, y, rfl, E1.out, find_at HT.out E1.out HNM.out⟩, by unfold Ext at *; (repeat' (first | (with_reducible exact Below.refl _ _) | (with_reducible assumption) | (with_reducible refine Below.setCell ?_ ?_ _) | (with_reducible refine Below.alloc ?_ ?_ _) | (with_reducible refine Below.drew ?_) | (with_reducible refine below_drewN ?_ _) | (with_reducible refine below_next ?_ (by with_reducible assumption)) | omega | (dsimp only; omega) | (simp only [World.size_alloc, World.size_setCell, World.size_drew, World.heap_drewN]; omega)))⟩
        · have hb : (y.name.toList == n.toList) = false := by simpa using hn
          have HNM := Lib.hid hn
          clear hn
          go_wp2_with (go_at_call 53; (with_reducible refine (named_any _ n _ _ _ _ _ _ _ _ (by omega) q1').mono ?_); rintro e w' ⟨rfl, hbl⟩; obtain ⟨hc, hf, hz⟩ := cif hbl; (try simp only [World.size_alloc, World.size_setCell, World.size_drew, World.heap_drewN] at hz))
          go_roundw
          case rel => exact ⟨k + 1, by omega, by go_num, by unfold Ext at *; (repeat' (first | (with_reducible exact Below.refl _ _) | (with_reducible assumption) | (with_reducible refine Below.setCell ?_ ?_ _) | (with_reducible refine Below.alloc ?_ ?_ _) | (with_reducible refine Below.drew ?_) | (with_reducible refine below_drewN ?_ _) | (with_reducible refine below_next ?_ (by with_reducible assumption)) | omega | (dsimp only; omega) | (simp only [World.size_alloc, World.size_setCell, World.size_drew, World.heap_drewN]; omega))), Lib.hid fun i x hi hx => by
            by_cases c : i < k
            · exact HT.out i x c hx
            · have : i = k := by omega
              subst this
              have := E1.out
              rw [hx] at this; injection this with this; subst this
              exact HNM.out⟩
          case measure => simp [intOf]; omega
      · have hkn : k = K.length := by omega
        subst hkn
        go_wp2
        go_returns
        exact ⟨-1, rfl, .inl ⟨rfl, find_no fun i x hx => HT.out i x (by
          rcases Nat.lt_or_ge i K.length with h1 | h1
          · exact h1
          · rw [List.getElem?_eq_none h1] at hx; cases hx) hx⟩, by unfold Ext at *; (repeat' (first | (with_reducible exact Below.refl _ _) | (with_reducible assumption) | (with_reducible refine Below.setCell ?_ ?_ _) | (with_reducible refine Below.alloc ?_ ?_ _) | (with_reducible refine Below.drew ?_) | (with_reducible refine below_drewN ?_ _) | (with_reducible refine below_next ?_ (by with_reducible assumption)) | omega | (dsimp only; omega) | (simp only [World.size_alloc, World.size_setCell, World.size_drew, World.heap_drewN]; omega)))⟩
/-- What is found, else nothing. -/
def foundL (K : List Ly) (n : List UInt8) : Ly := (find K n).getD zeroLy
theorem find_mem {K : List Ly} {n : List UInt8} {y : Ly} (h : find K n = some y) : y ∈ K := List.mem_of_find?_eq_some h
theorem foundL_rd {w : World} {s : Value} {K : List Ly} (h : RdLs w s K) (n : List UInt8) : RdFs w (foundL K n).sv (foundL K n).fields := by
  unfold foundL
  cases hf : find K n with
  | none => exact ⟨RdL.nil _ _ _, fun f hf => by simp [zeroLy] at hf⟩
  | some y => exact h.2 y (find_mem hf)
def FindR (K : List Ly) (n : List UInt8) (w : World) (e : Ending) (w' : World) : Prop := e = .returned (.tuple #[.agg (lyC (foundL K n)).toArray, .bool (find K n).isSome]) ∧ Below w.heap.size w w'
theorem find_none {K : List Ly} {n : List UInt8} (h : find K n = none) {w w' : World} (hb : Below w.heap.size w w') : FindR K n w (.returned (.tuple #[.agg #[.string ⟨#[]⟩, .bool false, .slice none 0 0, .int .i64 0, .int .i64 0], .bool false])) w' := by
  unfold FindR foundL
  rw [h]
  exact ⟨rfl, hb⟩
theorem find_some {K : List Ly} {n : List UInt8} {y : Ly} (h : find K n = some y) {A : Option Addr} {m c : Nat} (hy : y.sv = .slice A m c) {w w' : World} (hb : Below w.heap.size w w') : FindR K n w (.returned (.tuple #[.agg #[.string y.name, .bool y.union, .slice A m c, .int .i64 y.size, .int .i64 y.align], .bool true])) w' := by
  unfold FindR foundL
  rw [h]
  refine ⟨?_, hb⟩
  simp [lyC, hy]
theorem idx_none {K : List Ly} {n : List UInt8} {i : Int} (hF : find K n = none) (hi : (i = -1 ∧ find K n = none) ∨ (∃ (k : Nat) (y : Ly), i = k ∧ K[k]? = some y ∧ find K n = some y)) : i = -1 := by
  rcases hi with ⟨h1, _⟩ | ⟨k, y, _, _, hy⟩
  · exact h1
  · rw [hF] at hy; cases hy
theorem idx_some {K : List Ly} {n : List UInt8} {i : Int} {y0 : Ly} (hF : find K n = some y0) (hi : (i = -1 ∧ find K n = none) ∨ (∃ (k : Nat) (y : Ly), i = k ∧ K[k]? = some y ∧ find K n = some y)) : ∃ k : Nat, i = k ∧ K[k]? = some y0 := by
  rcases hi with ⟨_, hno⟩ | ⟨k, y, h1, hk, hy⟩
  · rw [hF] at hno; cases hno
  · rw [hF] at hy; injection hy with hy; subst hy; exact ⟨k, h1, hk⟩
set_option maxRecDepth 100000 in
set_option maxHeartbeats 2000000 in
theorem find_any (s : Value) (K : List Ly) (n : ByteArray) (w : World) (h : RdLs w s K) : Calls Tryd.prog 14 #[s, .string n] w (FindR K n.toList w) := by
  have m1 := h.1.len
  unfold maxLen at m1
  have HI : Hid (∀ W p, Below w.heap.size w W → p < W.heap.size → W.cell? ⟨p, 0, none⟩ = some (.string n) → Calls Tryd.prog 52 #[s, .func (.func 53) #[] #[.pointer (some ⟨p, 0, none⟩)]] W (IdxP K n.toList W)) :=
    Lib.hid fun W p hW hp hc => index_any s K n p W (h.next hW) hp hc
  cases hF : find K n.toList with
  | none =>
    have HF := Lib.hid hF
    obtain ⟨As, cs, rfl⟩ := h.1.form
    clear h hF
    have hA1 := cell_alloc_if
    have hA2 := frozen_alloc_if
    have hA3 := cell_set_if
    go_enter Tryd.func14, Tryd.ntmps14
    go_wp2_with (go_at_call 52; (with_reducible refine (HI.out _ _ (by (repeat' (first | (with_reducible exact Below.refl _ _) | (with_reducible assumption) | (with_reducible refine Below.setCell ?_ ?_ _) | (with_reducible refine Below.alloc ?_ ?_ _) | (with_reducible refine Below.drew ?_) | (with_reducible refine below_drewN ?_ _) | (with_reducible refine below_next ?_ (by with_reducible assumption)) | omega | (dsimp only; omega) | (simp only [World.size_alloc, World.size_setCell, World.size_drew, World.heap_drewN]; omega)))) (by simp; try omega) (by simp [cell_alloc_if])).mono ?_); rintro e w3 ⟨i, rfl, hi, hb3⟩; obtain ⟨hc3, hf3, hz3⟩ := cif hb3; (try simp only [World.size_alloc, World.size_setCell, World.size_drew, World.heap_drewN] at hz3); obtain rfl : i = -1 := idx_none HF.out hi; clear hi)
    ((try simp only [Exit.inBlock, Exit.then]); go_light; refine bodyPost_ret (by simp [results, Tryd.results14, go_sem, *, ↓IntWalk.iteOmega]; try rfl) rfl ?_)
    exact find_none HF.out (by (repeat' (first | (with_reducible exact Below.refl _ _) | (with_reducible assumption) | (with_reducible refine Below.setCell ?_ ?_ _) | (with_reducible refine Below.alloc ?_ ?_ _) | (with_reducible refine Below.drew ?_) | (with_reducible refine below_drewN ?_ _) | (with_reducible refine below_next ?_ (by with_reducible assumption)) | omega | (dsimp only; omega) | (simp only [World.size_alloc, World.size_setCell, World.size_drew, World.heap_drewN]; omega))))
  | some y0 =>
    have HF := Lib.hid hF
    have hne : 0 < K.length := List.length_pos_of_mem (find_mem hF)
    obtain ⟨A2, m2, c2, _, esv⟩ := lyC_form y0 (h.2 y0 (find_mem hF))
    obtain ⟨b1, o1, c1, rfl, _, _, hb1, hc1⟩ := h.1.some_ hne
    have H1 := Lib.hid hc1
    have ESV := Lib.hid esv
    clear h hF hc1 esv
    have hA1 := cell_alloc_if
    have hA2 := frozen_alloc_if
    have hA3 := cell_set_if
    go_enter Tryd.func14, Tryd.ntmps14
    go_upto_region 4 with (go_at_call 52; (with_reducible refine (HI.out _ _ (by (repeat' (first | (with_reducible exact Below.refl _ _) | (with_reducible assumption) | (with_reducible refine Below.setCell ?_ ?_ _) | (with_reducible refine Below.alloc ?_ ?_ _) | (with_reducible refine Below.drew ?_) | (with_reducible refine below_drewN ?_ _) | (with_reducible refine below_next ?_ (by with_reducible assumption)) | omega | (dsimp only; omega) | (simp only [World.size_alloc, World.size_setCell, World.size_drew, World.heap_drewN]; omega)))) (by simp; try omega) (by simp [cell_alloc_if])).mono ?_); rintro e w3 ⟨i, rfl, hi, hb3⟩; obtain ⟨hc3, hf3, hz3⟩ := cif hb3; (try simp only [World.size_alloc, World.size_setCell, World.size_drew, World.heap_drewN] at hz3); obtain ⟨k, rfl, hk⟩ := idx_some HF.out hi; clear hi)
    have hlt : k < K.length := by
      rcases Nat.lt_or_ge k K.length with h1 | h1
      · exact h1
      · rw [List.getElem?_eq_none h1] at hk; cases hk
    obtain ⟨p1, p2, p3, p4, p5⟩ := RdL.lyAt H1.out hk
    rw [ESV.out] at p3
    clear hk
    go_wp2
    ((try simp only [Exit.inBlock, Exit.then]); go_light; refine bodyPost_ret (by simp [results, Tryd.results14, go_sem, *, ↓IntWalk.iteOmega]; try rfl) rfl ?_)
    exact find_some HF.out ESV.out (by (repeat' (first | (with_reducible exact Below.refl _ _) | (with_reducible assumption) | (with_reducible refine Below.setCell ?_ ?_ _) | (with_reducible refine Below.alloc ?_ ?_ _) | (with_reducible refine Below.drew ?_) | (with_reducible refine below_drewN ?_ _) | (with_reducible refine below_next ?_ (by with_reducible assumption)) | omega | (dsimp only; omega) | (simp only [World.size_alloc, World.size_setCell, World.size_drew, World.heap_drewN]; omega))))

set_option maxRecDepth 100000 in
set_option maxHeartbeats 2000000 in
theorem rfind_any (s : Value) (K : List Ly) (n : ByteArray) (w : World) (h : RdLs w s K) : Calls Tryd.prog 16 #[s, .string n] w (FindR K n.toList w) := by
  have m1 := h.1.len
  unfold maxLen at m1
  by_cases h0 : K.length = 0
  · obtain ⟨A1, c1, rfl, _⟩ := h.1.empty h0
    have e : find K n.toList = none := by rw [List.eq_nil_of_length_eq_zero h0]; rfl
    have HE := Lib.hid e
    clear e h h0
    have hA1 := cell_alloc_if
    have hA2 := frozen_alloc_if
    have hA3 := cell_set_if
    go_enter Tryd.func16, Tryd.ntmps16
    go_wp2
    go_loop [6] (fun i => i = .int .i64 0) (fun _ => 0)
    case atStart => rfl
    case round =>
      subst hrel
      go_wp2
      ((try simp only [Exit.inBlock, Exit.then]); go_light; refine bodyPost_ret (by simp [results, Tryd.results16, go_sem, *, ↓IntWalk.iteOmega]; try rfl) rfl ?_)
      exact find_none HE.out (by (repeat' (first | (with_reducible exact Below.refl _ _) | (with_reducible assumption) | (with_reducible refine Below.setCell ?_ ?_ _) | (with_reducible refine Below.alloc ?_ ?_ _) | (with_reducible refine Below.drew ?_) | (with_reducible refine below_drewN ?_ _) | (with_reducible refine below_next ?_ (by with_reducible assumption)) | omega | (dsimp only; omega) | (simp only [World.size_alloc, World.size_setCell, World.size_drew, World.heap_drewN]; omega))))
  · have k1 := h.2
    obtain ⟨b1, o1, c1, rfl, _, _, hb1, hc1⟩ := h.1.some_ (by omega)
    have H1 := Lib.hid hc1
    have K1 := Lib.hid k1
    clear hc1 h k1
    have hA1 := cell_alloc_if
    have hA2 := frozen_alloc_if
    have hA3 := cell_set_if
    go_enter Tryd.func16, Tryd.ntmps16
    go_wp2
    go_loop [6] (fun i => ∃ k : Nat, k ≤ K.length ∧ i = .int .i64 k ∧ Hid (∀ (i : Nat) (x : Ly), i < k → K[i]? = some x → ¬ x.name.toList = n.toList)) (fun i => K.length - (intOf i).toNat)
    case atStart => exact ⟨0, by omega, rfl, fun i x hi => absurd hi (by omega)⟩
    case round =>
      obtain ⟨k, hk, rfl, HT⟩ := hrel
      by_cases hlt : k < K.length
      · obtain ⟨y, e1⟩ : ∃ y, K[k]? = some y := ⟨_, List.getElem?_eq_getElem hlt⟩
        obtain ⟨p1, p2, p3, p4, p5⟩ := RdL.lyAt H1.out e1
        obtain ⟨A2, m2, c2, _, esv⟩ := lyC_form y (K1.out y (List.mem_of_getElem? e1))
        rw [esv] at p3
        have E1 := Lib.hid e1
        have ESV := Lib.hid esv
        clear e1 esv
        by_cases hn : y.name.toList = n.toList
        · have hb : (y.name.toList == n.toList) = true := by simpa using hn
          have HNM := Lib.hid hn
          clear hn
          go_wp2
          ((try simp only [Exit.inBlock, Exit.then]); go_light; refine bodyPost_ret (by simp [results, Tryd.results16, go_sem, *, ↓IntWalk.iteOmega]; try rfl) rfl ?_)
          exact find_some (find_at HT.out E1.out HNM.out) ESV.out (by (repeat' (first | (with_reducible exact Below.refl _ _) | (with_reducible assumption) | (with_reducible refine Below.setCell ?_ ?_ _) | (with_reducible refine Below.alloc ?_ ?_ _) | (with_reducible refine Below.drew ?_) | (with_reducible refine below_drewN ?_ _) | (with_reducible refine below_next ?_ (by with_reducible assumption)) | omega | (dsimp only; omega) | (simp only [World.size_alloc, World.size_setCell, World.size_drew, World.heap_drewN]; omega))))
        · have hb : (y.name.toList == n.toList) = false := by simpa using hn
          have HNM := Lib.hid hn
          clear hn
          go_wp2
          go_round
          case rel => exact ⟨k + 1, by omega, by go_num, Lib.hid fun i x hi hx => by
            by_cases c : i < k
            · exact HT.out i x c hx
            · have : i = k := by omega
              subst this
              have := E1.out
              rw [hx] at this; injection this with this; subst this
              exact HNM.out⟩
          case measure => simp [intOf]; omega
      · have hkn : k = K.length := by omega
        subst hkn
        go_wp2
        ((try simp only [Exit.inBlock, Exit.then]); go_light; refine bodyPost_ret (by simp [results, Tryd.results16, go_sem, *, ↓IntWalk.iteOmega]; try rfl) rfl ?_)
        exact find_none (find_no fun i x hx => HT.out i x (by
          rcases Nat.lt_or_ge i K.length with h1 | h1
          · exact h1
          · rw [List.getElem?_eq_none h1] at hx; cases hx) hx) (by (repeat' (first | (with_reducible exact Below.refl _ _) | (with_reducible assumption) | (with_reducible refine Below.setCell ?_ ?_ _) | (with_reducible refine Below.alloc ?_ ?_ _) | (with_reducible refine Below.drew ?_) | (with_reducible refine below_drewN ?_ _) | (with_reducible refine below_next ?_ (by with_reducible assumption)) | omega | (dsimp only; omega) | (simp only [World.size_alloc, World.size_setCell, World.size_drew, World.heap_drewN]; omega))))
end Go.Proofs.YteeojgepgjndgaaDoor
