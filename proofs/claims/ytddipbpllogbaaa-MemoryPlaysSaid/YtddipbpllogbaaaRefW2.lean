/-
  The reference's memory: Fix, Free.
-/
import Derived.Test.YtddipbpllogbaaaRefW1
import Derived.Laws.OwnMore
namespace Go.Proofs.Ytddipbpllogbaaa
open Go.RowKit
set_option linter.unusedVariables false
set_option linter.unusedSimpArgs false

theorem flatL_set : ∀ (L : List (List Value)) (j : Nat) (c : List Value), (∀ x ∈ L, x.length = 5) → L[j]? = some c → ∀ (i : Nat) (u : Value), i < 5 → (L.set j (c.set i u)).flatten = L.flatten.set (j * 5 + i) u
  | [], j, c, hL, h, i, u, hi => by simp at h
  | d :: L, 0, c, hL, h, i, u, hi => by
    simp at h
    subst h
    have hd := hL d (by simp)
    rw [List.set_cons_zero, List.flatten_cons, List.flatten_cons, List.set_append_left _ _ (by omega)]
    congr 2
    omega
  | d :: L, j + 1, c, hL, h, i, u, hi => by
    simp at h
    have hd := hL d (by simp)
    rw [List.set_cons_succ, List.flatten_cons, List.flatten_cons, List.set_append_right _ _ (by omega), hd, flatL_set L j c (fun x hx => hL x (by simp [hx])) h i u hi]
    congr 2
    omega
theorem flat_free {R : List RB} {j : Nat} {B : RB} (h : R[j]? = some B) (hl : B.live = true) :
    (R.set j { B with live := false }).flatMap RB.cells = ((((R.flatMap RB.cells).set (j * 5 + 3) (.bool false)).set (j * 5 + 0) (.slice none 0 0)).set (j * 5 + 1) (.slice none 0 0)).set (j * 5 + 2) (.map none) := by
  have hL : ∀ x ∈ R.map RB.cells, x.length = 5 := fun x hx => by
    obtain ⟨C, _, rfl⟩ := List.mem_map.1 hx
    exact RB.cells_len C
  have hset : ∀ (L : List (List Value)) (c : List Value), (∀ x ∈ L, x.length = 5) → c.length = 5 → ∀ x ∈ L.set j c, x.length = 5 := fun L c hL hc x hx => by
    rcases List.mem_or_eq_of_mem_set hx with h | h
    · exact hL x h
    · rw [h]; exact hc
  have hat : (R.map RB.cells)[j]? = some B.cells := by rw [List.getElem?_map, h]; rfl
  have hjl : j < (R.map RB.cells).length := by
    rcases Nat.lt_or_ge j (R.map RB.cells).length with h1 | h1
    · exact h1
    · rw [List.getElem?_eq_none h1] at hat; cases hat
  have e1 := flatL_set (R.map RB.cells) j _ hL hat 3 (.bool false) (by omega)
  have hL1 := hset (R.map RB.cells) (B.cells.set 3 (.bool false)) hL (by rw [List.length_set, RB.cells_len])
  have e2 := flatL_set _ j (B.cells.set 3 (.bool false)) hL1 (List.getElem?_set_self hjl) 0 (.slice none 0 0) (by omega)
  rw [List.set_set] at e2
  have hL2 := hset (R.map RB.cells) ((B.cells.set 3 (.bool false)).set 0 (.slice none 0 0)) hL (by rw [List.length_set, List.length_set, RB.cells_len])
  have e3 := flatL_set _ j ((B.cells.set 3 (.bool false)).set 0 (.slice none 0 0)) hL2 (List.getElem?_set_self hjl) 1 (.slice none 0 0) (by omega)
  rw [List.set_set] at e3
  have hL3 := hset (R.map RB.cells) (((B.cells.set 3 (.bool false)).set 0 (.slice none 0 0)).set 1 (.slice none 0 0)) hL (by rw [List.length_set, List.length_set, List.length_set, RB.cells_len])
  have e4 := flatL_set _ j (((B.cells.set 3 (.bool false)).set 0 (.slice none 0 0)).set 1 (.slice none 0 0)) hL3 (List.getElem?_set_self hjl) 2 (.map none) (by omega)
  rw [List.set_set] at e4
  rw [List.flatMap_def, List.flatMap_def, ← e1, ← e2, ← e3, ← e4, List.map_set]
  congr 2
  simp [RB.cells, hl]

/-- What a call that turns the reference's memory leaves. -/
structure RefLeft (w w' : World) (base rm : Nat) (s : Value) (R : List RB) (cap : Nat) (s' : Value) (R' : List RB) : Prop where
  mem : RefS w' base rm s' cap R'
  low : Below base w w'
  foot : ∀ i, i < w.heap.size → ¬ OwnR rm s R i → w'.heap[i]? = w.heap[i]?
  own : ∀ i, OwnR rm s' R' i → OwnR rm s R i ∨ w.heap.size ≤ i
theorem RefS.left {w w' : World} {base rm cap : Nat} {s : Value} {R : List RB} (h : RefS w base rm s cap R) (hb : Below w.heap.size w w') : RefLeft w w' base rm s R cap s R :=
  ⟨h.next hb, hb.mono (by have := lt_of_block h.top; have := h.lo; omega), fun i hi _ => hb.block i hi, fun i hi => .inl hi⟩

/-- A block's record is turned, within the slice of blocks. -/
theorem RefS.putRec {w w' : World} {base rm cap : Nat} {s : Value} {R : List RB} (h : RefS w base rm s cap R) {j : Nat} {B B' : RB} (hj : R[j]? = some B)
    (hrow : w'.ownsRow base 67 5 s R.length ((R.set j B').flatMap RB.cells)) (hne : ∀ i, s.ownBlock ≠ some i → w'.heap[i]? = w.heap[i]?)
    (e : B'.live = true → B.live = true ∧ B'.g = B.g ∧ B'.b = B.b ∧ B'.p = B.p ∧ B'.np = B.np ∧ B'.kinds = B.kinds ∧ B'.bytes = B.bytes ∧ B'.pcs = B.pcs) :
    RefS w' base rm s cap (R.set j B') ∧ (∀ i, OwnR rm s (R.set j B') i → OwnR rm s R i) := by
  have hn : ∀ {i : Nat} {c : Array Value} {t : TypeId}, w.heap[i]? = some (.cells c t (0, 0)) → t ≠ 67 → s.ownBlock ≠ some i := fun {i c t} hi ht he => by
    rcases h.row.2 with ⟨h2, _⟩ | ⟨g, cp, cur, e1, _, e3, _⟩
    · rw [h2] at he; cases he
    · rw [e1] at he
      injection he with he
      subst he
      rw [e3] at hi
      simp only [Option.some.injEq, Obj.cells.injEq] at hi
      exact ht hi.2.1.symm
  have hm : ∀ {i : Nat} {es : Array MapEntry} {cl : Nat}, w.heap[i]? = some (.map es cl) → s.ownBlock ≠ some i := fun {i es cl} hi he => by
    rcases h.row.2 with ⟨h2, _⟩ | ⟨g, cp, cur, e1, _, e3, _⟩
    · rw [h2] at he; cases he
    · rw [e1] at he
      injection he with he
      subst he
      rw [e3] at hi
      simp at hi
  have hget : ∀ (k : Nat) (C : RB), (R.set j B')[k]? = some C → C.live = true → ∃ D, R[k]? = some D ∧ D.live = true ∧ C.g = D.g ∧ C.b = D.b ∧ C.p = D.p ∧ C.np = D.np ∧ C.kinds = D.kinds ∧ C.bytes = D.bytes ∧ C.pcs = D.pcs := fun k C hk hl => by
    rw [List.getElem?_set] at hk
    split at hk
    · rename_i hjk
      subst hjk
      split at hk
      · injection hk with hk
        subst hk
        obtain ⟨a1, a2⟩ := e hl
        exact ⟨B, hj, a1, a2⟩
      · cases hk
    · exact ⟨C, hk, hl, rfl, rfl, rfl, rfl, rfl, rfl, rfl⟩
  have hat : ∀ (k : Nat) (D : RB), R[k]? = some D → D.live = true → RBAt w' D := fun k D hk hl => by
    have hD := h.at_ k D hk hl
    refine hD.block fun i hi => hne i ?_
    rcases hi with rfl | rfl | rfl
    · exact hn hD.kinds (by decide)
    · exact hn hD.bytes (by decide)
    · obtain ⟨es, cl, ho⟩ := hD.pcs.obj
      exact hm ho
  refine ⟨{ top := (hne rm (hn h.top (by decide))).trans h.top, row := by rw [List.length_set]; exact hrow, lo := h.lo, len := by rw [List.length_set]; exact h.len, keys := fun k C hk hl => ?_, at_ := fun k C hk hl => ?_, apart := fun i k C D hi hk hC hD hik => ?_ }, fun i hi => ?_⟩
  · obtain ⟨D, d1, d2, d3, d4, d5, d6, d7, d8, d9⟩ := hget k C hk hl
    have := h.keys k D d1 d2
    rw [d3, d4, d5, d6, d7, d8]
    exact this
  · obtain ⟨D, d1, d2, d3, d4, d5, d6, d7, d8, d9⟩ := hget k C hk hl
    have := hat k D d1 d2
    exact ⟨by rw [d3, d7]; exact this.kinds, by rw [d4, d8]; exact this.bytes, by rw [d5, d6, d9]; exact this.pcs⟩
  · obtain ⟨E, d1, d2, d3, d4, d5, _⟩ := hget i C hi hC
    obtain ⟨F, f1, f2, f3, f4, f5, _⟩ := hget k D hk hD
    rw [d3, d4, d5, f3, f4, f5]
    exact h.apart i k E F d1 f1 d2 f2 hik
  · rcases hi with hi | hi | ⟨k, C, hk, hl, hi⟩
    · exact .inl hi
    · exact .inr (.inl hi)
    · obtain ⟨D, d1, d2, d3, d4, d5, _⟩ := hget k C hk hl
      rw [d3, d4, d5] at hi
      exact .inr (.inr ⟨k, D, d1, d2, hi⟩)

/-- Behind Fix. -/
def fixR (R : List RB) (l : Int) : List RB := match blkA R l with
  | some B => R.set (l - 1).toNat { B with fixed := true }
  | none => R
/-- Behind Free. -/
def freeR (R : List RB) (l : Int) : List RB := match blkA R l with
  | some B => R.set (l - 1).toNat { B with live := false }
  | none => R
set_option maxRecDepth 100000 in
set_option maxHeartbeats 1000000 in
theorem rfix_any {w : World} {base rm cap : Nat} {s : Value} {R : List RB} (h : RefS w base rm s cap R) (l : Int) (hl : I64 l) :
    Calls Try.prog 14 #[.pointer (some ⟨rm, 0, none⟩), .int .i64 l] w fun e w' => e = .returned (.bool (blkA R l).isSome) ∧ RefLeft w w' base rm s R cap s (fixR R l) := by
  have HL := Lib.hid (live_any h l hl)
  unfold fixR
  cases hb : blkA R l with
  | none =>
    rw [hb] at HL
    have HH := Lib.hid h
    clear h hb
    go_enter Try.func14, Try.ntmps14
    go_wp2_with (go_at_call 31; (with_reducible refine (HL.out).mono ?_); rintro e w' ⟨rfl, rfl⟩)
    go_returns
    exact ⟨rfl, HH.out.left (Below.refl _ _)⟩
  | some B =>
    rw [hb] at HL
    obtain ⟨j, hj, hB, hlv, hjl⟩ := blkA_some hb
    obtain ⟨g, c, rfl, hg0, hg, hc, hf⟩ := h.read hB
    have t0 : w.cell? ⟨rm, 0, none⟩ = some (.slice (some ⟨g, 0, none⟩) R.length c) := by rw [Lib.cell_of_heap h.top]; rfl
    have r4 := (hc 4 (by omega)).trans B.cells4
    have f4 := hf (j * 5 + 4)
    have hR := h.len
    have hw : wrap64 (l - 1) = (j : Int) := by unfold wrap64; obtain ⟨l1, l2⟩ := hl; omega
    have HH := Lib.hid h
    have HB := Lib.hid hB
    have hlj : (l - 1).toNat = j := by omega
    rw [hlj]
    clear h hb hB hc hf hj hlj
    go_enter Try.func14, Try.ntmps14
    go_wp2_with (go_at_call 31; (with_reducible refine (HL.out).mono ?_); rintro e w' ⟨rfl, rfl⟩)
    go_returns
    have hst := (HH.out.row.stored (j * 5 + 4) (.bool true)).1
    have hgr := (HH.out.row.stored (j * 5 + 4) (.bool true)).2
    have hfs := flat_set R j B { B with fixed := true } HB.out 4 (.bool true) (by omega) (by unfold RB.cells; cases B.live <;> rfl)
    rw [← hfs] at hst
    have hn' : ∀ i, Value.ownBlock (.slice (some ⟨g, 0, none⟩) R.length c) ≠ some i → (w.setCell ⟨g, j * 5 + 4, none⟩ (.bool true)).heap[i]? = w.heap[i]? := fun i hi => heap_set_ne _ _ _ (fun e => hi (by rw [e]; rfl))
    have hp := HH.out.putRec HB.out hst hn' (fun e => ⟨e, rfl, rfl, rfl, rfl, rfl, rfl, rfl⟩)
    exact ⟨rfl, hp.1, (Below.refl _ _).setCell hg0 _, fun i hi hn => hn' i (fun e => hn (.inr (.inl e))), fun i hi => .inl (hp.2 i hi)⟩

set_option maxRecDepth 100000 in
set_option maxHeartbeats 1000000 in
theorem rfree_any {w : World} {base rm cap : Nat} {s : Value} {R : List RB} (h : RefS w base rm s cap R) (l : Int) (hl : I64 l) :
    Calls Try.prog 12 #[.pointer (some ⟨rm, 0, none⟩), .int .i64 l] w fun e w' => e = .returned (.bool (blkA R l).isSome) ∧ RefLeft w w' base rm s R cap s (freeR R l) := by
  have HL := Lib.hid (live_any h l hl)
  unfold freeR
  cases hb : blkA R l with
  | none =>
    rw [hb] at HL
    have HH := Lib.hid h
    clear h hb
    go_enter Try.func12, Try.ntmps12
    go_wp2_with (go_at_call 31; (with_reducible refine (HL.out).mono ?_); rintro e w' ⟨rfl, rfl⟩)
    go_returns
    exact ⟨rfl, HH.out.left (Below.refl _ _)⟩
  | some B =>
    rw [hb] at HL
    obtain ⟨j, hj, hB, hlv, hjl⟩ := blkA_some hb
    obtain ⟨g, c, rfl, hg0, hg, hc, hf⟩ := h.read hB
    have t0 : w.cell? ⟨rm, 0, none⟩ = some (.slice (some ⟨g, 0, none⟩) R.length c) := by rw [Lib.cell_of_heap h.top]; rfl
    have r0 := (hc 0 (by omega)).trans (RB.cells0 hlv)
    have r1 := (hc 1 (by omega)).trans (RB.cells1 hlv)
    have r2 := (hc 2 (by omega)).trans (RB.cells2 hlv)
    have r3 := (hc 3 (by omega)).trans B.cells3
    rw [Nat.add_zero] at r0
    have f0 := hf
    have hR := h.len
    have hw : wrap64 (l - 1) = (j : Int) := by unfold wrap64; obtain ⟨l1, l2⟩ := hl; omega
    have hgm : g ≠ rm := fun e => by
      rcases h.row.2 with ⟨h2, _⟩ | ⟨g', cp, cur, e1, _, e3, _⟩
      · cases h2
      · injection e1 with e1
        injection e1 with e1
        injection e1 with e1
        subst e1
        rw [e, h.top] at e3
        simp at e3
    have HH := Lib.hid h
    have HB := Lib.hid hB
    have hlj : (l - 1).toNat = j := by omega
    rw [hlj]
    clear h hb hB hc hf hj hlj
    have hA3 := cell_set_if
    go_enter Try.func12, Try.ntmps12
    go_wp2_with (go_at_call 31; (with_reducible refine (HL.out).mono ?_); rintro e w' ⟨rfl, rfl⟩)
    obtain ⟨W, hW⟩ : ∃ W, W = w.setCell ⟨g, j * 5 + 3, none⟩ (.bool false) := ⟨_, rfl⟩
    have z0 : W.cell? ⟨rm, 0, none⟩ = some (.slice (some ⟨g, 0, none⟩) R.length c) := by rw [hW, hA3, if_neg (Ne.symm hgm)]; exact t0
    have z1 : W.cell? ⟨g, j * 5, none⟩ = some (.slice (some ⟨B.g, 0, none⟩) B.kinds.length B.kinds.length) := by rw [hW, hA3, if_pos rfl, if_neg (by omega)]; exact r0
    have z2 : W.cell? ⟨g, j * 5 + 1, none⟩ = some (.slice (some ⟨B.b, 0, none⟩) B.kinds.length B.kinds.length) := by rw [hW, hA3, if_pos rfl, if_neg (by omega)]; exact r1
    have z3 : W.cell? ⟨g, j * 5 + 2, none⟩ = some (.map (some B.p)) := by rw [hW, hA3, if_pos rfl, if_neg (by omega)]; exact r2
    have f1 : ∀ o, W.frozen? ⟨g, o, none⟩ = false := fun o => by rw [hW]; simp [f0]
    have HW := Lib.hid hW
    rw [← hW]
    clear hW t0 r0 r1 r2 r3 f0
    go_region
    go_wp2
    go_returns
    have hWW := HW.out
    subst hWW
    have s1 := (HH.out.row.stored (j * 5 + 3) (.bool false)).1
    have s2 := (s1.stored (j * 5 + 0) (.slice none 0 0)).1
    have s3 := (s2.stored (j * 5 + 1) (.slice none 0 0)).1
    have s4 := (s3.stored (j * 5 + 2) (.map none)).1
    rw [← flat_free HB.out hlv] at s4
    rw [Nat.add_zero] at s4
    have hn' : ∀ i, Value.ownBlock (.slice (some ⟨g, 0, none⟩) R.length c) ≠ some i → ((((w.setCell ⟨g, j * 5 + 3, none⟩ (.bool false)).setCell ⟨g, j * 5, none⟩ (.slice none 0 0)).setCell ⟨g, j * 5 + 1, none⟩ (.slice none 0 0)).setCell ⟨g, j * 5 + 2, none⟩ (.map none)).drew.heap[i]? = w.heap[i]? := fun i hi => by
      have hig : i ≠ g := fun e => hi (by rw [e]; rfl)
      exact (heap_set_ne _ _ _ hig).trans ((heap_set_ne _ _ _ hig).trans ((heap_set_ne _ _ _ hig).trans (heap_set_ne _ _ _ hig)))
    have hp := HH.out.putRec HB.out (B' := { B with live := false }) (w' := ((((w.setCell ⟨g, j * 5 + 3, none⟩ (.bool false)).setCell ⟨g, j * 5, none⟩ (.slice none 0 0)).setCell ⟨g, j * 5 + 1, none⟩ (.slice none 0 0)).setCell ⟨g, j * 5 + 2, none⟩ (.map none)).drew) s4.drew hn' (fun e => by cases e)
    exact ⟨rfl, hp.1, Below.drew (Below.setCell (Below.setCell (Below.setCell (Below.setCell (Below.refl _ _) hg0 _) hg0 _) hg0 _) hg0 _), fun i hi hn => hn' i (fun e => hn (.inr (.inl e))), fun i hi => .inl (hp.2 i hi)⟩

end Go.Proofs.Ytddipbpllogbaaa
