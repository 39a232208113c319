/-
  Arrays, records and functions out of plain numbers.
-/
import Derived.Test.YteeojgepgjndgaaDoorCtypeW11
namespace Go.Proofs.YteeojgepgjndgaaDoor
open Go.RowKit
set_option linter.unusedVariables false
set_option linter.unusedSimpArgs false

section
variable (n : Nat) (D : Int) (hD : 0 ≤ D ∧ D ≤ 60) (l : List Int) (b off m c : Nat) (w : World) (c' : Int)
include hD
set_option maxRecDepth 100000 in
set_option maxHeartbeats 2000000 in
theorem made_11 (A : Option Addr) (hA : ∀ a, A = some a → a.block < w.heap.size) (hl : ∀ x ∈ l, I64 x) (h : RdL intC 1 w (.slice A m c) l) (ih : MakeD (D + 1) n) : Calls Tryd.prog 77 #[.int .i64 11, .int .i64 c', .slice A m c, .int .i64 D] w (MakeP A (.arr c' (mkE n l).1, (mkE n l).2) w) := by
  unfold MakeD at ih
  have HM := Lib.hid ih
  have HL := Lib.hid hl
  have HRD := Lib.hid h
  have HA := Lib.hid hA
  clear ih hl h hA
  obtain ⟨hD1, hD2⟩ := hD
  have hA1 := cell_alloc_if
  have hA2 := frozen_alloc_if
  have hA3 := cell_set_if
  go_enter Tryd.func77, Tryd.ntmps77
  go_wp2_with (first
    | (go_at_call 47; (with_reducible refine (HM.out l _ _ _ _ HL.out (fun a ha => Nat.lt_of_lt_of_le (HA.out a ha) (by first | omega | (simp only [World.size_alloc, World.size_setCell, World.size_drew, World.heap_drewN]; omega))) (HRD.out.next (by (repeat' (first | (with_reducible exact Below.refl _ _) | (with_reducible assumption) | (with_reducible refine Below.setCell ?_ ?_ _) | (with_reducible refine Below.alloc ?_ ?_ _) | (with_reducible refine Below.drew ?_) | (with_reducible refine below_drewN ?_ _) | (with_reducible refine below_next ?_ (by with_reducible assumption)) | omega | (dsimp only; omega) | (simp only [World.size_alloc, World.size_setCell, World.size_drew, World.heap_drewN]; omega)))))).mono ?_); rintro e w3 ⟨t, A3, c3, rfl, ht, hr3, hi3, hs3, hrd3, hb3⟩; obtain ⟨k1, s1, l1, f1, n1, A1, m1, c1, e1⟩ := tyC_form t hr3; rw [tyV_of e1]; obtain ⟨hc3, hf3, hz3⟩ := cif hb3; (try simp only [World.size_alloc, World.size_setCell, World.size_drew, World.heap_drewN] at hz3); have R3 := Lib.hid hr3; have I3 := Lib.hid hi3; have D3 := Lib.hid hrd3; have E1 := Lib.hid e1; have T3 := Lib.hid ht; have S3 := Lib.hid hs3; clear hr3 hi3 hrd3 e1 ht hs3)
    | (go_at_call 44; (with_reducible refine (arrayTy_any _ _ _ _ _ _ _ _ _ t _ (R3.out.next (by (repeat' (first | (with_reducible exact Below.refl _ _) | (with_reducible assumption) | (with_reducible refine Below.setCell ?_ ?_ _) | (with_reducible refine Below.alloc ?_ ?_ _) | (with_reducible refine Below.drew ?_) | (with_reducible refine below_drewN ?_ _) | (with_reducible refine below_next ?_ (by with_reducible assumption)) | omega | (dsimp only; omega) | (simp only [World.size_alloc, World.size_setCell, World.size_drew, World.heap_drewN]; omega))))) E1.out).mono ?_); rintro e w4 ⟨t4, ⟨sv4, rfl, hs4⟩, rfl, hr4, hb4⟩
       obtain ⟨k4, s4, l4, f4, n4, A4, m4, c4, e4⟩ := tyC_form _ hr4
       rw [tyV_of e4]
       obtain ⟨hc4, hf4, hz4⟩ := cif hb4; (try simp only [World.size_alloc, World.size_setCell, World.size_drew, World.heap_drewN] at hz4)
       have R4 := Lib.hid hr4; have S4 := Lib.hid hs4; have E4 := Lib.hid e4; clear hr4 hs4 e4))
  ((try simp only [Exit.inBlock, Exit.then]); go_light; refine bodyPost_ret (by simp [results, Tryd.results77, go_sem, *, ↓IntWalk.iteOmega]; try rfl) rfl ?_)
  rw [← tyV_of E4.out]
  have hlow : Below w.heap.size w w3 := by (repeat' (first | (with_reducible exact Below.refl _ _) | (with_reducible assumption) | (with_reducible refine Below.setCell ?_ ?_ _) | (with_reducible refine Below.alloc ?_ ?_ _) | (with_reducible refine Below.drew ?_) | (with_reducible refine below_drewN ?_ _) | (with_reducible refine below_next ?_ (by with_reducible assumption)) | omega | (dsimp only; omega) | (simp only [World.size_alloc, World.size_setCell, World.size_drew, World.heap_drewN]; omega)))
  have hin : InT (fun b => w.heap.size + 1 ≤ b) (.arr sv4 c' t) := by
    simp only [InT]
    exact ⟨fun b hb => by have h4 := S4.out b hb; simp only [World.size_alloc] at h4; omega, InT.mono (fun b hb => by (try simp only [World.size_alloc] at hb); omega) t I3.out⟩
  have hblk : ∀ b, (Value.slice A3 (mkE n l).2.length c3).ownBlock = some b → b < w.heap.size := by
    intro b hb
    cases A3 with
    | none => simp [Value.ownBlock] at hb
    | some x =>
      obtain ⟨a, ha, e⟩ := S3.out x rfl
      have := HA.out a ha
      simp [Value.ownBlock] at hb
      omega
  refine ⟨.arr sv4 c' t, A3, c3, rfl, by simp [er, T3.out], R4.out.keepS (S := fun b => w.heap.size + 1 ≤ b) (fun b hb hlt => ?_) _ hin, InT.mono (fun b hb => by omega) _ hin, S3.out, (rdl_back D3.out hlow hblk).next (by (repeat' (first | (with_reducible exact Below.refl _ _) | (with_reducible assumption) | (with_reducible refine Below.setCell ?_ ?_ _) | (with_reducible refine Below.alloc ?_ ?_ _) | (with_reducible refine Below.drew ?_) | (with_reducible refine below_drewN ?_ _) | (with_reducible refine below_next ?_ (by with_reducible assumption)) | omega | (dsimp only; omega) | (simp only [World.size_alloc, World.size_setCell, World.size_drew, World.heap_drewN]; omega)))), by (repeat' (first | (with_reducible exact Below.refl _ _) | (with_reducible assumption) | (with_reducible refine Below.setCell ?_ ?_ _) | (with_reducible refine Below.alloc ?_ ?_ _) | (with_reducible refine Below.drew ?_) | (with_reducible refine below_drewN ?_ _) | (with_reducible refine below_next ?_ (by with_reducible assumption)) | omega | (dsimp only; omega) | (simp only [World.size_alloc, World.size_setCell, World.size_drew, World.heap_drewN]; omega)))⟩
  simp only [World.setCell, Array.getElem?_modify]
  repeat rw [if_neg (by omega)]
omit hD in
set_option maxRecDepth 100000 in
set_option maxHeartbeats 2000000 in
theorem made_rec (u : Bool) (A : Option Addr) (h : RdL intC 1 w (.slice A m c) l) : Calls Tryd.prog 77 #[.int .i64 (if u then 13 else 12), .int .i64 c', .slice A m c, .int .i64 D] w (MakeP A (.rcd u [nameC c'], l) w) := by
  have HRD := Lib.hid h
  have hml : m = l.length := by obtain ⟨_, _, e, _⟩ := h; injection e
  subst hml
  clear h
  cases u
  all_goals (
    have hA1 := cell_alloc_if
    have hA2 := frozen_alloc_if
    have hA3 := cell_set_if
    go_enter Tryd.func77, Tryd.ntmps77
    go_wp2_with (first
      | (go_at_call 15; (with_reducible refine (name_any _ _).mono ?_); rintro e w' ⟨rfl, rfl⟩)
      | (go_at_call 43; (with_reducible refine (recordTy_any _ _ _).mono ?_); rintro e w' ⟨rfl, hbl⟩; obtain ⟨hc, hf, hz⟩ := cif hbl; (try simp only [World.size_alloc, World.size_setCell, World.size_drew, World.heap_drewN] at hz)))
    ((try simp only [Exit.inBlock, Exit.then]); go_light; refine bodyPost_ret (by simp [results, Tryd.results77, go_sem, *, ↓IntWalk.iteOmega]; try rfl) rfl ?_)
    exact ⟨.rcd _ (nameB c'), A, c, rfl, by simp [er, nameB_toList], by simp [RdT], by simp [InT], fun a ha => ⟨a, ha, rfl⟩, HRD.out.next (by (repeat' (first | (with_reducible exact Below.refl _ _) | (with_reducible assumption) | (with_reducible refine Below.setCell ?_ ?_ _) | (with_reducible refine Below.alloc ?_ ?_ _) | (with_reducible refine Below.drew ?_) | (with_reducible refine below_drewN ?_ _) | (with_reducible refine below_next ?_ (by with_reducible assumption)) | omega | (dsimp only; omega) | (simp only [World.size_alloc, World.size_setCell, World.size_drew, World.heap_drewN]; omega)))), by (repeat' (first | (with_reducible exact Below.refl _ _) | (with_reducible assumption) | (with_reducible refine Below.setCell ?_ ?_ _) | (with_reducible refine Below.alloc ?_ ?_ _) | (with_reducible refine Below.drew ?_) | (with_reducible refine below_drewN ?_ _) | (with_reducible refine below_next ?_ (by with_reducible assumption)) | omega | (dsimp only; omega) | (simp only [World.size_alloc, World.size_setCell, World.size_drew, World.heap_drewN]; omega)))⟩)
end

mutual
theorem RdT.blk {w : World} : ∀ (t : Ty), RdT w t → InT (fun b => b < w.heap.size) t
  | .none, _ | .void, _ | .flt, _ | .num _ _, _ | .rcd _ _, _ => by simp [InT]
  | .ptr sv t, h => by
    simp only [RdT, InT] at h ⊢
    refine ⟨fun b hb => ?_, RdT.blk t h.2⟩
    obtain ⟨b', off, c, e, _, _, hlt, _⟩ := h.1.some_ (by simp)
    subst e; simp [Value.ownBlock] at hb; omega
  | .arr sv n t, h => by
    simp only [RdT, InT] at h ⊢
    refine ⟨fun b hb => ?_, RdT.blk t h.2⟩
    obtain ⟨b', off, c, e, _, _, hlt, _⟩ := h.1.some_ (by simp)
    subst e; simp [Value.ownBlock] at hb; omega
  | .fn sv r ps, h => by
    simp only [RdT, InT] at h ⊢
    refine ⟨fun b hb => ?_, RdT.blk r h.2.1, RdTs.blk ps h.2.2⟩
    obtain ⟨b', off, c, e, _, _, hlt, _⟩ := h.1.some_ (by simp)
    subst e; simp [Value.ownBlock] at hb; omega
theorem RdTs.blk {w : World} : ∀ (l : List Ty), RdTs w l → InTs (fun b => b < w.heap.size) l
  | [], _ => by simp [InTs]
  | t :: l, h => by simp only [RdTs, InTs] at h ⊢; exact ⟨RdT.blk t h.1, RdTs.blk l h.2⟩
end
mutual
theorem InT.both {S S' : Nat → Prop} : ∀ (t : Ty), InT S t → InT S' t → InT (fun b => S b ∧ S' b) t
  | .none, _, _ | .void, _, _ | .flt, _, _ | .num _ _, _, _ | .rcd _ _, _, _ => by simp [InT]
  | .ptr sv t, h, k => by simp only [InT] at h k ⊢; exact ⟨fun b hb => ⟨h.1 b hb, k.1 b hb⟩, InT.both t h.2 k.2⟩
  | .arr sv n t, h, k => by simp only [InT] at h k ⊢; exact ⟨fun b hb => ⟨h.1 b hb, k.1 b hb⟩, InT.both t h.2 k.2⟩
  | .fn sv r ps, h, k => by simp only [InT] at h k ⊢; exact ⟨fun b hb => ⟨h.1 b hb, k.1 b hb⟩, InT.both r h.2.1 k.2.1, InTs.both ps h.2.2 k.2.2⟩
theorem InTs.both {S S' : Nat → Prop} : ∀ (l : List Ty), InTs S l → InTs S' l → InTs (fun b => S b ∧ S' b) l
  | [], _, _ => by simp [InTs]
  | t :: l, h, k => by simp only [InTs] at h k ⊢; exact ⟨InT.both t h.1 k.1, InTs.both l h.2 k.2⟩
end
def nilT : Array Value := #[.int .i64 0, .int .i64 0, .int .i64 0, .bool false, .string ⟨#[]⟩, .slice none 0 0]
def fnBox (k1 s1 l1 : Int) (f1 : Bool) (n1 : ByteArray) (A1 : Option Addr) (m1 c1 : Nat) (A6 : Option Addr) (k c6 : Nat) : Array Value :=
  #[.int .i64 k1, .int .i64 s1, .int .i64 l1, .bool f1, .string n1, .slice A1 m1 c1, .slice A6 k c6]
/-- A function's type under way: k parameters are there. -/
structure FnS (w wr : World) (n : Nat) (l0 : List Int) (r : Ty) (ts : List Ty) (k1 s1 l1 : Int) (f1 : Bool) (n1 : ByteArray) (A1 : Option Addr) (m1 c1 : Nat) (A6 : Option Addr) (c6 : Nat) (A A5 : Option Addr) (c5 k : Nat) : Prop where
  low : Below w.heap.size w wr
  size : w.heap.size + 2 ≤ wr.heap.size
  res : wr.heap[w.heap.size]? = some (.cells nilT 30 (0, 0))
  box : wr.heap[w.heap.size + 1]? = some (.cells (fnBox k1 s1 l1 f1 n1 A1 m1 c1 A6 k c6) 95 (0, 0))
  own : OwnL 30 tyC 6 (w.heap.size + 2) wr (.slice A6 k c6) ts
  len : ts.length = k
  ers_ : ers ts = (mkEs n k l0).1
  rds : RdTs wr (r :: ts)
  ins : InTs (fun b => w.heap.size + 2 ≤ b ∧ b < wr.heap.size ∧ some b ≠ (Value.slice A6 k c6).ownBlock) (r :: ts)
  rest : RdL intC 1 wr (.slice A5 (mkEs n k l0).2.length c5) (mkEs n k l0).2
  sub : SubA A5 A

theorem heap_setC (w : World) (b o : Nat) (v : Value) (k : Nat) (h : k ≠ b) : (w.setCell ⟨b, o, none⟩ v).heap[k]? = w.heap[k]? := Below.heap_setCell w _ v k h
theorem size_setC (w : World) (b o : Nat) (v : Value) : (w.setCell ⟨b, o, none⟩ v).heap.size = w.heap.size := World.size_setCell ..
/-- One parameter more. -/
theorem FnS.step {w wr w4 W5 w6 wf : World} {n : Nat} {l0 : List Int} {r t : Ty} {ts : List Ty} {k1 s1 l1 : Int} {f1 : Bool} {n1 : ByteArray} {A1 : Option Addr} {m1 c1 : Nat} {A6 A9 : Option Addr} {c6 c9 : Nat} {A A5 A7 : Option Addr} {c5 c7 k : Nat}
    (h : FnS w wr n l0 r ts k1 s1 l1 f1 n1 A1 m1 c1 A6 c6 A A5 c5 k) (hA : ∀ a, A = some a → a.block < w.heap.size)
    (h4 : Below wr.heap.size wr w4) (h45 : wr.heap.size + 1 ≤ w4.heap.size)
    (h5 : ∀ b, b ≠ wr.heap.size → b < w4.heap.size → W5.heap[b]? = w4.heap[b]?) (hs5 : w4.heap.size + 1 = W5.heap.size) (hl5 : Below wr.heap.size wr W5)
    (ht : er t = (mkE n (mkEs n k l0).2).1) (hrt : RdT w4 t) (hit : InT (fun b => wr.heap.size + 1 ≤ b) t)
    (hsub : SubA A7 A5) (hrd : RdL intC 1 w4 (.slice A7 (mkE n (mkEs n k l0).2).2.length c7) (mkE n (mkEs n k l0).2).2)
    (hown : OwnL 30 tyC 6 (w.heap.size + 2) w6 (.slice A9 (k + 1) c9) (ts ++ [t])) (hg : W5.grownBy w6 (Value.slice A6 k c6).ownBlock) (hB : Below (w.heap.size + 2) W5 w6)
    (hor : (Value.slice A9 (k + 1) c9).ownBlock = (Value.slice A6 k c6).ownBlock ∨ (Value.slice A9 (k + 1) c9).ownBlock = some W5.heap.size)
    (hf : wf = w6.setCell ⟨w.heap.size + 1, 6, none⟩ (.slice A9 (k + 1) c9)) :
    FnS w wf n l0 r (ts ++ [t]) k1 s1 l1 f1 n1 A1 m1 c1 A9 c9 A A7 c7 (k + 1) := by
  have z1 := hB.size
  have z2 := h.size
  have z3 := h4.size
  have hbf : ∀ b, b < w.heap.size + 2 → b ≠ w.heap.size + 1 → wf.heap[b]? = wr.heap[b]? := fun b hb hb1 => by
    rw [hf, heap_setC _ _ _ _ _ hb1, hB.block b hb, hl5.block b (by omega)]
  have hsz : wf.heap.size = w6.heap.size := by rw [hf, size_setC]
  have hlowf : Below w.heap.size w wf := by
    rw [hf]
    exact Below.setCell (Below.trans h.low (Below.trans (hl5.mono (by omega)) (hB.mono (by omega)))) (by show w.heap.size ≤ w.heap.size + 1; omega) _
  have hkeep : ∀ b, w.heap.size + 2 ≤ b → b < W5.heap.size → some b ≠ (Value.slice A6 k c6).ownBlock → wf.heap[b]? = W5.heap[b]? := fun b hb hlt hne => by
    rw [hf, heap_setC _ _ _ _ _ (by omega), hg.block b hlt hne]
  have hmk := mkEs_snoc n k l0
  refine ⟨hlowf, by omega, ?_, ?_, ?_, ?_, ?_, ?_, ?_, ?_, hsub.trans h.sub⟩
  · rw [hbf _ (by omega) (by omega)]; exact h.res
  · have hb6 : w6.heap[w.heap.size + 1]? = some (.cells (fnBox k1 s1 l1 f1 n1 A1 m1 c1 A6 k c6) 95 (0, 0)) := by
      rw [hB.block _ (by omega), hl5.block _ (by omega)]; exact h.box
    rw [hf]
    simp only [World.setCell, Array.getElem?_modify, if_true, hb6]
    rfl
  · refine hown.keep fun b hb => ?_
    have := (hown.lt hb).1
    rw [hf, heap_setC _ _ _ _ _ (by omega)]
  · rw [List.length_append, h.len]; rfl
  · rw [ers_append, h.ers_, hmk]; simp [ers, ht]
  · have q1 : RdTs wf (r :: ts) := RdTs.keepS (S := fun b => w.heap.size + 2 ≤ b ∧ b < wr.heap.size ∧ some b ≠ (Value.slice A6 k c6).ownBlock) (fun b hb hlt => by
      rw [hkeep b hb.1 (by omega) hb.2.2, hl5.block b hlt]) _ h.rds h.ins
    have q2 : RdT wf t := hrt.keepS (S := fun b => wr.heap.size + 1 ≤ b) (fun b hb hlt => by
      rw [hkeep b (by omega) (by omega) (fun e => by have := (h.own.lt e.symm).2; omega), h5 b (by omega) hlt]) _ hit
    exact RdTs.append (l1 := r :: ts) (l2 := [t]) q1 ⟨q2, trivial⟩
  · refine InTs.append (l1 := r :: ts) (l2 := [t]) (InTs.mono (fun b hb => ⟨hb.1, by omega, fun e => ?_⟩) _ h.ins) ⟨InT.mono (fun b hb => ⟨by omega, by omega, fun e => ?_⟩) _ (hit.both _ hrt.blk), trivial⟩
    · rcases hor with e2 | e2
      · exact hb.2.2 (e.trans e2)
      · rw [e2] at e; injection e with e; omega
    · obtain ⟨hb1, hb2⟩ := hb
      rcases hor with e2 | e2
      · have := (h.own.lt (e.trans e2).symm).2; omega
      · rw [e2] at e; injection e with e; omega
  · rw [hmk]
    have hblk : ∀ b, (Value.slice A7 (mkE n (mkEs n k l0).2).2.length c7).ownBlock = some b → b < w.heap.size := by
      intro b hb
      cases A7 with
      | none => simp [Value.ownBlock] at hb
      | some x =>
        obtain ⟨a, ha, e⟩ := (hsub.trans h.sub) x rfl
        have := hA a ha
        simp [Value.ownBlock] at hb
        omega
    exact (rdl_back hrd (Below.trans h.low (h4.mono (by omega))) hblk).next hlowf
end Go.Proofs.YteeojgepgjndgaaDoor
