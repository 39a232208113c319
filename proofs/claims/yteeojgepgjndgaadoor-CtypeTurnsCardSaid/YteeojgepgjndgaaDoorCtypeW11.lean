/-
  Types out of plain numbers: what alembicmake makes.
-/
import Derived.Test.YteeojgepgjndgaaDoorCtypeW2
import Derived.Test.YteeojgepgjndgaaDoorCtypeW6
import Derived.Test.YteeojgepgjndgaaDoorCtypeBk
import Derived.Deep.DeepCutAuto
namespace Go.Proofs.YteeojgepgjndgaaDoor
open Go.RowKit
set_option linter.unusedVariables false
set_option linter.unusedSimpArgs false

def nameB (n : Int) : ByteArray := ⟨#[nameC n]⟩
def letters : ByteArray := ⟨#[97, 98, 99, 100, 101, 102, 103, 104, 105, 106, 107, 108, 109, 110, 111, 112, 113, 114, 115, 116, 117, 118, 119, 120, 121, 122]⟩
theorem letters_at : ∀ k : Nat, k < 26 → letters.extract k (k + 1) = ⟨#[UInt8.ofNat (97 + k)]⟩ := by
  intro k hk
  match k, hk with
  | 0, _ => rfl
  | 1, _ => rfl
  | 2, _ => rfl
  | 3, _ => rfl
  | 4, _ => rfl
  | 5, _ => rfl
  | 6, _ => rfl
  | 7, _ => rfl
  | 8, _ => rfl
  | 9, _ => rfl
  | 10, _ => rfl
  | 11, _ => rfl
  | 12, _ => rfl
  | 13, _ => rfl
  | 14, _ => rfl
  | 15, _ => rfl
  | 16, _ => rfl
  | 17, _ => rfl
  | 18, _ => rfl
  | 19, _ => rfl
  | 20, _ => rfl
  | 21, _ => rfl
  | 22, _ => rfl
  | 23, _ => rfl
  | 24, _ => rfl
  | 25, _ => rfl
  | k + 26, hk => omega
theorem nameB_toList (n : Int) : (nameB n).toList = [nameC n] := by unfold nameB; rw [ByteArray.toList_eq]
set_option maxRecDepth 100000 in
set_option maxHeartbeats 1000000 in
theorem name_any (n : Int) (w : World) : Calls Tryd.prog 15 #[.int .i64 n] w fun e w' => e = .returned (.string (nameB n)) ∧ w = w' := by
  have hu : IntKind.u64.wrap n = n % 18446744073709551616 := IntKind.wrap_u64 n
  obtain ⟨k, hk⟩ : ∃ k : Nat, (n % 18446744073709551616 % 26) = k := ⟨(n % 18446744073709551616 % 26).toNat, by omega⟩
  have hk26 : k < 26 := by omega
  have ht : (IntKind.u64.wrap n).tmod 26 = (k : Int) := by rw [hu, Int.tmod_eq_emod_of_nonneg (by omega), hk]
  have hB : Hid (nameB n = letters.extract k (k + 1)) := Lib.hid (by rw [letters_at k hk26]; unfold nameB nameC; rw [hk, Int.toNat_natCast])
  clear hu hk
  go_enter Tryd.func15, Tryd.ntmps15
  go_wp2
  all_goals (go_returns; exact ⟨by rw [hB.out]; rfl, rfl⟩)

/-- A slice's address lies in another's block. -/
def SubA (A' A : Option Addr) : Prop := ∀ a', A' = some a' → ∃ a, A = some a ∧ a'.block = a.block
theorem SubA.none (A : Option Addr) : SubA none A := fun _ h => by cases h
theorem SubA.trans {A B C : Option Addr} (h : SubA A B) (k : SubA B C) : SubA A C := fun a ha => by
  obtain ⟨b, hb, e⟩ := h a ha
  obtain ⟨c, hc, e2⟩ := k b hb
  exact ⟨c, hc, e.trans e2⟩
theorem SubA.from (A : Option Addr) (c k sz : Nat) : SubA (fromA A c k sz) A := by
  intro a' h
  unfold fromA at h
  split at h
  · exact ⟨a', h, rfl⟩
  · cases A with
    | none => cases h
    | some a => simp at h; subst h; exact ⟨a, rfl, block_of_add a _⟩
theorem SubA.lt {A A' : Option Addr} (h : SubA A' A) {a : Addr} (ha : A = some a) {n : Nat} (hn : a.block < n) {m c : Nat} : ∀ b, (Value.slice A' m c).ownBlock = some b → b < n := by
  intro b hb
  cases A' with
  | none => simp [Value.ownBlock] at hb
  | some x =>
    obtain ⟨a2, h2, e⟩ := h x rfl
    rw [ha] at h2
    injection h2 with h2
    subst h2
    simp [Value.ownBlock] at hb
    omega
theorem rdl_back {α : Type} {f : α → List Value} {sz : Nat} {w w' : World} {s : Value} {l : List α} (h : RdL f sz w' s l) (hb : Below w.heap.size w w') (hk : ∀ b, s.ownBlock = some b → b < w.heap.size) : RdL f sz w s l := by
  obtain ⟨A, c, e, h1, h2, h3⟩ := h
  refine ⟨A, c, e, h1, h2, fun hn => ?_⟩
  obtain ⟨b, off, e2, hlt, hc⟩ := h3 hn
  have hbl := hk b (by rw [e, e2]; rfl)
  exact ⟨b, off, e2, hbl, fun k a ha j v hv => (hb.cell (p := ⟨b, _, none⟩) hbl).symm.trans (hc k a ha j v hv)⟩
/-- A type, and what is left of the numbers, are answered. -/
def MakeP (A : Option Addr) (r : Er × List Int) (w : World) (e : Ending) (w' : World) : Prop := ∃ (t : Ty) (A' : Option Addr) (c : Nat), e = .returned (.tuple #[tyV t, .slice A' r.2.length c]) ∧ er t = r.1 ∧ RdT w' t ∧ InT (fun b => w.heap.size ≤ b) t ∧ SubA A' A ∧ RdL intC 1 w' (.slice A' r.2.length c) r.2 ∧ Below w.heap.size w w'
theorem cells_int : (Tryd.prog.info? 3).map (·.size) = some 1 := by kernel_rfl
def MakeAt (n : Nat) : Prop := ∀ (l : List Int) (A : Option Addr) (m c : Nat) (W : World), (∀ x ∈ l, I64 x) → RdL intC 1 W (.slice A m c) l → Calls Tryd.prog 47 #[.slice A m c, .int .i64 ((61 - n : Nat) : Int)] W (MakeP A (mkE n l) W)

set_option maxRecDepth 100000 in
set_option maxHeartbeats 1000000 in
theorem type_nil (n : Nat) (A : Option Addr) (m c : Nat) (w : World) (h : RdL intC 1 w (.slice A m c) []) : Calls Tryd.prog 47 #[.slice A m c, .int .i64 ((61 - n : Nat) : Int)] w (MakeP A (.none, []) w) := by
  obtain ⟨A', c', e, _⟩ := h.empty rfl
  injection e with e1 e2 e3
  subst e1 e2 e3
  clear h
  have hA1 := cell_alloc_if
  have hA2 := frozen_alloc_if
  have hA3 := cell_set_if
  go_enter Tryd.func47, Tryd.ntmps47
  go_wp2
  all_goals (((try simp only [Exit.inBlock, Exit.then]); go_light; refine bodyPost_ret (by simp [results, Tryd.results47, go_sem, *, ↓IntWalk.iteOmega]; try rfl) rfl ?_); exact ⟨.none, none, 0, rfl, rfl, by simp [RdT], by simp [InT], SubA.none _, RdL.nil _ _ _, by (repeat' (first | (with_reducible exact Below.refl _ _) | (with_reducible assumption) | (with_reducible refine Below.setCell ?_ ?_ _) | (with_reducible refine Below.alloc ?_ ?_ _) | (with_reducible refine Below.drew ?_) | (with_reducible refine below_drewN ?_ _) | (with_reducible refine below_next ?_ (by with_reducible assumption)) | omega | (dsimp only; omega) | (simp only [World.size_alloc, World.size_setCell, World.size_drew, World.heap_drewN]; omega)))⟩)
set_option maxRecDepth 100000 in
set_option maxHeartbeats 1000000 in
theorem type_deep (l : List Int) (A : Option Addr) (m c : Nat) (w : World) (h : RdL intC 1 w (.slice A m c) l) : Calls Tryd.prog 47 #[.slice A m c, .int .i64 61] w (MakeP A (.none, []) w) := by
  have bl := h.len
  unfold maxLen at bl
  obtain ⟨A', c', e⟩ := h.form
  injection e with e1 e2 e3
  subst e1 e2 e3
  clear h
  generalize l.length = m at *
  have hA1 := cell_alloc_if
  have hA2 := frozen_alloc_if
  have hA3 := cell_set_if
  go_enter Tryd.func47, Tryd.ntmps47
  go_wp2
  all_goals (((try simp only [Exit.inBlock, Exit.then]); go_light; refine bodyPost_ret (by simp [results, Tryd.results47, go_sem, *, ↓IntWalk.iteOmega]; try rfl) rfl ?_); exact ⟨.none, none, 0, rfl, rfl, by simp [RdT], by simp [InT], SubA.none _, RdL.nil _ _ _, by (repeat' (first | (with_reducible exact Below.refl _ _) | (with_reducible assumption) | (with_reducible refine Below.setCell ?_ ?_ _) | (with_reducible refine Below.alloc ?_ ?_ _) | (with_reducible refine Below.drew ?_) | (with_reducible refine below_drewN ?_ _) | (with_reducible refine below_next ?_ (by with_reducible assumption)) | omega | (dsimp only; omega) | (simp only [World.size_alloc, World.size_setCell, World.size_drew, World.heap_drewN]; omega)))⟩)

/-- What is at hand where there is a first number. -/
theorem first_at {w : World} {A : Option Addr} {m c : Nat} {k : Int} {l : List Int} (h : RdL intC 1 w (.slice A m c) (k :: l)) :
    ∃ b off, A = some ⟨b, off, none⟩ ∧ m = l.length + 1 ∧ m ≤ c ∧ c ≤ 9223372036854775807 ∧ b < w.heap.size ∧ w.cell? ⟨b, off, none⟩ = some (.int .i64 k) ∧
      (∀ W, (Instr.slice 23 (.slice A m c) (some (.int .i64 1)) none none).run Tryd.prog W = .ok (.slice (fromA A c 1 1) l.length (c - 1)) W) ∧ RdL intC 1 w (.slice (fromA A c 1 1) l.length (c - 1)) l := by
  obtain ⟨b, off, c', e, h1, h2, hb, hc⟩ := h.some_ (by simp)
  injection e with e1 e2 e3
  subst e1 e2 e3
  have h0 := hc 0 k rfl 0 _ rfl
  simp at h0
  refine ⟨b, off, rfl, by simp, h1, by unfold maxLen at h2; omega, hb, h0, fun W => ?_, ?_⟩
  · have := run_slice_from (P := Tryd.prog) Tryd.underlying23 cells_int (some ⟨b, off, none⟩) (k :: l).length c 1 (by simp) h1 W
    simpa using this
  · have := h.from 1 (by simp)
    simpa using this
def MakeD (D : Int) (n : Nat) : Prop := ∀ (l : List Int) (A : Option Addr) (m c : Nat) (W : World), (∀ x ∈ l, I64 x) → (∀ a, A = some a → a.block < W.heap.size) → RdL intC 1 W (.slice A m c) l → Calls Tryd.prog 47 #[.slice A m c, .int .i64 D] W (MakeP A (mkE n l) W)
def MadeD (D : Int) (n : Nat) : Prop := ∀ (k c' : Int) (l : List Int) (A : Option Addr) (m c : Nat) (W : World), 11 ≤ k ∧ k ≤ 14 → I64 c' → (∀ x ∈ l, I64 x) → (∀ a, A = some a → a.block < W.heap.size) → RdL intC 1 W (.slice A m c) l → Calls Tryd.prog 77 #[.int .i64 k, .int .i64 c', .slice A m c, .int .i64 D] W (MakeP A (mkE (n + 1) (k :: c' :: l)) W)
section
variable (n : Nat) (D : Int) (hD : 0 ≤ D ∧ D ≤ 60) (l : List Int) (A : Option Addr) (m c : Nat) (w : World)
include hD
set_option maxRecDepth 100000 in
set_option maxHeartbeats 2000000 in
theorem type_0 (h : RdL intC 1 w (.slice A m c) (0 :: l)) : Calls Tryd.prog 47 #[.slice A m c, .int .i64 D] w (MakeP A (.void, l) w) := by
  obtain ⟨b, off, rfl, rfl, hmc, hcm, hb, hcell, hsl, hrd⟩ := first_at h
  have HRD := Lib.hid hrd
  clear h hrd
  have bl := HRD.out.len
  unfold maxLen at bl
  obtain ⟨hD1, hD2⟩ := hD
  have hne0 : ((l.length : Int) + 1 == 0) = false := by rw [beq_eq_false_iff_ne]; omega
  have hd60 : decide (60 < D) = false := by simpa using hD2
  have hA1 := cell_alloc_if
  have hA2 := frozen_alloc_if
  have hA3 := cell_set_if
  go_enter Tryd.func47, Tryd.ntmps47
  go_wp2
  refine wp_region_ext (by kernel_rfl) (by kernel_rfl) ?_
  repeat (first | go_big_quiet_skip | (go_big_quiet_want; go_big_quiet_op; first | go_big_quiet_on | (apply Exists.intro; refine ⟨fun W hW => ?_, ?_⟩; (focus (first
    | fail
    | exact rfl | (obtain ⟨hcW, hfW, hzW⟩ := cif (Ext.of hW); (try simp only [World.size_alloc, World.size_setCell, World.size_drew, World.heap_drewN] at hzW); simp [go_sem, *, ↓IntWalk.iteOmega]; (try exact rfl)))); go_big_quiet_on)))
  refine wpQuiet_nil ?_
  intro w' hw'
  have hbl := Ext.of hw'
  obtain ⟨hc, hf, hz⟩ := cif hbl
  (try simp only [World.size_alloc, World.size_setCell, World.size_drew, World.heap_drewN] at hz)
  clear hw'
  go_wp2_with (go_at_call 76; (with_reducible refine (voidTy_any _).mono ?_); rintro e w' ⟨rfl, hbl⟩; obtain ⟨hc, hf, hz⟩ := cif hbl; (try simp only [World.size_alloc, World.size_setCell, World.size_drew, World.heap_drewN] at hz))
  ((try simp only [Exit.inBlock, Exit.then]); go_light; refine bodyPost_ret (by simp [results, Tryd.results47, go_sem, *, ↓IntWalk.iteOmega]; try rfl) rfl ?_)
  exact ⟨.void, _, _, rfl, rfl, by simp [RdT], by simp [InT], SubA.from _ _ _ _, HRD.out.next (by (repeat' (first | (with_reducible exact Below.refl _ _) | (with_reducible assumption) | (with_reducible refine Below.setCell ?_ ?_ _) | (with_reducible refine Below.alloc ?_ ?_ _) | (with_reducible refine Below.drew ?_) | (with_reducible refine below_drewN ?_ _) | (with_reducible refine below_next ?_ (by with_reducible assumption)) | omega | (dsimp only; omega) | (simp only [World.size_alloc, World.size_setCell, World.size_drew, World.heap_drewN]; omega)))), by (repeat' (first | (with_reducible exact Below.refl _ _) | (with_reducible assumption) | (with_reducible refine Below.setCell ?_ ?_ _) | (with_reducible refine Below.alloc ?_ ?_ _) | (with_reducible refine Below.drew ?_) | (with_reducible refine below_drewN ?_ _) | (with_reducible refine below_next ?_ (by with_reducible assumption)) | omega | (dsimp only; omega) | (simp only [World.size_alloc, World.size_setCell, World.size_drew, World.heap_drewN]; omega)))⟩
set_option maxRecDepth 100000 in
set_option maxHeartbeats 2000000 in
theorem type_num (k : Int) (hk : 1 ≤ k ∧ k ≤ 8) (h : RdL intC 1 w (.slice A m c) (k :: l)) : Calls Tryd.prog 47 #[.slice A m c, .int .i64 D] w (MakeP A (.num (2 ^ ((k - 1) / 2).toNat) (k % 2 = 0), l) w) := by
  have hk' : k = 1 ∨ k = 2 ∨ k = 3 ∨ k = 4 ∨ k = 5 ∨ k = 6 ∨ k = 7 ∨ k = 8 := by omega
  clear hk
  rcases hk' with rfl | rfl | rfl | rfl | rfl | rfl | rfl | rfl
  all_goals (
    obtain ⟨b, off, rfl, rfl, hmc, hcm, hb, hcell, hsl, hrd⟩ := first_at h
    have HRD := Lib.hid hrd
    clear h hrd
    have bl := HRD.out.len
    unfold maxLen at bl
    obtain ⟨hD1, hD2⟩ := hD
    have hne0 : ((l.length : Int) + 1 == 0) = false := by rw [beq_eq_false_iff_ne]; omega
    have hd60 : decide (60 < D) = false := by simpa using hD2
    have hA1 := cell_alloc_if
    have hA2 := frozen_alloc_if
    have hA3 := cell_set_if
    go_enter Tryd.func47, Tryd.ntmps47
    go_wp2
    refine wp_region_ext (by kernel_rfl) (by kernel_rfl) ?_
    repeat (first | go_big_quiet_skip | (go_big_quiet_want; go_big_quiet_op; first | go_big_quiet_on | (apply Exists.intro; refine ⟨fun W hW => ?_, ?_⟩; (focus (first
      | fail
      | exact rfl | (obtain ⟨hcW, hfW, hzW⟩ := cif (Ext.of hW); (try simp only [World.size_alloc, World.size_setCell, World.size_drew, World.heap_drewN] at hzW); simp [go_sem, *, ↓IntWalk.iteOmega]; (try exact rfl)))); go_big_quiet_on)))
    refine wpQuiet_nil ?_
    intro w' hw'
    have hbl := Ext.of hw'
    obtain ⟨hc, hf, hz⟩ := cif hbl
    (try simp only [World.size_alloc, World.size_setCell, World.size_drew, World.heap_drewN] at hz)
    clear hw'
    go_wp2_with (go_at_call 39; (with_reducible refine (numberTy_any _ _ _).mono ?_); rintro e w' ⟨rfl, hbl⟩; obtain ⟨hc, hf, hz⟩ := cif hbl; (try simp only [World.size_alloc, World.size_setCell, World.size_drew, World.heap_drewN] at hz))
    ((try simp only [Exit.inBlock, Exit.then]); go_light; refine bodyPost_ret (by simp [results, Tryd.results47, go_sem, *, ↓IntWalk.iteOmega]; try rfl) rfl ?_)
    exact ⟨.num _ _, _, _, rfl, rfl, by simp [RdT], by simp [InT], SubA.from _ _ _ _, HRD.out.next (by (repeat' (first | (with_reducible exact Below.refl _ _) | (with_reducible assumption) | (with_reducible refine Below.setCell ?_ ?_ _) | (with_reducible refine Below.alloc ?_ ?_ _) | (with_reducible refine Below.drew ?_) | (with_reducible refine below_drewN ?_ _) | (with_reducible refine below_next ?_ (by with_reducible assumption)) | omega | (dsimp only; omega) | (simp only [World.size_alloc, World.size_setCell, World.size_drew, World.heap_drewN]; omega)))), by (repeat' (first | (with_reducible exact Below.refl _ _) | (with_reducible assumption) | (with_reducible refine Below.setCell ?_ ?_ _) | (with_reducible refine Below.alloc ?_ ?_ _) | (with_reducible refine Below.drew ?_) | (with_reducible refine below_drewN ?_ _) | (with_reducible refine below_next ?_ (by with_reducible assumption)) | omega | (dsimp only; omega) | (simp only [World.size_alloc, World.size_setCell, World.size_drew, World.heap_drewN]; omega)))⟩)
set_option maxRecDepth 100000 in
set_option maxHeartbeats 2000000 in
theorem type_9 (h : RdL intC 1 w (.slice A m c) (9 :: l)) : Calls Tryd.prog 47 #[.slice A m c, .int .i64 D] w (MakeP A (.flt, l) w) := by
  obtain ⟨b, off, rfl, rfl, hmc, hcm, hb, hcell, hsl, hrd⟩ := first_at h
  have HRD := Lib.hid hrd
  clear h hrd
  have bl := HRD.out.len
  unfold maxLen at bl
  obtain ⟨hD1, hD2⟩ := hD
  have hne0 : ((l.length : Int) + 1 == 0) = false := by rw [beq_eq_false_iff_ne]; omega
  have hd60 : decide (60 < D) = false := by simpa using hD2
  have hA1 := cell_alloc_if
  have hA2 := frozen_alloc_if
  have hA3 := cell_set_if
  go_enter Tryd.func47, Tryd.ntmps47
  go_wp2
  refine wp_region_ext (by kernel_rfl) (by kernel_rfl) ?_
  repeat (first | go_big_quiet_skip | (go_big_quiet_want; go_big_quiet_op; first | go_big_quiet_on | (apply Exists.intro; refine ⟨fun W hW => ?_, ?_⟩; (focus (first
    | fail
    | exact rfl | (obtain ⟨hcW, hfW, hzW⟩ := cif (Ext.of hW); (try simp only [World.size_alloc, World.size_setCell, World.size_drew, World.heap_drewN] at hzW); simp [go_sem, *, ↓IntWalk.iteOmega]; (try exact rfl)))); go_big_quiet_on)))
  refine wpQuiet_nil ?_
  intro w' hw'
  have hbl := Ext.of hw'
  obtain ⟨hc, hf, hz⟩ := cif hbl
  (try simp only [World.size_alloc, World.size_setCell, World.size_drew, World.heap_drewN] at hz)
  clear hw'
  go_wp2_with (go_at_call 42; (with_reducible refine (floatTy_any _).mono ?_); rintro e w' ⟨rfl, hbl⟩; obtain ⟨hc, hf, hz⟩ := cif hbl; (try simp only [World.size_alloc, World.size_setCell, World.size_drew, World.heap_drewN] at hz))
  ((try simp only [Exit.inBlock, Exit.then]); go_light; refine bodyPost_ret (by simp [results, Tryd.results47, go_sem, *, ↓IntWalk.iteOmega]; try rfl) rfl ?_)
  exact ⟨.flt, _, _, rfl, rfl, by simp [RdT], by simp [InT], SubA.from _ _ _ _, HRD.out.next (by (repeat' (first | (with_reducible exact Below.refl _ _) | (with_reducible assumption) | (with_reducible refine Below.setCell ?_ ?_ _) | (with_reducible refine Below.alloc ?_ ?_ _) | (with_reducible refine Below.drew ?_) | (with_reducible refine below_drewN ?_ _) | (with_reducible refine below_next ?_ (by with_reducible assumption)) | omega | (dsimp only; omega) | (simp only [World.size_alloc, World.size_setCell, World.size_drew, World.heap_drewN]; omega)))), by (repeat' (first | (with_reducible exact Below.refl _ _) | (with_reducible assumption) | (with_reducible refine Below.setCell ?_ ?_ _) | (with_reducible refine Below.alloc ?_ ?_ _) | (with_reducible refine Below.drew ?_) | (with_reducible refine below_drewN ?_ _) | (with_reducible refine below_next ?_ (by with_reducible assumption)) | omega | (dsimp only; omega) | (simp only [World.size_alloc, World.size_setCell, World.size_drew, World.heap_drewN]; omega)))⟩
set_option maxRecDepth 100000 in
set_option maxHeartbeats 2000000 in
theorem type_15 (h : RdL intC 1 w (.slice A m c) (15 :: l)) : Calls Tryd.prog 47 #[.slice A m c, .int .i64 D] w (MakeP A (.num 3 false, l) w) := by
  obtain ⟨b, off, rfl, rfl, hmc, hcm, hb, hcell, hsl, hrd⟩ := first_at h
  have HRD := Lib.hid hrd
  clear h hrd
  have bl := HRD.out.len
  unfold maxLen at bl
  obtain ⟨hD1, hD2⟩ := hD
  have hne0 : ((l.length : Int) + 1 == 0) = false := by rw [beq_eq_false_iff_ne]; omega
  have hd60 : decide (60 < D) = false := by simpa using hD2
  have hA1 := cell_alloc_if
  have hA2 := frozen_alloc_if
  have hA3 := cell_set_if
  go_enter Tryd.func47, Tryd.ntmps47
  go_wp2
  refine wp_region_ext (by kernel_rfl) (by kernel_rfl) ?_
  repeat (first | go_big_quiet_skip | (go_big_quiet_want; go_big_quiet_op; first | go_big_quiet_on | (apply Exists.intro; refine ⟨fun W hW => ?_, ?_⟩; (focus (first
    | fail
    | exact rfl | (obtain ⟨hcW, hfW, hzW⟩ := cif (Ext.of hW); (try simp only [World.size_alloc, World.size_setCell, World.size_drew, World.heap_drewN] at hzW); simp [go_sem, *, ↓IntWalk.iteOmega]; (try exact rfl)))); go_big_quiet_on)))
  refine wpQuiet_nil ?_
  intro w' hw'
  have hbl := Ext.of hw'
  obtain ⟨hc, hf, hz⟩ := cif hbl
  (try simp only [World.size_alloc, World.size_setCell, World.size_drew, World.heap_drewN] at hz)
  clear hw'
  go_wp2_with (go_at_call 39; (with_reducible refine (numberTy_any _ _ _).mono ?_); rintro e w' ⟨rfl, hbl⟩; obtain ⟨hc, hf, hz⟩ := cif hbl; (try simp only [World.size_alloc, World.size_setCell, World.size_drew, World.heap_drewN] at hz))
  ((try simp only [Exit.inBlock, Exit.then]); go_light; refine bodyPost_ret (by simp [results, Tryd.results47, go_sem, *, ↓IntWalk.iteOmega]; try rfl) rfl ?_)
  exact ⟨.num _ _, _, _, rfl, rfl, by simp [RdT], by simp [InT], SubA.from _ _ _ _, HRD.out.next (by (repeat' (first | (with_reducible exact Below.refl _ _) | (with_reducible assumption) | (with_reducible refine Below.setCell ?_ ?_ _) | (with_reducible refine Below.alloc ?_ ?_ _) | (with_reducible refine Below.drew ?_) | (with_reducible refine below_drewN ?_ _) | (with_reducible refine below_next ?_ (by with_reducible assumption)) | omega | (dsimp only; omega) | (simp only [World.size_alloc, World.size_setCell, World.size_drew, World.heap_drewN]; omega)))), by (repeat' (first | (with_reducible exact Below.refl _ _) | (with_reducible assumption) | (with_reducible refine Below.setCell ?_ ?_ _) | (with_reducible refine Below.alloc ?_ ?_ _) | (with_reducible refine Below.drew ?_) | (with_reducible refine below_drewN ?_ _) | (with_reducible refine below_next ?_ (by with_reducible assumption)) | omega | (dsimp only; omega) | (simp only [World.size_alloc, World.size_setCell, World.size_drew, World.heap_drewN]; omega)))⟩
set_option maxRecDepth 100000 in
set_option maxHeartbeats 2000000 in
theorem type_out (k : Int) (hk : k < 0 ∨ 15 < k) (h : RdL intC 1 w (.slice A m c) (k :: l)) : Calls Tryd.prog 47 #[.slice A m c, .int .i64 D] w (MakeP A (.none, l) w) := by
  rcases hk with hk | hk
  all_goals (
    obtain ⟨b, off, rfl, rfl, hmc, hcm, hb, hcell, hsl, hrd⟩ := first_at h
    have HRD := Lib.hid hrd
    clear h hrd
    have bl := HRD.out.len
    unfold maxLen at bl
    obtain ⟨hD1, hD2⟩ := hD
    have hne0 : ((l.length : Int) + 1 == 0) = false := by rw [beq_eq_false_iff_ne]; omega
    have hd60 : decide (60 < D) = false := by simpa using hD2
    have hA1 := cell_alloc_if
    have hA2 := frozen_alloc_if
    have hA3 := cell_set_if
    go_enter Tryd.func47, Tryd.ntmps47
    go_wp2
    refine wp_region_ext (by kernel_rfl) (by kernel_rfl) ?_
    repeat (first | go_big_quiet_skip | (go_big_quiet_want; go_big_quiet_op; first | go_big_quiet_on | (apply Exists.intro; refine ⟨fun W hW => ?_, ?_⟩; (focus (first
      | fail
      | exact rfl | (obtain ⟨hcW, hfW, hzW⟩ := cif (Ext.of hW); (try simp only [World.size_alloc, World.size_setCell, World.size_drew, World.heap_drewN] at hzW); simp [go_sem, *, ↓IntWalk.iteOmega]; (try exact rfl)))); go_big_quiet_on)))
    refine wpQuiet_nil ?_
    intro w' hw'
    have hbl := Ext.of hw'
    obtain ⟨hc, hf, hz⟩ := cif hbl
    (try simp only [World.size_alloc, World.size_setCell, World.size_drew, World.heap_drewN] at hz)
    clear hw'
    go_wp2
    ((try simp only [Exit.inBlock, Exit.then]); go_light; refine bodyPost_ret (by simp [results, Tryd.results47, go_sem, *, ↓IntWalk.iteOmega]; try rfl) rfl ?_)
    exact ⟨.none, _, _, rfl, rfl, by simp [RdT], by simp [InT], SubA.from _ _ _ _, HRD.out.next (by (repeat' (first | (with_reducible exact Below.refl _ _) | (with_reducible assumption) | (with_reducible refine Below.setCell ?_ ?_ _) | (with_reducible refine Below.alloc ?_ ?_ _) | (with_reducible refine Below.drew ?_) | (with_reducible refine below_drewN ?_ _) | (with_reducible refine below_next ?_ (by with_reducible assumption)) | omega | (dsimp only; omega) | (simp only [World.size_alloc, World.size_setCell, World.size_drew, World.heap_drewN]; omega)))), by (repeat' (first | (with_reducible exact Below.refl _ _) | (with_reducible assumption) | (with_reducible refine Below.setCell ?_ ?_ _) | (with_reducible refine Below.alloc ?_ ?_ _) | (with_reducible refine Below.drew ?_) | (with_reducible refine below_drewN ?_ _) | (with_reducible refine below_next ?_ (by with_reducible assumption)) | omega | (dsimp only; omega) | (simp only [World.size_alloc, World.size_setCell, World.size_drew, World.heap_drewN]; omega)))⟩)
set_option maxRecDepth 100000 in
set_option maxHeartbeats 2000000 in
theorem type_end (k : Int) (hk : 11 ≤ k ∧ k ≤ 14) (h : RdL intC 1 w (.slice A m c) [k]) : Calls Tryd.prog 47 #[.slice A m c, .int .i64 D] w (MakeP A (.none, []) w) := by
  obtain ⟨l, hl⟩ : ∃ l : List Int, l = [] := ⟨_, rfl⟩
  rw [← hl] at h ⊢
  obtain ⟨hk1, hk2⟩ := hk
  have hgt : decide (0 < l.length) = false := by rw [hl]; rfl
  have HL := Lib.hid hl
  clear hl
  obtain ⟨b, off, rfl, rfl, hmc, hcm, hb, hcell, hsl, hrd⟩ := first_at h
  have HRD := Lib.hid hrd
  clear h hrd
  have bl := HRD.out.len
  unfold maxLen at bl
  obtain ⟨hD1, hD2⟩ := hD
  have hne0 : ((l.length : Int) + 1 == 0) = false := by rw [beq_eq_false_iff_ne]; omega
  have hd60 : decide (60 < D) = false := by simpa using hD2
  have hA1 := cell_alloc_if
  have hA2 := frozen_alloc_if
  have hA3 := cell_set_if
  go_enter Tryd.func47, Tryd.ntmps47
  go_wp2
  refine wp_region_ext (by kernel_rfl) (by kernel_rfl) ?_
  repeat (first | go_big_quiet_skip | (go_big_quiet_want; go_big_quiet_op; first | go_big_quiet_on | (apply Exists.intro; refine ⟨fun W hW => ?_, ?_⟩; (focus (first
    | fail
    | exact rfl | (obtain ⟨hcW, hfW, hzW⟩ := cif (Ext.of hW); (try simp only [World.size_alloc, World.size_setCell, World.size_drew, World.heap_drewN] at hzW); simp [go_sem, *, ↓IntWalk.iteOmega]; (try exact rfl)))); go_big_quiet_on)))
  refine wpQuiet_nil ?_
  intro w' hw'
  have hbl := Ext.of hw'
  obtain ⟨hc, hf, hz⟩ := cif hbl
  (try simp only [World.size_alloc, World.size_setCell, World.size_drew, World.heap_drewN] at hz)
  clear hw'
  go_wp2
  ((try simp only [Exit.inBlock, Exit.then]); go_light; refine bodyPost_ret (by simp [results, Tryd.results47, go_sem, *, ↓IntWalk.iteOmega]; try rfl) rfl ?_)
  obtain rfl := HL.out
  exact ⟨.none, _, _, rfl, rfl, by simp [RdT], by simp [InT], SubA.from _ _ _ _, HRD.out.next (by (repeat' (first | (with_reducible exact Below.refl _ _) | (with_reducible assumption) | (with_reducible refine Below.setCell ?_ ?_ _) | (with_reducible refine Below.alloc ?_ ?_ _) | (with_reducible refine Below.drew ?_) | (with_reducible refine below_drewN ?_ _) | (with_reducible refine below_next ?_ (by with_reducible assumption)) | omega | (dsimp only; omega) | (simp only [World.size_alloc, World.size_setCell, World.size_drew, World.heap_drewN]; omega)))), by (repeat' (first | (with_reducible exact Below.refl _ _) | (with_reducible assumption) | (with_reducible refine Below.setCell ?_ ?_ _) | (with_reducible refine Below.alloc ?_ ?_ _) | (with_reducible refine Below.drew ?_) | (with_reducible refine below_drewN ?_ _) | (with_reducible refine below_next ?_ (by with_reducible assumption)) | omega | (dsimp only; omega) | (simp only [World.size_alloc, World.size_setCell, World.size_drew, World.heap_drewN]; omega)))⟩
set_option maxRecDepth 100000 in
set_option maxHeartbeats 2000000 in
theorem type_10 (hl : ∀ x ∈ l, I64 x) (h : RdL intC 1 w (.slice A m c) (10 :: l)) (ih : MakeD (D + 1) n) : Calls Tryd.prog 47 #[.slice A m c, .int .i64 D] w (MakeP A (.ptr (mkE n l).1, (mkE n l).2) w) := by
  unfold MakeD at ih
  have HM := Lib.hid ih
  have HL := Lib.hid hl
  clear ih hl
  obtain ⟨b0, off0, hA0, _, _, _, hb0, _⟩ := first_at h
  have HAB : Hid (∀ a, fromA A c 1 1 = some a → a.block < w.heap.size) := Lib.hid fun a ha => by
    obtain ⟨a2, h2, e⟩ := SubA.from _ _ _ _ a ha
    rw [hA0] at h2; injection h2 with h2; subst h2
    rw [e]; exact hb0
  clear hA0 hb0
  obtain ⟨b, off, rfl, rfl, hmc, hcm, hb, hcell, hsl, hrd⟩ := first_at h
  have HRD := Lib.hid hrd
  clear h hrd
  have bl := HRD.out.len
  unfold maxLen at bl
  obtain ⟨hD1, hD2⟩ := hD
  have hne0 : ((l.length : Int) + 1 == 0) = false := by rw [beq_eq_false_iff_ne]; omega
  have hd60 : decide (60 < D) = false := by simpa using hD2
  have hA1 := cell_alloc_if
  have hA2 := frozen_alloc_if
  have hA3 := cell_set_if
  go_enter Tryd.func47, Tryd.ntmps47
  go_wp2
  refine wp_region_ext (by kernel_rfl) (by kernel_rfl) ?_
  repeat (first | go_big_quiet_skip | (go_big_quiet_want; go_big_quiet_op; first | go_big_quiet_on | (apply Exists.intro; refine ⟨fun W hW => ?_, ?_⟩; (focus (first
    | fail
    | exact rfl | (obtain ⟨hcW, hfW, hzW⟩ := cif (Ext.of hW); (try simp only [World.size_alloc, World.size_setCell, World.size_drew, World.heap_drewN] at hzW); simp [go_sem, *, ↓IntWalk.iteOmega]; (try exact rfl)))); go_big_quiet_on)))
  refine wpQuiet_nil ?_
  intro w' hw'
  have hbl := Ext.of hw'
  obtain ⟨hc, hf, hz⟩ := cif hbl
  (try simp only [World.size_alloc, World.size_setCell, World.size_drew, World.heap_drewN] at hz)
  clear hw'
  go_wp2_with (first
    | (go_at_call 47; (with_reducible refine (HM.out l _ _ _ _ HL.out (fun a ha => Nat.lt_of_lt_of_le (HAB.out a ha) (by first | omega | (simp only [World.size_alloc, World.size_setCell, World.size_drew, World.heap_drewN]; omega))) (HRD.out.next (by (repeat' (first | (with_reducible exact Below.refl _ _) | (with_reducible assumption) | (with_reducible refine Below.setCell ?_ ?_ _) | (with_reducible refine Below.alloc ?_ ?_ _) | (with_reducible refine Below.drew ?_) | (with_reducible refine below_drewN ?_ _) | (with_reducible refine below_next ?_ (by with_reducible assumption)) | omega | (dsimp only; omega) | (simp only [World.size_alloc, World.size_setCell, World.size_drew, World.heap_drewN]; omega)))))).mono ?_); rintro e w3 ⟨t, A3, c3, rfl, ht, hr3, hi3, hs3, hrd3, hb3⟩
       obtain ⟨k1, s1, l1, f1, n1, A1, m1, c1, e1⟩ := tyC_form t hr3
       rw [tyV_of e1]
       obtain ⟨hc3, hf3, hz3⟩ := cif hb3; (try simp only [World.size_alloc, World.size_setCell, World.size_drew, World.heap_drewN] at hz3)
       have R3 := Lib.hid hr3; have I3 := Lib.hid hi3; have D3 := Lib.hid hrd3; have E1 := Lib.hid e1; have T3 := Lib.hid ht; have S3 := Lib.hid hs3; clear hr3 hi3 hrd3 e1 ht hs3)
    | (go_at_call 45; (with_reducible refine (pointerTy_any _ _ _ _ _ _ _ _ t _ (R3.out.next (by (repeat' (first | (with_reducible exact Below.refl _ _) | (with_reducible assumption) | (with_reducible refine Below.setCell ?_ ?_ _) | (with_reducible refine Below.alloc ?_ ?_ _) | (with_reducible refine Below.drew ?_) | (with_reducible refine below_drewN ?_ _) | (with_reducible refine below_next ?_ (by with_reducible assumption)) | omega | (dsimp only; omega) | (simp only [World.size_alloc, World.size_setCell, World.size_drew, World.heap_drewN]; omega))))) E1.out).mono ?_); rintro e w4 ⟨t4, ⟨sv4, rfl, hs4⟩, rfl, hr4, hb4⟩
       obtain ⟨k4, s4, l4, f4, n4, A4, m4, c4, e4⟩ := tyC_form _ hr4
       rw [tyV_of e4]
       obtain ⟨hc4, hf4, hz4⟩ := cif hb4; (try simp only [World.size_alloc, World.size_setCell, World.size_drew, World.heap_drewN] at hz4)
       have R4 := Lib.hid hr4; have S4 := Lib.hid hs4; have E4 := Lib.hid e4; clear hr4 hs4 e4))
  ((try simp only [Exit.inBlock, Exit.then]); go_light; refine bodyPost_ret (by simp [results, Tryd.results47, go_sem, *, ↓IntWalk.iteOmega]; try rfl) rfl ?_)
  rw [← tyV_of E4.out]
  have hlow : Below w.heap.size w w3 := by (repeat' (first | (with_reducible exact Below.refl _ _) | (with_reducible assumption) | (with_reducible refine Below.setCell ?_ ?_ _) | (with_reducible refine Below.alloc ?_ ?_ _) | (with_reducible refine Below.drew ?_) | (with_reducible refine below_drewN ?_ _) | (with_reducible refine below_next ?_ (by with_reducible assumption)) | omega | (dsimp only; omega) | (simp only [World.size_alloc, World.size_setCell, World.size_drew, World.heap_drewN]; omega)))
  have hsub := S3.out.trans (SubA.from _ _ _ _)
  have hin : InT (fun b => w.heap.size + 1 ≤ b) (.ptr sv4 t) := by
    simp only [InT]
    exact ⟨fun b hb => by have h4 := S4.out b hb; simp only [World.size_alloc] at h4; omega, InT.mono (fun b hb => by (try simp only [World.size_alloc] at hb); omega) t I3.out⟩
  refine ⟨.ptr sv4 t, A3, c3, rfl, by simp [er, T3.out], R4.out.keepS (S := fun b => w.heap.size + 1 ≤ b) (fun b hb hlt => ?_) _ hin, InT.mono (fun b hb => by omega) _ hin, hsub, (rdl_back D3.out hlow (hsub.lt rfl hb)).next (by (repeat' (first | (with_reducible exact Below.refl _ _) | (with_reducible assumption) | (with_reducible refine Below.setCell ?_ ?_ _) | (with_reducible refine Below.alloc ?_ ?_ _) | (with_reducible refine Below.drew ?_) | (with_reducible refine below_drewN ?_ _) | (with_reducible refine below_next ?_ (by with_reducible assumption)) | omega | (dsimp only; omega) | (simp only [World.size_alloc, World.size_setCell, World.size_drew, World.heap_drewN]; omega)))), by (repeat' (first | (with_reducible exact Below.refl _ _) | (with_reducible assumption) | (with_reducible refine Below.setCell ?_ ?_ _) | (with_reducible refine Below.alloc ?_ ?_ _) | (with_reducible refine Below.drew ?_) | (with_reducible refine below_drewN ?_ _) | (with_reducible refine below_next ?_ (by with_reducible assumption)) | omega | (dsimp only; omega) | (simp only [World.size_alloc, World.size_setCell, World.size_drew, World.heap_drewN]; omega)))⟩
  simp only [World.setCell, Array.getElem?_modify]
  repeat rw [if_neg (by omega)]
set_option maxRecDepth 100000 in
set_option maxHeartbeats 4000000 in
theorem type_made (k c' : Int) (hk : 11 ≤ k ∧ k ≤ 14) (hc' : I64 c') (hl : ∀ x ∈ l, I64 x) (h : RdL intC 1 w (.slice A m c) (k :: c' :: l)) (ih : MadeD D n) : Calls Tryd.prog 47 #[.slice A m c, .int .i64 D] w (MakeP A (mkE (n + 1) (k :: c' :: l)) w) := by
  unfold MadeD at ih
  obtain ⟨b, off, rfl, rfl, hmc, hcm, hb, hcell, hsl, hrd⟩ := first_at h
  obtain ⟨b2, off2, hA2, hm2, hmc2, hcm2, hb2, hcell2, hsl2, hrd2⟩ := first_at hrd
  have hsub := SubA.from (some ⟨b, off, none⟩) c 1 1
  rw [hA2] at hsl hsl2 hrd2 hsub
  have HS1 := Lib.hid hsub
  have HM := Lib.hid (fun A m c W => ih k c' l A m c W hk hc' hl)
  have HAB : Hid (∀ a, fromA (some ⟨b2, off2, none⟩) (c - 1) 1 1 = some a → a.block < w.heap.size) := Lib.hid fun a ha => by
    obtain ⟨a2, h2, e⟩ := SubA.from _ _ _ _ a ha
    injection h2 with h2; subst h2
    rw [e]; exact hb2
  have HRD := Lib.hid hrd2
  have bl := HRD.out.len
  unfold maxLen at bl
  simp only [List.length_cons] at *
  clear h hrd hrd2 hA2 hm2 ih hl hc' hsub
  obtain ⟨hD1, hD2⟩ := hD
  obtain ⟨hk1, hk2⟩ := hk
  have hne0 : ((l.length : Int) + 1 + 1 == 0) = false := by rw [beq_eq_false_iff_ne]; omega
  have hd60 : decide (60 < D) = false := by simpa using hD2
  have e0 : (k == 0) = false := by rw [beq_eq_false_iff_ne]; omega
  have e9 : (k == 9) = false := by rw [beq_eq_false_iff_ne]; omega
  have e10 : (k == 10) = false := by rw [beq_eq_false_iff_ne]; omega
  have g8 : decide (k ≤ 8) = false := by simp; omega
  have hA1 := cell_alloc_if
  have hA2 := frozen_alloc_if
  have hA3 := cell_set_if
  go_enter Tryd.func47, Tryd.ntmps47
  go_wp2
  refine wp_region_ext (by kernel_rfl) (by kernel_rfl) ?_
  repeat (first | go_big_quiet_skip | (go_big_quiet_want; go_big_quiet_op; first | go_big_quiet_on | (apply Exists.intro; refine ⟨fun W hW => ?_, ?_⟩; (focus (first
    | fail
    | exact rfl | (obtain ⟨hcW, hfW, hzW⟩ := cif (Ext.of hW); (try simp only [World.size_alloc, World.size_setCell, World.size_drew, World.heap_drewN] at hzW); simp [go_sem, *, ↓IntWalk.iteOmega]; (try exact rfl)))); go_big_quiet_on)))
  refine wpQuiet_nil ?_
  intro w' hw'
  have hbl := Ext.of hw'
  obtain ⟨hc, hf, hz⟩ := cif hbl
  (try simp only [World.size_alloc, World.size_setCell, World.size_drew, World.heap_drewN] at hz)
  clear hw'
  go_wp2
  have hcw : w'.cell? ⟨b2, off2, none⟩ = some (.int .i64 c') := by simp [*, ↓IntWalk.iteOmega]
  go_region_held3 (fun W => Ext w W ∧ W.cell? ⟨b2, off2, none⟩ = some (.int .i64 c'))
    (first | exact ⟨by unfold Ext at *; (repeat' (first | (with_reducible exact Below.refl _ _) | (with_reducible assumption) | (with_reducible refine Below.setCell ?_ ?_ _) | (with_reducible refine Below.alloc ?_ ?_ _) | (with_reducible refine Below.drew ?_) | (with_reducible refine below_drewN ?_ _) | (with_reducible refine below_next ?_ (by with_reducible assumption)) | omega | (dsimp only; omega) | (simp only [World.size_alloc, World.size_setCell, World.size_drew, World.heap_drewN]; omega))), by simp [*, ↓IntWalk.iteOmega]⟩)
    (first
    | (go_at_call 77; (with_reducible refine (HM.out _ _ _ _ (fun a ha => Nat.lt_of_lt_of_le (HAB.out a ha) (by first | omega | (simp only [World.size_alloc, World.size_setCell, World.size_drew, World.heap_drewN]; omega))) (HRD.out.next (by unfold Ext at *; (repeat' (first | (with_reducible exact Below.refl _ _) | (with_reducible assumption) | (with_reducible refine Below.setCell ?_ ?_ _) | (with_reducible refine Below.alloc ?_ ?_ _) | (with_reducible refine Below.drew ?_) | (with_reducible refine below_drewN ?_ _) | (with_reducible refine below_next ?_ (by with_reducible assumption)) | omega | (dsimp only; omega) | (simp only [World.size_alloc, World.size_setCell, World.size_drew, World.heap_drewN]; omega)))))).mono ?_); rintro e w3 ⟨t, A3, c3, rfl, ht, hr3, hi3, hs3, hrd3, hb3⟩
       obtain ⟨k1, s1, l1, f1, n1, A1, m1, c1, e1⟩ := tyC_form t hr3
       rw [tyV_of e1]
       obtain ⟨hc3, hf3, hz3⟩ := cif hb3; (try simp only [World.size_alloc, World.size_setCell, World.size_drew, World.heap_drewN] at hz3)
       have R3 := Lib.hid hr3; have I3 := Lib.hid hi3; have D3 := Lib.hid hrd3; have E1 := Lib.hid e1; have T3 := Lib.hid ht; have S3 := Lib.hid hs3; clear hr3 hi3 hrd3 e1 ht hs3))
  all_goals (
    go_wp2_with fail
    ((try simp only [Exit.inBlock, Exit.then]); go_light; refine bodyPost_ret (by simp [results, Tryd.results47, go_sem, *, ↓IntWalk.iteOmega]; try rfl) rfl ?_)
    rw [← tyV_of E1.out]
    have hlow : Below w.heap.size w w3 := by unfold Ext at *; (repeat' (first | (with_reducible exact Below.refl _ _) | (with_reducible assumption) | (with_reducible refine Below.setCell ?_ ?_ _) | (with_reducible refine Below.alloc ?_ ?_ _) | (with_reducible refine Below.drew ?_) | (with_reducible refine below_drewN ?_ _) | (with_reducible refine below_next ?_ (by with_reducible assumption)) | omega | (dsimp only; omega) | (simp only [World.size_alloc, World.size_setCell, World.size_drew, World.heap_drewN]; omega)))
    have hsub := S3.out.trans ((SubA.from _ _ _ _).trans HS1.out)
    have hin : InT (fun b => w.heap.size + 1 ≤ b) t := InT.mono (fun b hb => by (try simp only [World.size_alloc, World.size_setCell, World.size_drew, World.heap_drewN] at hb); omega) t I3.out
    refine ⟨t, A3, c3, rfl, T3.out, R3.out.keepS (S := fun b => w.heap.size + 1 ≤ b) (fun b hb hlt => ?_) _ hin, InT.mono (fun b hb => by omega) _ hin, hsub, (rdl_back D3.out hlow (hsub.lt rfl hb)).next (by unfold Ext at *; (repeat' (first | (with_reducible exact Below.refl _ _) | (with_reducible assumption) | (with_reducible refine Below.setCell ?_ ?_ _) | (with_reducible refine Below.alloc ?_ ?_ _) | (with_reducible refine Below.drew ?_) | (with_reducible refine below_drewN ?_ _) | (with_reducible refine below_next ?_ (by with_reducible assumption)) | omega | (dsimp only; omega) | (simp only [World.size_alloc, World.size_setCell, World.size_drew, World.heap_drewN]; omega)))), by unfold Ext at *; (repeat' (first | (with_reducible exact Below.refl _ _) | (with_reducible assumption) | (with_reducible refine Below.setCell ?_ ?_ _) | (with_reducible refine Below.alloc ?_ ?_ _) | (with_reducible refine Below.drew ?_) | (with_reducible refine below_drewN ?_ _) | (with_reducible refine below_next ?_ (by with_reducible assumption)) | omega | (dsimp only; omega) | (simp only [World.size_alloc, World.size_setCell, World.size_drew, World.heap_drewN]; omega)))⟩
    simp only [World.setCell, Array.getElem?_modify]
    repeat rw [if_neg (by omega)])
end
end Go.Proofs.YteeojgepgjndgaaDoor
