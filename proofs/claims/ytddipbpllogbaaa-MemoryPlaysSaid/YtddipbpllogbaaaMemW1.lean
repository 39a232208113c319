/-
  The program's memory: New, Size, Free, Fix, find.
-/
import Derived.Test.YtddipbpllogbaaaMemDefs
import Derived.Test.YtddipbpllogbaaaMachW1
import Derived.Test.YtddipbpllogbaaaRegion
import Derived.LoopTactic
import Derived.Deep.LoopGhost
import Derived.Deep.QuietTactic
import Derived.BigQuiet
import Derived.StillTailTactics
import Derived.Laws.OwnMore
import Derived.OwnWalk
import Derived.RegionTactic
namespace Go.Proofs.Ytddipbpllogbaaa
open Go.RowKit
set_option linter.unusedVariables false
set_option linter.unusedSimpArgs false

theorem i64wf {k : Int} (h : I64 k) : (Lit.int .i64 k).wf = true := by
  have e1 : IntKind.i64.min = -9223372036854775808 := by decide
  have e2 : IntKind.i64.max = 9223372036854775807 := by decide
  obtain ⟨h1, h2⟩ := h
  simp [Lit.wf, e1, e2, h1, h2]
set_option maxHeartbeats 400000 in
theorem size_any (c : Int) (w : World) : Calls Try.prog 24 #[.int .i64 c] w fun e w' => e = .returned (.int .i64 (sizeV c)) ∧ w = w' := by
  go_enter Try.func24, Try.ntmps24
  go_wp2
  all_goals (go_returns; refine ⟨?_, rfl⟩; go_light; simp; grind [sizeV])
set_option maxHeartbeats 400000 in
theorem kind_any (c : Int) (w : World) : Calls Try.prog 26 #[.int .i64 c] w fun e w' => e = .returned (.int .i64 (kindV c)) ∧ w = w' := by
  go_enter Try.func26, Try.ntmps26
  go_wp2
  all_goals (go_returns; refine ⟨?_, rfl⟩; go_light; simp; grind [kindV])

theorem zptr : ∀ w : World, (zeroValue 59).run Try.prog w = .ok (.pointer none) w := fun w => by kernel_rfl
theorem zval : ∀ w : World, (zeroValue 32).run Try.prog w = .ok (.agg #[.int .i64 0, .int .u64 0, .int .i64 0]) w := fun w => by kernel_rfl

section
variable {w : World} {base pm bm nb last cap : Nat} {M : Int → Option Bk}
theorem MemS.lookOk (h : MemS w base pm bm nb last cap M) (k : Int) (hk : I64 k) :
    (Instr.lookup 56 (.map (some bm)) (.int .i64 k) true).run Try.prog w = .ok (.tuple #[valO ptrVal (.pointer none) ((M k).map (·.b)), .bool (M k).isSome]) w := by
  have h1 := MapF.look_ok ptrE Try.underlying3 Try.underlying56 zptr h.blocks k (i64wf hk)
  rw [h1]
  cases M k <;> rfl
theorem MemS.look (h : MemS w base pm bm nb last cap M) (k : Int) (hk : I64 k) :
    (Instr.lookup 56 (.map (some bm)) (.int .i64 k) false).run Try.prog w = .ok (valO ptrVal (.pointer none) ((M k).map (·.b))) w :=
  MapF.look ptrE Try.underlying3 Try.underlying56 zptr h.blocks k (i64wf hk)
end

/-- New: no block, no number. -/
theorem new_any (w : World) (base : Nat) (hb : base ≤ w.heap.size) : Calls Try.prog 8 #[] w fun e w' => ∃ pm bm, e = .returned (.pointer (some ⟨pm, 0, none⟩)) ∧ MemS w' base pm bm 0 0 0 (fun _ => none) ∧ Below w.heap.size w w' := by
  have hmm := @run_makeMap Try.prog
  go_enter Try.func8, Try.ntmps8
  go_wp2
  go_returns
  refine ⟨w.heap.size + 1, w.heap.size, rfl, ?_, by (repeat' (first | (with_reducible exact Below.refl _ _) | (with_reducible assumption) | (with_reducible refine Below.setCell ?_ ?_ _) | (with_reducible refine Below.alloc ?_ ?_ _) | (with_reducible refine Below.drew ?_) | (with_reducible refine below_drewN ?_ _) | (with_reducible refine below_next ?_ (by with_reducible assumption)) | omega | (dsimp only; omega) | (simp only [World.size_alloc, World.size_setCell, World.size_drew, World.heap_drewN]; omega)))⟩
  have e : (w.alloc (.map #[] 0)).heap.size = w.heap.size + 1 := by simp
  have hm : MapF Try.prog 3 ptrR ptrD (w.alloc (.map #[] 0)) w.heap.size 0 (fun _ => none) := MapF.made w
  exact {
    top := by rw [← e]; exact heap_alloc_new _ _
    blocks := by
      refine (hm.next ((Below.refl _ _).alloc (Nat.le_refl _) _) : MapF Try.prog 3 ptrR ptrD _ w.heap.size 0 (fun _ => none))
    lo := ⟨by omega, hb⟩
    nbc := ⟨by omega, by omega, by omega⟩
    keys := fun k B e => by cases e
    at_ := fun k B e => by cases e
    apart := fun k j B C e => by cases e }

set_option maxHeartbeats 1000000 in
theorem memsize_any {w : World} {base pm bm nb last cap : Nat} {M : Int → Option Bk} (h : MemS w base pm bm nb last cap M) (k : Int) (hk : I64 k) :
    Calls Try.prog 21 #[.pointer (some ⟨pm, 0, none⟩), .int .i64 k] w fun e w' => e = .returned (.tuple #[.int .i64 (match M k with | some B => (B.cells.length : Int) | none => 0), .bool (M k).isSome]) ∧ w' = w := by
  have t0 : w.cell? ⟨pm, 0, none⟩ = some (.map (some bm)) := by rw [Lib.cell_of_heap h.top]; rfl
  have hrun := h.lookOk k hk
  cases hM : M k with
  | none =>
    rw [hM] at hrun
    simp only [Option.map_none, valO, Option.isSome_none] at hrun
    clear hM h
    go_enter Try.func21, Try.ntmps21
    go_wp2
    go_returns
    exact ⟨rfl, rfl⟩
  | some B =>
    have hB := h.at_ k B hM
    rw [hM] at hrun
    simp only [Option.map_some, valO, Option.isSome_some, ptrVal] at hrun
    have b0 : w.cell? ⟨B.b, 0, none⟩ = some (.slice (some ⟨B.g, 0, none⟩) B.cells.length B.cells.length) := by rw [Lib.cell_of_heap hB.own]; rfl
    clear hM h hB
    go_enter Try.func21, Try.ntmps21
    go_wp2
    go_returns
    exact ⟨rfl, rfl⟩

theorem heap_set_at {w : World} {b : Nat} {c : Array Value} {t : TypeId} {fr : Nat × Nat} (h : w.heap[b]? = some (.cells c t fr)) (o : Nat) (v : Value) : (w.setCell ⟨b, o, none⟩ v).heap[b]? = some (.cells (c.setIfInBounds o v) t fr) := by
  simp only [World.setCell, Array.getElem?_modify, if_true]
  rw [h]
  simp [Array.setIfInBounds]
  try (split <;> simp_all)
theorem heap_set_ne (w : World) {b i : Nat} (o : Nat) (v : Value) (h : i ≠ b) : (w.setCell ⟨b, o, none⟩ v).heap[i]? = w.heap[i]? := Below.heap_setCell w _ v i h

section
variable {w w' : World} {base pm bm nb last cap : Nat} {M : Int → Option Bk}
/-- One block of the memory turned. -/
theorem MemS.upd' (h : MemS w base pm bm nb last cap M) {k : Int} {B : Bk} (hk : M k = some B) (B' : Bk) (e : B'.b = B.b ∧ B'.g = B.g ∧ B'.pb = B.pb) (hat : BkAt w' B') (hne : ∀ i, i ≠ B.b → i ≠ B.g → i ≠ B.pb → i < w.heap.size → w'.heap[i]? = w.heap[i]?)
    {c : Nat} (hl : B'.cells.length ≤ 16777216 ∧ ∀ x ∈ B'.cells, 0 ≤ x ∧ x < 65536) (hc : B'.np ≤ c ∧ cap ≤ c ∧ c < 9223372036854775807) : MemS w' base pm bm nb last c (setK M k (some B')) where
  top := (hne pm (h.b_ne_pm hk).symm (h.g_ne_pm hk).symm (by obtain ⟨es, cl, ho⟩ := (h.at_ k B hk).ptrs.obj; exact (map_ne ho h.top).symm) (lt_of_block h.top)).trans h.top
  blocks := by
    have e1 : (fun j => (setK M k (some B') j).map (·.b)) = fun j => (M j).map (·.b) := by
      funext j
      unfold setK
      split
      · rename_i hj; rw [hj, hk]; simp [e.1]
      · rfl
    rw [e1]
    obtain ⟨es, cl, ho⟩ := h.blocks.obj
    exact h.blocks.block (hne bm (map_ne ho (h.at_ k B hk).own) (map_ne ho (h.at_ k B hk).row) (h.keys k B hk).2.2.2.2.2.1.symm (lt_of_block ho))
  lo := h.lo
  nbc := ⟨by have := h.nbc; omega, by have := h.nbc; omega, hc.2.2⟩
  keys j C hj := by
    unfold setK at hj
    split at hj
    · rename_i hjk
      injection hj with hj
      subst hj
      obtain ⟨a1, a2, a3, a4, a5, a6, a7, a8, a9⟩ := h.keys k B hk
      rw [e.1, e.2.1, e.2.2, hjk]
      exact ⟨a1, a2, a3, a4, a5, a6, hl.1, hc.1, hl.2⟩
    · obtain ⟨a1, a2, a3, a4, a5, a6, a7, a8, a9⟩ := h.keys j C hj
      exact ⟨a1, a2, a3, a4, a5, a6, a7, by omega, a9⟩
  at_ j C hj := by
    unfold setK at hj
    split at hj
    · injection hj with hj
      subst hj
      exact hat
    · rename_i hjk
      obtain ⟨n1, n2, n3⟩ := h.apart j k C B hj hk hjk
      have hC := h.at_ j C hj
      have hB := h.at_ k B hk
      obtain ⟨es, cl, ho⟩ := hC.ptrs.obj
      obtain ⟨es', cl', ho'⟩ := hB.ptrs.obj
      refine hC.block fun i hi => hne i ?_ ?_ ?_ (by have := hC.lt; rcases hi with rfl | rfl | rfl <;> omega)
      · rcases hi with rfl | rfl | rfl
        · exact n1
        · exact (h.b_ne_g hk hj).symm
        · exact map_ne ho hB.own
      · rcases hi with rfl | rfl | rfl
        · exact h.b_ne_g hj hk
        · exact n2
        · exact map_ne ho hB.row
      · rcases hi with rfl | rfl | rfl
        · exact (map_ne ho' hC.own).symm
        · exact (map_ne ho' hC.row).symm
        · exact n3
  apart i j C D hi hj hij := by
    unfold setK at hi hj
    split at hi
    · rename_i h1
      injection hi with hi
      subst hi
      split at hj
      · rename_i h2; omega
      · rename_i h2
        rw [e.1, e.2.1, e.2.2]
        exact h.apart k j B D hk hj (by omega)
    · rename_i h1
      split at hj
      · rename_i h2
        injection hj with hj
        subst hj
        rw [e.1, e.2.1, e.2.2]
        exact h.apart i k C B hi hk (by omega)
      · exact h.apart i j C D hi hj hij

theorem MemS.upd (h : MemS w base pm bm nb last cap M) {k : Int} {B : Bk} (hk : M k = some B) (B' : Bk) (e : B'.b = B.b ∧ B'.g = B.g ∧ B'.pb = B.pb) (hat : BkAt w' B') (hne : ∀ i, i ≠ B.b → i ≠ B.g → i ≠ B.pb → w'.heap[i]? = w.heap[i]?)
    {c : Nat} (hl : B'.cells.length ≤ 16777216 ∧ ∀ x ∈ B'.cells, 0 ≤ x ∧ x < 65536) (hc : B'.np ≤ c ∧ cap ≤ c ∧ c < 9223372036854775807) : MemS w' base pm bm nb last c (setK M k (some B')) :=
  h.upd' hk B' e hat (fun i h1 h2 h3 _ => hne i h1 h2 h3) hl hc

theorem KeptT.of_ne (hs : w.heap.size ≤ w'.heap.size) (h : MemS w base pm bm nb last cap M) {k : Int} {B : Bk} (hk : M k = some B) (hne : ∀ i, i ≠ B.b → i ≠ B.g → i ≠ B.pb → i < w.heap.size → w'.heap[i]? = w.heap[i]?) : KeptT w w' :=
  ⟨hs, fun i c t fr hi t1 t2 t3 => by
    have hB := h.at_ k B hk
    obtain ⟨es', cl', ho'⟩ := hB.ptrs.obj
    refine hne i (fun e => ?_) (fun e => ?_) (map_ne ho' hi).symm (lt_of_block hi)
    · rw [e, hB.own] at hi
      simp only [Option.some.injEq, Obj.cells.injEq] at hi
      exact t2 hi.2.1.symm
    · rw [e, hB.row] at hi
      simp only [Option.some.injEq, Obj.cells.injEq] at hi
      exact t3 hi.2.1.symm⟩
end

/-- What is none of the memory's own blocks stays. -/
def Foot (w w' : World) (pm bm : Nat) (M : Int → Option Bk) : Prop :=
  ∀ i, i < w.heap.size → i ≠ pm → i ≠ bm → (∀ k B, M k = some B → i ≠ B.b ∧ i ≠ B.g ∧ i ≠ B.pb) → w'.heap[i]? = w.heap[i]?
theorem Foot.of_below {w w' : World} {pm bm : Nat} {M : Int → Option Bk} (h : Below w.heap.size w w') : Foot w w' pm bm M := fun i hi _ _ _ => h.block i hi
theorem Foot.after {w wT w' : World} {pm bm : Nat} {M : Int → Option Bk} (h : Foot wT w' pm bm M) (hb : Below w.heap.size w wT) : Foot w w' pm bm M := fun i hi h1 h2 h3 => (h i (Nat.lt_of_lt_of_le hi hb.size) h1 h2 h3).trans (hb.block i hi)
theorem Foot.of_ne {w w' : World} {pm bm : Nat} {M : Int → Option Bk} {k : Int} {B' : Bk} (hne : ∀ i, i ≠ B'.b → i ≠ B'.g → i ≠ B'.pb → i < w.heap.size → w'.heap[i]? = w.heap[i]?) : Foot w w' pm bm (setK M k (some B')) := fun i hi _ _ h3 => by
  obtain ⟨h4, h5, h6⟩ := h3 k B' (by simp [setK])
  exact hne i h4 h5 h6 hi

/-- What a call that turns the memory leaves. -/
structure Left (w w' : World) (base pm bm nb last cap : Nat) (M : Int → Option Bk) : Prop where
  mem : MemS w' base pm bm nb last cap M
  low : Below base w w'
  kept : KeptT w w'
  foot : Foot w w' pm bm M

set_option maxHeartbeats 1000000 in
theorem fix_any {w : World} {base pm bm nb last cap : Nat} {M : Int → Option Bk} (h : MemS w base pm bm nb last cap M) (k : Int) (hk : I64 k) :
    Calls Try.prog 13 #[.pointer (some ⟨pm, 0, none⟩), .int .i64 k] w fun e w' => e = .returned (.bool (M k).isSome) ∧ Left w w' base pm bm nb last cap (match M k with | some B => setK M k (some { B with fixed := true }) | none => M) := by
  have t0 : w.cell? ⟨pm, 0, none⟩ = some (.map (some bm)) := by rw [Lib.cell_of_heap h.top]; rfl
  have hrun := h.lookOk k hk
  cases hM : M k with
  | none =>
    rw [hM] at hrun
    simp only [Option.map_none, valO, Option.isSome_none] at hrun
    have H := Lib.hid h
    clear hM h
    go_enter Try.func13, Try.ntmps13
    go_wp2
    go_returns
    exact ⟨rfl, H.out, Below.refl _ _, KeptT.refl _, Foot.of_below (Below.refl _ _)⟩
  | some B =>
    have hB := h.at_ k B hM
    rw [hM] at hrun
    simp only [Option.map_some, valO, Option.isSome_some, ptrVal] at hrun
    have b0 : w.cell? ⟨B.b, 2, none⟩ = some (.bool B.fixed) := by rw [Lib.cell_of_heap hB.own]; rfl
    have f0 : w.frozen? ⟨B.b, 2, none⟩ = false := Lib.frozen_of_heap hB.own 2
    have H := Lib.hid h
    have HM := Lib.hid hM
    have HB := Lib.hid hB
    clear hM h hB
    go_enter Try.func13, Try.ntmps13
    go_wp2
    go_returns
    have h := H.out
    have hB := HB.out
    obtain ⟨a1, a2, a3, a4, a5, a6, a7, a8, a9⟩ := h.keys k B HM.out
    obtain ⟨es', cl', ho'⟩ := hB.ptrs.obj
    have hne : ∀ i, i ≠ B.b → i ≠ B.g → i ≠ B.pb → (w.setCell ⟨B.b, 2, none⟩ (.bool true)).heap[i]? = w.heap[i]? := fun i h1 _ _ => heap_set_ne _ _ _ h1
    refine ⟨rfl, h.upd HM.out { B with fixed := true } ⟨rfl, rfl, rfl⟩ ⟨?_, ?_, ?_⟩ hne ⟨a7, a9⟩ ⟨a8, Nat.le_refl _, h.nbc.2.2⟩, (Below.refl _ _).setCell a3 _, KeptT.of_ne (by simp) h HM.out fun i h1 h2 h3 _ => hne i h1 h2 h3, Foot.of_ne (B' := { B with fixed := true }) fun i h1 h2 h3 _ => hne i h1 h2 h3⟩
    · rw [heap_set_at hB.own]; rfl
    · exact (heap_set_ne _ _ _ (h.b_ne_g HM.out HM.out).symm).trans hB.row
    · exact hB.ptrs.block (heap_set_ne _ _ _ (map_ne ho' hB.own))

set_option maxHeartbeats 1000000 in
theorem free_any {w : World} {base pm bm nb last cap : Nat} {M : Int → Option Bk} (h : MemS w base pm bm nb last cap M) (k : Int) (hk : I64 k) :
    Calls Try.prog 11 #[.pointer (some ⟨pm, 0, none⟩), .int .i64 k] w fun e w' => e = .returned (.bool (M k).isSome) ∧ Left w w' base pm bm nb last cap (setK M k none) := by
  have t0 : w.cell? ⟨pm, 0, none⟩ = some (.map (some bm)) := by rw [Lib.cell_of_heap h.top]; rfl
  have hrun := h.lookOk k hk
  have H := Lib.hid h
  clear h
  go_enter Try.func11, Try.ntmps11
  go_wp2_with (at_delete; refine wpList_del rfl (.tmp 19) (.tmp 20) 56 rfl 59 Try.underlying3 Try.underlying56 H.out.blocks k (i64wf hk) rfl rfl ?_; intro w1 hf1 hg1)
  go_returns
  have h := H.out
  have hlt := h.blocks.lt
  obtain ⟨es, cl, ho⟩ := h.blocks.obj
  have hne : ∀ i, i ≠ bm → i < w.heap.size → w1.heap[i]? = w.heap[i]? := fun i h1 h2 => hg1.block i h2 (by simpa using h1)
  refine ⟨rfl, { top := ?_, blocks := ?_, lo := h.lo, nbc := h.nbc, keys := ?_, at_ := ?_, apart := ?_ }, (Below.refl _ _).grown hg1 (by have := h.lo; omega) (fun j hj => by injection hj with hj; have := h.lo; omega), ⟨hg1.size, fun i c t fr hi _ _ _ => hne i (map_ne ho hi).symm (lt_of_block hi)⟩, fun i hi _ h2 _ => hne i h2 hi⟩
  · exact (hne pm (map_ne ho h.top).symm (lt_of_block h.top)).trans h.top
  · have e1 : (fun j => (setK M k none j).map (·.b)) = setK (fun j => (M j).map (·.b)) k none := by
      funext j; unfold setK; split <;> rfl
    rw [e1]; exact hf1
  · intro j C hj
    unfold setK at hj
    split at hj
    · cases hj
    · exact h.keys j C hj
  · intro j C hj
    unfold setK at hj
    split at hj
    · cases hj
    · have hC := h.at_ j C hj
      refine hC.block fun i hi => ?_
      rcases hi with rfl | rfl | rfl
      · exact hne _ (map_ne ho hC.own).symm hC.lt.1
      · exact hne _ (map_ne ho hC.row).symm hC.lt.2.1
      · exact hne _ (h.keys j C hj).2.2.2.2.2.1 hC.lt.2.2
  · intro i j C D hi hj hij
    unfold setK at hi hj
    split at hi
    · cases hi
    · split at hj
      · cases hj
      · exact h.apart i j C D hi hj hij

end Go.Proofs.Ytddipbpllogbaaa
