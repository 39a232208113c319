/-
  The reference's memory: Store.
-/
import Derived.Test.YtddipbpllogbaaaRefW10
import Derived.Test.YtddipbpllogbaaaMemW4
import Derived.Deep.DeepCutAuto
namespace Go.Proofs.Ytddipbpllogbaaa
open Go.RowKit
set_option linter.unusedVariables false
set_option linter.unusedSimpArgs false

/-- The blocks behind a store; none, where it isn't done. -/
def storeRA (R : List RB) (chunk : Int) (a v : V) : Option (List RB) :=
  match reachA R chunk a with
  | none => none
  | some (B, off) => if B.fixed = false ∧ takesA chunk v.k = true then some (R.set (a.l - 1).toNat (putRN B off v (sizeV chunk).toNat)) else none
theorem reachA_some {R : List RB} {chunk : Int} {a : V} {B : RB} {off : Nat} (h : reachA R chunk a = some (B, off)) :
    a.k = 4 ∧ blkA R a.l = some B ∧ (sizeV chunk = 1 ∨ sizeV chunk = 2 ∨ sizeV chunk = 4 ∨ sizeV chunk = 8) ∧ wrap64 a.b = off ∧ (off : Int) % sizeV chunk = 0 ∧ (off : Int) + sizeV chunk ≤ B.kinds.length := by
  unfold reachA at h
  split at h
  · cases h
  · rename_i c
    split at h
    · cases h
    · rename_i C hC
      split at h
      · cases h
      · rename_i d
        simp only [Option.some.injEq, Prod.mk.injEq] at h
        obtain ⟨rfl, rfl⟩ := h
        have := sizeV_cases chunk
        refine ⟨by omega, hC, by omega, by omega, ?_, by omega⟩
        rw [Int.toNat_of_nonneg (by omega)]
        omega

set_option maxRecDepth 100000 in
set_option maxHeartbeats 4000000 in
theorem rstore_none {w : World} {base rm cap : Nat} {s : Value} {R : List RB} (h : RefS w base rm s cap R) (chunk k b l vk vb vl : Int) (hl : I64 l) (hf : reachA R chunk ⟨k, b, l⟩ = none) :
    Calls Try.prog 18 #[.pointer (some ⟨rm, 0, none⟩), .int .i64 chunk, .agg #[.int .i64 k, .int .u64 b, .int .i64 l], .agg #[.int .i64 vk, .int .u64 vb, .int .i64 vl]] w fun e w' => e = .returned (.bool false) ∧ Below w.heap.size w w' := by
  have HRC := Lib.hid (fun W (hb : Below w.heap.size w W) => reaches_any (h.next hb) chunk k b l hl)
  unfold reachV at HRC
  rw [hf] at HRC
  clear h hf
  have hA1 := cell_alloc_if
  have hA2 := frozen_alloc_if
  have hA3 := cell_set_if
  go_enter Try.func18, Try.ntmps18
  go_wp2_with (first
  | (go_at_call 34; (with_reducible refine (HRC.out _ (by (repeat' (first | (with_reducible exact Below.refl _ _) | (with_reducible assumption) | (with_reducible refine Below.setCell ?_ ?_ _) | (with_reducible refine Below.alloc ?_ ?_ _) | (with_reducible refine Below.drew ?_) | (with_reducible refine below_drewN ?_ _) | (with_reducible refine below_next ?_ (by with_reducible assumption)) | omega | (dsimp only; omega) | (simp only [World.size_alloc, World.size_setCell, World.size_drew, World.heap_drewN]; omega))))).mono ?_); rintro e wF ⟨rfl, hbF⟩; obtain ⟨hcF, hfF, hzF⟩ := cif hbF; (try simp only [World.size_alloc, World.size_setCell, World.size_drew, World.heap_drewN] at hzF))
  | (go_at_call 35; (with_reducible refine (HS.out _).mono ?_); rintro e w' ⟨rfl, rfl⟩))
  refine wp_region_ext (by kernel_rfl) (by kernel_rfl) ?_
  repeat (first | go_big_quiet_skip | (go_big_quiet_want; go_big_quiet_op; first | go_big_quiet_on | (apply Exists.intro; refine ⟨fun W hW => ?_, ?_⟩; (focus (first
    | (go_at_call 40; (with_reducible refine (HK.out _).mono ?_); rintro e w1 ⟨rfl, rfl⟩; exact ⟨rfl, hW⟩)
    | exact rfl | (obtain ⟨hcW, hfW, hzW⟩ := cif (Ext.of hW); (try simp only [World.size_alloc, World.size_setCell, World.size_drew, World.heap_drewN] at hzW); simp [go_sem, *, ↓IntWalk.iteOmega]; (try exact rfl)))); go_big_quiet_on)))
  refine wpQuiet_nil ?_
  intro w' hw'
  have hbl := Ext.of hw'
  obtain ⟨hc, hf, hz⟩ := cif hbl
  (try simp only [World.size_alloc, World.size_setCell, World.size_drew, World.heap_drewN] at hz)
  clear hw'
  go_wp2
  go_returns
  exact ⟨rfl, by (repeat' (first | (with_reducible exact Below.refl _ _) | (with_reducible assumption) | (with_reducible refine Below.setCell ?_ ?_ _) | (with_reducible refine Below.alloc ?_ ?_ _) | (with_reducible refine Below.drew ?_) | (with_reducible refine below_drewN ?_ _) | (with_reducible refine below_next ?_ (by with_reducible assumption)) | omega | (dsimp only; omega) | (simp only [World.size_alloc, World.size_setCell, World.size_drew, World.heap_drewN]; omega)))⟩
set_option maxRecDepth 100000 in
set_option maxHeartbeats 4000000 in
theorem rstore_fixed {w : World} {base rm cap : Nat} {s : Value} {R : List RB} (h : RefS w base rm s cap R) (chunk k b l vk vb vl : Int) (hl : I64 l) (B : RB) (off : Nat) (hf : reachA R chunk ⟨k, b, l⟩ = some (B, off)) (hfx : B.fixed = true) :
    Calls Try.prog 18 #[.pointer (some ⟨rm, 0, none⟩), .int .i64 chunk, .agg #[.int .i64 k, .int .u64 b, .int .i64 l], .agg #[.int .i64 vk, .int .u64 vb, .int .i64 vl]] w fun e w' => e = .returned (.bool false) ∧ Below w.heap.size w w' := by
  have HRC := Lib.hid (fun W (hb : Below w.heap.size w W) => reaches_any (h.next hb) chunk k b l hl)
  unfold reachV at HRC
  rw [hf] at HRC
  obtain ⟨hk4, hbl, hn, ho1, ho2, ho3⟩ := reachA_some hf
  dsimp only at hk4 hbl ho1
  subst hk4
  obtain ⟨j, hj, hB, hlv, hjl⟩ := blkA_some hbl
  obtain ⟨g, c, rfl, hg0, hg, hc, hff⟩ := h.read hB
  have t0 : w.cell? ⟨rm, 0, none⟩ = some (.slice (some ⟨g, 0, none⟩) R.length c) := by rw [Lib.cell_of_heap h.top]; rfl
  have hrm := lt_of_block h.top
  have r4 := (hc 4 (by omega)).trans B.cells4
  rw [hfx] at r4
  have hR := h.len
  have hw : wrap64 (l - 1) = (j : Int) := by unfold wrap64; obtain ⟨l1, l2⟩ := hl; omega
  clear h hf hbl hB hc hff hj ho1 ho2 ho3
  have hA1 := cell_alloc_if
  have hA2 := frozen_alloc_if
  have hA3 := cell_set_if
  go_enter Try.func18, Try.ntmps18
  go_wp2_with (first
  | (go_at_call 34; (with_reducible refine (HRC.out _ (by (repeat' (first | (with_reducible exact Below.refl _ _) | (with_reducible assumption) | (with_reducible refine Below.setCell ?_ ?_ _) | (with_reducible refine Below.alloc ?_ ?_ _) | (with_reducible refine Below.drew ?_) | (with_reducible refine below_drewN ?_ _) | (with_reducible refine below_next ?_ (by with_reducible assumption)) | omega | (dsimp only; omega) | (simp only [World.size_alloc, World.size_setCell, World.size_drew, World.heap_drewN]; omega))))).mono ?_); rintro e wF ⟨rfl, hbF⟩; obtain ⟨hcF, hfF, hzF⟩ := cif hbF; (try simp only [World.size_alloc, World.size_setCell, World.size_drew, World.heap_drewN] at hzF))
  | (go_at_call 35; (with_reducible refine (HS.out _).mono ?_); rintro e w' ⟨rfl, rfl⟩))
  refine wp_region_ext (by kernel_rfl) (by kernel_rfl) ?_
  repeat (first | go_big_quiet_skip | (go_big_quiet_want; go_big_quiet_op; first | go_big_quiet_on | (apply Exists.intro; refine ⟨fun W hW => ?_, ?_⟩; (focus (first
    | (go_at_call 40; (with_reducible refine (HK.out _).mono ?_); rintro e w1 ⟨rfl, rfl⟩; exact ⟨rfl, hW⟩)
    | exact rfl | (obtain ⟨hcW, hfW, hzW⟩ := cif (Ext.of hW); (try simp only [World.size_alloc, World.size_setCell, World.size_drew, World.heap_drewN] at hzW); simp [go_sem, *, ↓IntWalk.iteOmega]; (try exact rfl)))); go_big_quiet_on)))
  refine wpQuiet_nil ?_
  intro w' hw'
  have hbl := Ext.of hw'
  obtain ⟨hc, hf, hz⟩ := cif hbl
  (try simp only [World.size_alloc, World.size_setCell, World.size_drew, World.heap_drewN] at hz)
  clear hw'
  go_wp2
  go_returns
  exact ⟨rfl, by (repeat' (first | (with_reducible exact Below.refl _ _) | (with_reducible assumption) | (with_reducible refine Below.setCell ?_ ?_ _) | (with_reducible refine Below.alloc ?_ ?_ _) | (with_reducible refine Below.drew ?_) | (with_reducible refine below_drewN ?_ _) | (with_reducible refine below_next ?_ (by with_reducible assumption)) | omega | (dsimp only; omega) | (simp only [World.size_alloc, World.size_setCell, World.size_drew, World.heap_drewN]; omega)))⟩
set_option maxRecDepth 100000 in
set_option maxHeartbeats 4000000 in
theorem rstore_not {w : World} {base rm cap : Nat} {s : Value} {R : List RB} (h : RefS w base rm s cap R) (chunk k b l vk vb vl : Int) (hl : I64 l) (B : RB) (off : Nat) (hf : reachA R chunk ⟨k, b, l⟩ = some (B, off)) (hfx : B.fixed = false) (ht : takesA chunk vk = false) :
    Calls Try.prog 18 #[.pointer (some ⟨rm, 0, none⟩), .int .i64 chunk, .agg #[.int .i64 k, .int .u64 b, .int .i64 l], .agg #[.int .i64 vk, .int .u64 vb, .int .i64 vl]] w fun e w' => e = .returned (.bool false) ∧ Below w.heap.size w w' := by
  have HRC := Lib.hid (fun W (hb : Below w.heap.size w W) => reaches_any (h.next hb) chunk k b l hl)
  unfold reachV at HRC
  rw [hf] at HRC
  obtain ⟨hk4, hbl, hn, ho1, ho2, ho3⟩ := reachA_some hf
  dsimp only at hk4 hbl ho1
  subst hk4
  obtain ⟨j, hj, hB, hlv, hjl⟩ := blkA_some hbl
  obtain ⟨g, c, rfl, hg0, hg, hc, hff⟩ := h.read hB
  have t0 : w.cell? ⟨rm, 0, none⟩ = some (.slice (some ⟨g, 0, none⟩) R.length c) := by rw [Lib.cell_of_heap h.top]; rfl
  have hrm := lt_of_block h.top
  have r4 := (hc 4 (by omega)).trans B.cells4
  rw [hfx] at r4
  have hR := h.len
  have hw : wrap64 (l - 1) = (j : Int) := by unfold wrap64; obtain ⟨l1, l2⟩ := hl; omega
  have HK := Lib.hid (rkind_any chunk)
  have htk : ¬ (vk = 0 ∨ vk = kindV chunk ∨ (vk = 4 ∧ chunk = 6)) := by unfold takesA at ht; simpa using ht
  have d0 : (vk != 0) = true := by simp; omega
  have d1 : (vk != kindV chunk) = true := by simp; omega
  generalize kindV chunk = kv at *
  clear h hf hbl hB hc hff hj ho1 ho2 ho3
  by_cases c4 : vk = 4
  · have d4 : (vk != 4) = false := by simpa using c4
    have d6 : (chunk != 6) = true := by simp; omega
    clear htk ht c4
    have hA1 := cell_alloc_if
    have hA2 := frozen_alloc_if
    have hA3 := cell_set_if
    go_enter Try.func18, Try.ntmps18
    go_wp2_with (first
  | (go_at_call 34; (with_reducible refine (HRC.out _ (by (repeat' (first | (with_reducible exact Below.refl _ _) | (with_reducible assumption) | (with_reducible refine Below.setCell ?_ ?_ _) | (with_reducible refine Below.alloc ?_ ?_ _) | (with_reducible refine Below.drew ?_) | (with_reducible refine below_drewN ?_ _) | (with_reducible refine below_next ?_ (by with_reducible assumption)) | omega | (dsimp only; omega) | (simp only [World.size_alloc, World.size_setCell, World.size_drew, World.heap_drewN]; omega))))).mono ?_); rintro e wF ⟨rfl, hbF⟩; obtain ⟨hcF, hfF, hzF⟩ := cif hbF; (try simp only [World.size_alloc, World.size_setCell, World.size_drew, World.heap_drewN] at hzF))
  | (go_at_call 35; (with_reducible refine (HS.out _).mono ?_); rintro e w' ⟨rfl, rfl⟩))
    refine wp_region_ext (by kernel_rfl) (by kernel_rfl) ?_
    repeat (first | go_big_quiet_skip | (go_big_quiet_want; go_big_quiet_op; first | go_big_quiet_on | (apply Exists.intro; refine ⟨fun W hW => ?_, ?_⟩; (focus (first
      | (go_at_call 40; (with_reducible refine (HK.out _).mono ?_); rintro e w1 ⟨rfl, rfl⟩; exact ⟨rfl, hW⟩)
      | exact rfl | (obtain ⟨hcW, hfW, hzW⟩ := cif (Ext.of hW); (try simp only [World.size_alloc, World.size_setCell, World.size_drew, World.heap_drewN] at hzW); simp [go_sem, *, ↓IntWalk.iteOmega]; (try exact rfl)))); go_big_quiet_on)))
    refine wpQuiet_nil ?_
    intro w' hw'
    have hbl := Ext.of hw'
    obtain ⟨hc, hf, hz⟩ := cif hbl
    (try simp only [World.size_alloc, World.size_setCell, World.size_drew, World.heap_drewN] at hz)
    clear hw'
    go_wp2
    refine wp_region_ext (by kernel_rfl) (by kernel_rfl) ?_
    repeat (first | go_big_quiet_skip | (go_big_quiet_want; go_big_quiet_op; first | go_big_quiet_on | (apply Exists.intro; refine ⟨fun W hW => ?_, ?_⟩; (focus (first
      | (go_at_call 40; (with_reducible refine (HK.out _).mono ?_); rintro e w1 ⟨rfl, rfl⟩; exact ⟨rfl, hW⟩)
      | exact rfl | (obtain ⟨hcW, hfW, hzW⟩ := cif (Ext.of hW); (try simp only [World.size_alloc, World.size_setCell, World.size_drew, World.heap_drewN] at hzW); simp [go_sem, *, ↓IntWalk.iteOmega]; (try exact rfl)))); go_big_quiet_on)))
    refine wpQuiet_nil ?_
    intro w' hw'
    have hbl := Ext.of hw'
    obtain ⟨hc, hf, hz⟩ := cif hbl
    (try simp only [World.size_alloc, World.size_setCell, World.size_drew, World.heap_drewN] at hz)
    clear hw'
    go_wp2
    go_returns
    exact ⟨rfl, by (repeat' (first | (with_reducible exact Below.refl _ _) | (with_reducible assumption) | (with_reducible refine Below.setCell ?_ ?_ _) | (with_reducible refine Below.alloc ?_ ?_ _) | (with_reducible refine Below.drew ?_) | (with_reducible refine below_drewN ?_ _) | (with_reducible refine below_next ?_ (by with_reducible assumption)) | omega | (dsimp only; omega) | (simp only [World.size_alloc, World.size_setCell, World.size_drew, World.heap_drewN]; omega)))⟩
  · have d4 : (vk != 4) = true := by simpa using c4
    clear htk ht c4
    have hA1 := cell_alloc_if
    have hA2 := frozen_alloc_if
    have hA3 := cell_set_if
    go_enter Try.func18, Try.ntmps18
    go_wp2_with (first
  | (go_at_call 34; (with_reducible refine (HRC.out _ (by (repeat' (first | (with_reducible exact Below.refl _ _) | (with_reducible assumption) | (with_reducible refine Below.setCell ?_ ?_ _) | (with_reducible refine Below.alloc ?_ ?_ _) | (with_reducible refine Below.drew ?_) | (with_reducible refine below_drewN ?_ _) | (with_reducible refine below_next ?_ (by with_reducible assumption)) | omega | (dsimp only; omega) | (simp only [World.size_alloc, World.size_setCell, World.size_drew, World.heap_drewN]; omega))))).mono ?_); rintro e wF ⟨rfl, hbF⟩; obtain ⟨hcF, hfF, hzF⟩ := cif hbF; (try simp only [World.size_alloc, World.size_setCell, World.size_drew, World.heap_drewN] at hzF))
  | (go_at_call 35; (with_reducible refine (HS.out _).mono ?_); rintro e w' ⟨rfl, rfl⟩))
    refine wp_region_ext (by kernel_rfl) (by kernel_rfl) ?_
    repeat (first | go_big_quiet_skip | (go_big_quiet_want; go_big_quiet_op; first | go_big_quiet_on | (apply Exists.intro; refine ⟨fun W hW => ?_, ?_⟩; (focus (first
      | (go_at_call 40; (with_reducible refine (HK.out _).mono ?_); rintro e w1 ⟨rfl, rfl⟩; exact ⟨rfl, hW⟩)
      | exact rfl | (obtain ⟨hcW, hfW, hzW⟩ := cif (Ext.of hW); (try simp only [World.size_alloc, World.size_setCell, World.size_drew, World.heap_drewN] at hzW); simp [go_sem, *, ↓IntWalk.iteOmega]; (try exact rfl)))); go_big_quiet_on)))
    refine wpQuiet_nil ?_
    intro w' hw'
    have hbl := Ext.of hw'
    obtain ⟨hc, hf, hz⟩ := cif hbl
    (try simp only [World.size_alloc, World.size_setCell, World.size_drew, World.heap_drewN] at hz)
    clear hw'
    go_wp2
    refine wp_region_ext (by kernel_rfl) (by kernel_rfl) ?_
    repeat (first | go_big_quiet_skip | (go_big_quiet_want; go_big_quiet_op; first | go_big_quiet_on | (apply Exists.intro; refine ⟨fun W hW => ?_, ?_⟩; (focus (first
      | (go_at_call 40; (with_reducible refine (HK.out _).mono ?_); rintro e w1 ⟨rfl, rfl⟩; exact ⟨rfl, hW⟩)
      | exact rfl | (obtain ⟨hcW, hfW, hzW⟩ := cif (Ext.of hW); (try simp only [World.size_alloc, World.size_setCell, World.size_drew, World.heap_drewN] at hzW); simp [go_sem, *, ↓IntWalk.iteOmega]; (try exact rfl)))); go_big_quiet_on)))
    refine wpQuiet_nil ?_
    intro w' hw'
    have hbl := Ext.of hw'
    obtain ⟨hc, hf, hz⟩ := cif hbl
    (try simp only [World.size_alloc, World.size_setCell, World.size_drew, World.heap_drewN] at hz)
    clear hw'
    go_wp2
    go_returns
    exact ⟨rfl, by (repeat' (first | (with_reducible exact Below.refl _ _) | (with_reducible assumption) | (with_reducible refine Below.setCell ?_ ?_ _) | (with_reducible refine Below.alloc ?_ ?_ _) | (with_reducible refine Below.drew ?_) | (with_reducible refine below_drewN ?_ _) | (with_reducible refine below_next ?_ (by with_reducible assumption)) | omega | (dsimp only; omega) | (simp only [World.size_alloc, World.size_setCell, World.size_drew, World.heap_drewN]; omega)))⟩

end Go.Proofs.Ytddipbpllogbaaa
