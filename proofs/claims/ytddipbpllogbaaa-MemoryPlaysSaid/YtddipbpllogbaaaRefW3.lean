/-
  The reference's memory: reaches.
-/
import Derived.Test.YtddipbpllogbaaaRefW1
import Derived.Test.YtddipbpllogbaaaMachW1
import Derived.Deep.Light
namespace Go.Proofs.Ytddipbpllogbaaa
open Go.RowKit
set_option linter.unusedVariables false
set_option linter.unusedSimpArgs false

set_option maxHeartbeats 400000 in
theorem rsz_any (c : Int) (w : World) : Calls Try.prog 35 #[.int .i64 c] w fun e w' => e = .returned (.int .i64 (sizeV c)) ∧ w = w' := by
  go_enter Try.func35, Try.ntmps35
  go_wp2
  all_goals (go_returns; refine ⟨?_, rfl⟩; go_light; simp; grind [sizeV])
set_option maxHeartbeats 400000 in
theorem rkind_any (c : Int) (w : World) : Calls Try.prog 40 #[.int .i64 c] w fun e w' => e = .returned (.int .i64 (kindV c)) ∧ w = w' := by
  go_enter Try.func40, Try.ntmps40
  go_wp2
  all_goals (go_returns; refine ⟨?_, rfl⟩; go_light; simp; grind [kindV])

/-- The block, and the place in it, of a chunk's bytes. -/
def reachA (R : List RB) (chunk : Int) (a : V) : Option (RB × Nat) :=
  if a.k ≠ 4 ∨ sizeV chunk = 0 then none
  else match blkA R a.l with
    | none => none
    | some B => if wrap64 a.b < 0 ∨ wrap64 a.b % sizeV chunk ≠ 0 ∨ wrap64 a.b > (B.kinds.length : Int) - sizeV chunk then none else some (B, (wrap64 a.b).toNat)
def reachV (R : List RB) (chunk : Int) (a : V) : Value :=
  match reachA R chunk a with
  | some (B, off) => .tuple #[.int .i64 off, .bool true]
  | none => .tuple #[.int .i64 0, .bool false]
set_option maxRecDepth 100000 in
set_option maxHeartbeats 4000000 in
theorem reaches_any {w : World} {base rm cap : Nat} {s : Value} {R : List RB} (h : RefS w base rm s cap R) (chunk k b l : Int) (hl : I64 l) :
    Calls Try.prog 34 #[.pointer (some ⟨rm, 0, none⟩), .int .i64 chunk, .agg #[.int .i64 k, .int .u64 b, .int .i64 l]] w fun e w' => e = .returned (reachV R chunk ⟨k, b, l⟩) ∧ Below w.heap.size w w' := by
  have HS := Lib.hid (rsz_any chunk)
  have HL := Lib.hid (fun W (hb : Below w.heap.size w W) => live_any (h.next hb) l hl)
  unfold reachV reachA
  by_cases cn : sizeV chunk = 0
  · rw [cn] at HS
    rw [if_pos (.inr cn)]
    clear h
    have hA1 := cell_alloc_if
    have hA2 := frozen_alloc_if
    have hA3 := cell_set_if
    go_enter Try.func34, Try.ntmps34
    go_wp2_with (first
  | (go_at_call 35; (with_reducible refine (HS.out _).mono ?_); rintro e w' ⟨rfl, rfl⟩)
  | (go_at_call 31; (with_reducible refine (HL.out _ (by (repeat' (first | (with_reducible exact Below.refl _ _) | (with_reducible assumption) | (with_reducible refine Below.setCell ?_ ?_ _) | (with_reducible refine Below.alloc ?_ ?_ _) | (with_reducible refine Below.drew ?_) | (with_reducible refine below_drewN ?_ _) | (with_reducible refine below_next ?_ (by with_reducible assumption)) | omega | (dsimp only; omega) | (simp only [World.size_alloc, World.size_setCell, World.size_drew, World.heap_drewN]; omega))))).mono ?_); rintro e w' ⟨rfl, rfl⟩))
    go_returns
    exact ⟨rfl, by (repeat' (first | (with_reducible exact Below.refl _ _) | (with_reducible assumption) | (with_reducible refine Below.setCell ?_ ?_ _) | (with_reducible refine Below.alloc ?_ ?_ _) | (with_reducible refine Below.drew ?_) | (with_reducible refine below_drewN ?_ _) | (with_reducible refine below_next ?_ (by with_reducible assumption)) | omega | (dsimp only; omega) | (simp only [World.size_alloc, World.size_setCell, World.size_drew, World.heap_drewN]; omega)))⟩
  · by_cases ck : k = 4
    · have dn : (sizeV chunk == 0) = false := by simpa using cn
      have dk : (k != 4) = false := by simpa using ck
      have hn := sizeV_cases chunk
      rw [if_neg (by simp [cn, ck])]
      cases hb : blkA R l with
      | none =>
        rw [hb] at HL
        generalize sizeV chunk = n at *
        clear h hb
        have hA1 := cell_alloc_if
        have hA2 := frozen_alloc_if
        have hA3 := cell_set_if
        go_enter Try.func34, Try.ntmps34
        go_wp2_with (first
  | (go_at_call 35; (with_reducible refine (HS.out _).mono ?_); rintro e w' ⟨rfl, rfl⟩)
  | (go_at_call 31; (with_reducible refine (HL.out _ (by (repeat' (first | (with_reducible exact Below.refl _ _) | (with_reducible assumption) | (with_reducible refine Below.setCell ?_ ?_ _) | (with_reducible refine Below.alloc ?_ ?_ _) | (with_reducible refine Below.drew ?_) | (with_reducible refine below_drewN ?_ _) | (with_reducible refine below_next ?_ (by with_reducible assumption)) | omega | (dsimp only; omega) | (simp only [World.size_alloc, World.size_setCell, World.size_drew, World.heap_drewN]; omega))))).mono ?_); rintro e w' ⟨rfl, rfl⟩))
        go_returns
        exact ⟨rfl, by (repeat' (first | (with_reducible exact Below.refl _ _) | (with_reducible assumption) | (with_reducible refine Below.setCell ?_ ?_ _) | (with_reducible refine Below.alloc ?_ ?_ _) | (with_reducible refine Below.drew ?_) | (with_reducible refine below_drewN ?_ _) | (with_reducible refine below_next ?_ (by with_reducible assumption)) | omega | (dsimp only; omega) | (simp only [World.size_alloc, World.size_setCell, World.size_drew, World.heap_drewN]; omega)))⟩
      | some B =>
        rw [hb] at HL
        obtain ⟨j, hj, hB, hlv, hjl⟩ := blkA_some hb
        obtain ⟨g, c, rfl, hg0, hg, hc, hf⟩ := h.read hB
        have t0 : w.cell? ⟨rm, 0, none⟩ = some (.slice (some ⟨g, 0, none⟩) R.length c) := by rw [Lib.cell_of_heap h.top]; rfl
        have hrm := lt_of_block h.top
        have r0 := (hc 0 (by omega)).trans (RB.cells0 hlv)
        rw [Nat.add_zero] at r0
        have hR := h.len
        have hlen := (h.keys j B hB hlv).2.2.2.2.2.1
        have hw : wrap64 (l - 1) = (j : Int) := by unfold wrap64; obtain ⟨l1, l2⟩ := hl; omega
        clear h hb hB hc hf hj
        dsimp only
        generalize hxx : wrap64 b = x at *
        generalize sizeV chunk = n at *
        generalize B.kinds.length = m at *
        by_cases c1 : x < 0
        · have d1 : decide (x < 0) = true := by simpa using c1
          rw [if_pos (.inl c1)]
          have hA1 := cell_alloc_if
          have hA2 := frozen_alloc_if
          have hA3 := cell_set_if
          go_enter Try.func34, Try.ntmps34
          go_wp2_with (first
  | (go_at_call 35; (with_reducible refine (HS.out _).mono ?_); rintro e w' ⟨rfl, rfl⟩)
  | (go_at_call 31; (with_reducible refine (HL.out _ (by (repeat' (first | (with_reducible exact Below.refl _ _) | (with_reducible assumption) | (with_reducible refine Below.setCell ?_ ?_ _) | (with_reducible refine Below.alloc ?_ ?_ _) | (with_reducible refine Below.drew ?_) | (with_reducible refine below_drewN ?_ _) | (with_reducible refine below_next ?_ (by with_reducible assumption)) | omega | (dsimp only; omega) | (simp only [World.size_alloc, World.size_setCell, World.size_drew, World.heap_drewN]; omega))))).mono ?_); rintro e w' ⟨rfl, rfl⟩))
          refine wp_region_ext (by kernel_rfl) (by kernel_rfl) ?_
          repeat (first | go_big_quiet_skip | (go_big_quiet_want; go_big_quiet_op; first | go_big_quiet_on | (apply Exists.intro; refine ⟨fun W hW => ?_, ?_⟩; (focus (first
            | fail
            | exact rfl | (obtain ⟨hcW, hfW, hzW⟩ := cif (Ext.of hW); (try simp only [World.size_alloc, World.size_setCell, World.size_drew, World.heap_drewN] at hzW); simp [go_sem, *, ↓IntWalk.iteOmega]; (try exact rfl)))); go_big_quiet_on)))
          refine wpQuiet_nil ?_
          intro w' hw'
          have hbl := Ext.of hw'
          obtain ⟨hc, hf, hz⟩ := cif hbl
          (try simp only [World.size_alloc, World.size_setCell, World.size_drew, World.heap_drewN] at hz)
          clear hw'
          go_wp2
          go_returns
          exact ⟨by first | rfl | (subst hxx; simp; omega), by (repeat' (first | (with_reducible exact Below.refl _ _) | (with_reducible assumption) | (with_reducible refine Below.setCell ?_ ?_ _) | (with_reducible refine Below.alloc ?_ ?_ _) | (with_reducible refine Below.drew ?_) | (with_reducible refine below_drewN ?_ _) | (with_reducible refine below_next ?_ (by with_reducible assumption)) | omega | (dsimp only; omega) | (simp only [World.size_alloc, World.size_setCell, World.size_drew, World.heap_drewN]; omega)))⟩
        · have d1 : decide (x < 0) = false := by simpa using c1
          have ht : x.tmod n = x % n := Int.tmod_eq_emod_of_nonneg (by omega)
          by_cases c2 : (m : Int) < x
          · have d2 : decide ((m : Int) < x) = true := by simpa using c2
            rw [if_pos (by omega)]
            clear ht
            have hA1 := cell_alloc_if
            have hA2 := frozen_alloc_if
            have hA3 := cell_set_if
            go_enter Try.func34, Try.ntmps34
            go_wp2_with (first
  | (go_at_call 35; (with_reducible refine (HS.out _).mono ?_); rintro e w' ⟨rfl, rfl⟩)
  | (go_at_call 31; (with_reducible refine (HL.out _ (by (repeat' (first | (with_reducible exact Below.refl _ _) | (with_reducible assumption) | (with_reducible refine Below.setCell ?_ ?_ _) | (with_reducible refine Below.alloc ?_ ?_ _) | (with_reducible refine Below.drew ?_) | (with_reducible refine below_drewN ?_ _) | (with_reducible refine below_next ?_ (by with_reducible assumption)) | omega | (dsimp only; omega) | (simp only [World.size_alloc, World.size_setCell, World.size_drew, World.heap_drewN]; omega))))).mono ?_); rintro e w' ⟨rfl, rfl⟩))
            refine wp_region_ext (by kernel_rfl) (by kernel_rfl) ?_
            repeat (first | go_big_quiet_skip | (go_big_quiet_want; go_big_quiet_op; first | go_big_quiet_on | (apply Exists.intro; refine ⟨fun W hW => ?_, ?_⟩; (focus (first
              | fail
              | exact rfl | (obtain ⟨hcW, hfW, hzW⟩ := cif (Ext.of hW); (try simp only [World.size_alloc, World.size_setCell, World.size_drew, World.heap_drewN] at hzW); simp [go_sem, *, ↓IntWalk.iteOmega]; (try exact rfl)))); go_big_quiet_on)))
            refine wpQuiet_nil ?_
            intro w' hw'
            have hbl := Ext.of hw'
            obtain ⟨hc, hf, hz⟩ := cif hbl
            (try simp only [World.size_alloc, World.size_setCell, World.size_drew, World.heap_drewN] at hz)
            clear hw'
            go_wp2
            go_returns
            exact ⟨by first | rfl | (subst hxx; simp; omega), by (repeat' (first | (with_reducible exact Below.refl _ _) | (with_reducible assumption) | (with_reducible refine Below.setCell ?_ ?_ _) | (with_reducible refine Below.alloc ?_ ?_ _) | (with_reducible refine Below.drew ?_) | (with_reducible refine below_drewN ?_ _) | (with_reducible refine below_next ?_ (by with_reducible assumption)) | omega | (dsimp only; omega) | (simp only [World.size_alloc, World.size_setCell, World.size_drew, World.heap_drewN]; omega)))⟩
          · have d2 : decide ((m : Int) < x) = false := by simpa using c2
            have hsub : wrap64 ((m : Int) - x) = (m : Int) - x := by unfold wrap64; omega
            by_cases c3 : (m : Int) - x < n
            · have d3 : decide ((m : Int) - x < n) = true := by simpa using c3
              rw [if_pos (by omega)]
              clear ht
              have hA1 := cell_alloc_if
              have hA2 := frozen_alloc_if
              have hA3 := cell_set_if
              go_enter Try.func34, Try.ntmps34
              go_wp2_with (first
  | (go_at_call 35; (with_reducible refine (HS.out _).mono ?_); rintro e w' ⟨rfl, rfl⟩)
  | (go_at_call 31; (with_reducible refine (HL.out _ (by (repeat' (first | (with_reducible exact Below.refl _ _) | (with_reducible assumption) | (with_reducible refine Below.setCell ?_ ?_ _) | (with_reducible refine Below.alloc ?_ ?_ _) | (with_reducible refine Below.drew ?_) | (with_reducible refine below_drewN ?_ _) | (with_reducible refine below_next ?_ (by with_reducible assumption)) | omega | (dsimp only; omega) | (simp only [World.size_alloc, World.size_setCell, World.size_drew, World.heap_drewN]; omega))))).mono ?_); rintro e w' ⟨rfl, rfl⟩))
              refine wp_region_ext (by kernel_rfl) (by kernel_rfl) ?_
              repeat (first | go_big_quiet_skip | (go_big_quiet_want; go_big_quiet_op; first | go_big_quiet_on | (apply Exists.intro; refine ⟨fun W hW => ?_, ?_⟩; (focus (first
                | fail
                | exact rfl | (obtain ⟨hcW, hfW, hzW⟩ := cif (Ext.of hW); (try simp only [World.size_alloc, World.size_setCell, World.size_drew, World.heap_drewN] at hzW); simp [go_sem, *, ↓IntWalk.iteOmega]; (try exact rfl)))); go_big_quiet_on)))
              refine wpQuiet_nil ?_
              intro w' hw'
              have hbl := Ext.of hw'
              obtain ⟨hc, hf, hz⟩ := cif hbl
              (try simp only [World.size_alloc, World.size_setCell, World.size_drew, World.heap_drewN] at hz)
              clear hw'
              go_wp2
              go_returns
              exact ⟨by first | rfl | (subst hxx; simp; omega), by (repeat' (first | (with_reducible exact Below.refl _ _) | (with_reducible assumption) | (with_reducible refine Below.setCell ?_ ?_ _) | (with_reducible refine Below.alloc ?_ ?_ _) | (with_reducible refine Below.drew ?_) | (with_reducible refine below_drewN ?_ _) | (with_reducible refine below_next ?_ (by with_reducible assumption)) | omega | (dsimp only; omega) | (simp only [World.size_alloc, World.size_setCell, World.size_drew, World.heap_drewN]; omega)))⟩
            · have d3 : decide ((m : Int) - x < n) = false := by simpa using c3
              by_cases c4 : x % n = 0
              · have d4 : (x.tmod n != 0) = false := by rw [ht]; simpa using c4
                rw [if_neg (by omega)]
                clear ht
                have hA1 := cell_alloc_if
                have hA2 := frozen_alloc_if
                have hA3 := cell_set_if
                go_enter Try.func34, Try.ntmps34
                go_wp2_with (first
  | (go_at_call 35; (with_reducible refine (HS.out _).mono ?_); rintro e w' ⟨rfl, rfl⟩)
  | (go_at_call 31; (with_reducible refine (HL.out _ (by (repeat' (first | (with_reducible exact Below.refl _ _) | (with_reducible assumption) | (with_reducible refine Below.setCell ?_ ?_ _) | (with_reducible refine Below.alloc ?_ ?_ _) | (with_reducible refine Below.drew ?_) | (with_reducible refine below_drewN ?_ _) | (with_reducible refine below_next ?_ (by with_reducible assumption)) | omega | (dsimp only; omega) | (simp only [World.size_alloc, World.size_setCell, World.size_drew, World.heap_drewN]; omega))))).mono ?_); rintro e w' ⟨rfl, rfl⟩))
                refine wp_region_ext (by kernel_rfl) (by kernel_rfl) ?_
                repeat (first | go_big_quiet_skip | (go_big_quiet_want; go_big_quiet_op; first | go_big_quiet_on | (apply Exists.intro; refine ⟨fun W hW => ?_, ?_⟩; (focus (first
                  | fail
                  | exact rfl | (obtain ⟨hcW, hfW, hzW⟩ := cif (Ext.of hW); (try simp only [World.size_alloc, World.size_setCell, World.size_drew, World.heap_drewN] at hzW); simp [go_sem, *, ↓IntWalk.iteOmega]; (try exact rfl)))); go_big_quiet_on)))
                refine wpQuiet_nil ?_
                intro w' hw'
                have hbl := Ext.of hw'
                obtain ⟨hc, hf, hz⟩ := cif hbl
                (try simp only [World.size_alloc, World.size_setCell, World.size_drew, World.heap_drewN] at hz)
                clear hw'
                go_wp2
                go_returns
                exact ⟨by first | rfl | (subst hxx; simp; omega), by (repeat' (first | (with_reducible exact Below.refl _ _) | (with_reducible assumption) | (with_reducible refine Below.setCell ?_ ?_ _) | (with_reducible refine Below.alloc ?_ ?_ _) | (with_reducible refine Below.drew ?_) | (with_reducible refine below_drewN ?_ _) | (with_reducible refine below_next ?_ (by with_reducible assumption)) | omega | (dsimp only; omega) | (simp only [World.size_alloc, World.size_setCell, World.size_drew, World.heap_drewN]; omega)))⟩
              · have d4 : (x.tmod n != 0) = true := by rw [ht]; simpa using c4
                rw [if_pos (by omega)]
                clear ht
                have hA1 := cell_alloc_if
                have hA2 := frozen_alloc_if
                have hA3 := cell_set_if
                go_enter Try.func34, Try.ntmps34
                go_wp2_with (first
  | (go_at_call 35; (with_reducible refine (HS.out _).mono ?_); rintro e w' ⟨rfl, rfl⟩)
  | (go_at_call 31; (with_reducible refine (HL.out _ (by (repeat' (first | (with_reducible exact Below.refl _ _) | (with_reducible assumption) | (with_reducible refine Below.setCell ?_ ?_ _) | (with_reducible refine Below.alloc ?_ ?_ _) | (with_reducible refine Below.drew ?_) | (with_reducible refine below_drewN ?_ _) | (with_reducible refine below_next ?_ (by with_reducible assumption)) | omega | (dsimp only; omega) | (simp only [World.size_alloc, World.size_setCell, World.size_drew, World.heap_drewN]; omega))))).mono ?_); rintro e w' ⟨rfl, rfl⟩))
                refine wp_region_ext (by kernel_rfl) (by kernel_rfl) ?_
                repeat (first | go_big_quiet_skip | (go_big_quiet_want; go_big_quiet_op; first | go_big_quiet_on | (apply Exists.intro; refine ⟨fun W hW => ?_, ?_⟩; (focus (first
                  | fail
                  | exact rfl | (obtain ⟨hcW, hfW, hzW⟩ := cif (Ext.of hW); (try simp only [World.size_alloc, World.size_setCell, World.size_drew, World.heap_drewN] at hzW); simp [go_sem, *, ↓IntWalk.iteOmega]; (try exact rfl)))); go_big_quiet_on)))
                refine wpQuiet_nil ?_
                intro w' hw'
                have hbl := Ext.of hw'
                obtain ⟨hc, hf, hz⟩ := cif hbl
                (try simp only [World.size_alloc, World.size_setCell, World.size_drew, World.heap_drewN] at hz)
                clear hw'
                go_wp2
                go_returns
                exact ⟨by first | rfl | (subst hxx; simp; omega), by (repeat' (first | (with_reducible exact Below.refl _ _) | (with_reducible assumption) | (with_reducible refine Below.setCell ?_ ?_ _) | (with_reducible refine Below.alloc ?_ ?_ _) | (with_reducible refine Below.drew ?_) | (with_reducible refine below_drewN ?_ _) | (with_reducible refine below_next ?_ (by with_reducible assumption)) | omega | (dsimp only; omega) | (simp only [World.size_alloc, World.size_setCell, World.size_drew, World.heap_drewN]; omega)))⟩
    · have dn : (sizeV chunk == 0) = false := by simpa using cn
      have dk : (k != 4) = true := by simpa using ck
      rw [if_pos (.inl ck)]
      generalize sizeV chunk = n at *
      clear h
      have hA1 := cell_alloc_if
      have hA2 := frozen_alloc_if
      have hA3 := cell_set_if
      go_enter Try.func34, Try.ntmps34
      go_wp2_with (first
  | (go_at_call 35; (with_reducible refine (HS.out _).mono ?_); rintro e w' ⟨rfl, rfl⟩)
  | (go_at_call 31; (with_reducible refine (HL.out _ (by (repeat' (first | (with_reducible exact Below.refl _ _) | (with_reducible assumption) | (with_reducible refine Below.setCell ?_ ?_ _) | (with_reducible refine Below.alloc ?_ ?_ _) | (with_reducible refine Below.drew ?_) | (with_reducible refine below_drewN ?_ _) | (with_reducible refine below_next ?_ (by with_reducible assumption)) | omega | (dsimp only; omega) | (simp only [World.size_alloc, World.size_setCell, World.size_drew, World.heap_drewN]; omega))))).mono ?_); rintro e w' ⟨rfl, rfl⟩))
      go_returns
      exact ⟨rfl, by (repeat' (first | (with_reducible exact Below.refl _ _) | (with_reducible assumption) | (with_reducible refine Below.setCell ?_ ?_ _) | (with_reducible refine Below.alloc ?_ ?_ _) | (with_reducible refine Below.drew ?_) | (with_reducible refine below_drewN ?_ _) | (with_reducible refine below_next ?_ (by with_reducible assumption)) | omega | (dsimp only; omega) | (simp only [World.size_alloc, World.size_setCell, World.size_drew, World.heap_drewN]; omega)))⟩

end Go.Proofs.Ytddipbpllogbaaa
