/-
  The reference's Eval2 answers eval2.
-/
import Derived.Test.YtddipbpllogbaaaMachW7
namespace Go.Proofs.Ytddipbpllogbaaa
open Go.RowKit
set_option linter.unusedVariables false
set_option linter.unusedSimpArgs false

theorem beqF {a b : Int} (h : ¬ a = b) : (a == b) = false := beq_eq_false_iff_ne.2 h
theorem bneT {a b : Int} (h : ¬ a = b) : (a != b) = true := by simp [h]

theorem ref_pointers_any (op k1 b1 l1 k2 b2 l2 : Int) (ho : 3 ≤ op ∧ op ≤ 25) (hp : k1 = 4 ∨ k2 = 4) (hx : U64 b1) (hy : U64 b2) (w : World) :
    Calls Try.prog 61 #[.int .i64 op, .agg #[.int .i64 k1, .int .u64 b1, .int .i64 l1], .agg #[.int .i64 k2, .int .u64 b2, .int .i64 l2]] w fun e w' =>
      e = .returned (.tuple #[.agg #[.int .i64 (pointersV op ⟨k1, b1, l1⟩ ⟨k2, b2, l2⟩).1.k, .int .u64 (pointersV op ⟨k1, b1, l1⟩ ⟨k2, b2, l2⟩).1.b, .int .i64 (pointersV op ⟨k1, b1, l1⟩ ⟨k2, b2, l2⟩).1.l], .bool (pointersV op ⟨k1, b1, l1⟩ ⟨k2, b2, l2⟩).2]) ∧ Below w.heap.size w w' := by
  by_cases h1 : k1 = 4
  · subst h1
    by_cases h0 : l1 = 0
    · exact ref_p0 op k2 b1 l1 b2 l2 h0 hx hy _ rfl w
    · by_cases h2 : k2 = 4
      · subst h2; exact ref_pp op b1 l1 b2 l2 ho hx hy _ rfl w
      · by_cases h3 : k2 = 2
        · subst h3
          by_cases o3 : op = 3
          · subst o3; exact ref_pl_3 b1 l1 b2 l2 h0 (beqF h0) hx hy _ rfl w
          · by_cases o4 : op = 4
            · subst o4; exact ref_pl_4 b1 l1 b2 l2 h0 (beqF h0) hx hy _ rfl w
            · by_cases o5 : op = 16
              · subst o5
                by_cases z : b2 = 0
                · exact ref_pl_16 b1 l1 b2 l2 h0 (beqF h0) z hx hy _ rfl w
                · exact ref_pl_16n b1 l1 b2 l2 h0 (beqF h0) z (beqF z) hx hy _ rfl w
              · by_cases o6 : op = 17
                · subst o6
                  by_cases z : b2 = 0
                  · exact ref_pl_17 b1 l1 b2 l2 h0 (beqF h0) z hx hy _ rfl w
                  · exact ref_pl_17n b1 l1 b2 l2 h0 (beqF h0) z (beqF z) hx hy _ rfl w
                · exact ref_pl_n op b1 l1 b2 l2 h0 (beqF h0) o3 o4 o5 o6 (beqF o3) (beqF o4) (beqF o5) (beqF o6) hx hy _ rfl w
        · exact ref_po op k2 b1 l1 b2 l2 h0 (beqF h0) h3 h2 (beqF h3) (bneT h3) (beqF h2) hx hy _ rfl w
  · have h2 : k2 = 4 := hp.resolve_left h1
    subst h2
    by_cases h0 : l2 = 0
    · exact ref_0p op k1 b1 l1 b2 l2 h0 h1 (beqF h1) hx hy _ rfl w
    · by_cases h3 : k1 = 2
      · subst h3
        by_cases o3 : op = 3
        · subst o3; exact ref_lp_3 b1 l1 b2 l2 h0 (beqF h0) hx hy _ rfl w
        · by_cases o5 : op = 16
          · subst o5
            by_cases z : b1 = 0
            · exact ref_lp_16 b1 l1 b2 l2 h0 (beqF h0) z hx hy _ rfl w
            · exact ref_lp_16n b1 l1 b2 l2 h0 (beqF h0) z (beqF z) hx hy _ rfl w
          · by_cases o6 : op = 17
            · subst o6
              by_cases z : b1 = 0
              · exact ref_lp_17 b1 l1 b2 l2 h0 (beqF h0) z hx hy _ rfl w
              · exact ref_lp_17n b1 l1 b2 l2 h0 (beqF h0) z (beqF z) hx hy _ rfl w
            · exact ref_lp_n op b1 l1 b2 l2 h0 (beqF h0) o3 o5 o6 (beqF o3) (beqF o5) (beqF o6) hx hy _ rfl w
      · exact ref_op op k1 b1 l1 b2 l2 h0 (beqF h0) h3 h1 (beqF h3) (bneT h3) (beqF h1) hx hy _ rfl w

theorem beqd (a b : Int) : (a == b) = decide (a = b) := by rw [Bool.eq_iff_iff]; simp
-- %1 name, %2 op, %3 k1, %4 k2, %5 binders, %6 the shape, %7 further hypotheses
theorem wrap30 (op : Int) (h : I64 op) (h2 : -9223372036854775778 ≤ op) : wrap64 (op - 30) = op - 30 := by
  obtain ⟨h3, h4⟩ := h
  unfold wrap64; omega
-- no operation of two
set_option maxRecDepth 100000 in
set_option maxHeartbeats 8000000 in
theorem refe_none (op k1 k2 a z b1 l1 b2 l2 : Int) (r : V × Bool) (hi : I64 op) (HS : Hid (∀ w, Calls Try.prog 60 #[.int .i64 op] w fun e w' => e = .returned (.tuple #[.int .i64 a, .int .i64 0, .int .i64 z]) ∧ w = w')) (HV : Hid (r = (undefV, false))) (hx : U64 b1) (hy : U64 b2) (w : World) :
    Calls Try.prog 48 #[.int .i64 op, .agg #[.int .i64 k1, .int .u64 b1, .int .i64 l1], .agg #[.int .i64 k2, .int .u64 b2, .int .i64 l2]] w fun e w' =>
      e = .returned (.tuple #[.agg #[.int .i64 r.1.k, .int .u64 r.1.b, .int .i64 r.1.l], .bool r.2]) ∧ Below w.heap.size w w' := by
  have hA1 := cell_alloc_if
  have hA2 := frozen_alloc_if
  have hA3 := cell_set_if
  try have hw30 : wrap64 (op - 30) = op - 30 := wrap30 _ hi (by omega)
  go_enter Try.func48, Try.ntmps48
  go_wp2_with (first
    | (go_at_call 60; with_reducible refine (HS.out _).mono ?_; rintro e w' ⟨rfl, rfl⟩)
    | (go_at_call 61; with_reducible refine (HP.out _).mono ?_; rintro e w' ⟨rfl, hbl⟩; obtain ⟨hc, hf, hz⟩ := cif hbl; (try simp only [World.size_alloc, World.size_setCell, World.size_drew, World.heap_drewN] at hz))
    | (go_at_call 69; with_reducible refine (HH.out _).mono ?_; rintro e w' ⟨rfl, hbl⟩; obtain ⟨hc, hf, hz⟩ := cif hbl; (try simp only [World.size_alloc, World.size_setCell, World.size_drew, World.heap_drewN] at hz))
    | (go_at_call 70; with_reducible refine (HW.out _).mono ?_; rintro e w' ⟨rfl, rfl⟩)
    | (go_at_call 37; with_reducible refine (ref_int_any _ _).mono ?_; rintro e w' ⟨rfl, hbl⟩; obtain ⟨hc, hf, hz⟩ := cif hbl; (try simp only [World.size_alloc, World.size_setCell, World.size_drew, World.heap_drewN] at hz))
    | (go_at_call 38; with_reducible refine (ref_long_any _ _).mono ?_; rintro e w' ⟨rfl, hbl⟩; obtain ⟨hc, hf, hz⟩ := cif hbl; (try simp only [World.size_alloc, World.size_setCell, World.size_drew, World.heap_drewN] at hz))
    | (go_at_call 67; with_reducible refine (ref_yes_any _ _).mono ?_; rintro e w' ⟨rfl, hbl⟩; obtain ⟨hc, hf, hz⟩ := cif hbl; (try simp only [World.size_alloc, World.size_setCell, World.size_drew, World.heap_drewN] at hz))
    | (go_at_call 68; with_reducible refine (compared_any _ _ _ _).mono ?_; rintro e w' ⟨rfl, rfl⟩))
  all_goals (((try simp only [Exit.inBlock, Exit.then]); go_light; refine bodyPost_ret (by simp [results, Try.results48, go_sem, *, ↓IntWalk.iteOmega]; try rfl) rfl ?_); refine ⟨?_, (by (try clear hc hf); (repeat' (first | (with_reducible exact Below.refl _ _) | (with_reducible assumption) | (with_reducible refine Below.setCell ?_ ?_ _) | (with_reducible refine Below.alloc ?_ ?_ _) | (with_reducible refine Below.drew ?_) | (with_reducible refine below_drewN ?_ _) | (with_reducible refine below_next ?_ (by with_reducible assumption)) | omega | (dsimp only; omega) | (simp only [World.size_alloc, World.size_setCell, World.size_drew, World.heap_drewN]; omega))))⟩; (first | (simp [HV.out, undefV]; done) | (simp [HV.out, flagV_eq, intV, longV, beqd, wrap64_mod, wrap32_mod]; done) | (simp [HV.out, flagV_eq, intV, longV, beqd, wrap64_mod, wrap32_mod, *]; done)))
-- doubles
set_option maxRecDepth 100000 in
set_option maxHeartbeats 8000000 in
theorem refe_dbl (op z b1 l1 b2 l2 : Int) (r : V × Bool) (hi : I64 op) (HS : Hid (∀ w, Calls Try.prog 60 #[.int .i64 op] w fun e w' => e = .returned (.tuple #[.int .i64 3, .int .i64 3, .int .i64 z]) ∧ w = w')) (o : 62 ≤ op ∧ op ≤ 71) (HV : Hid (r = (floatsV op b1.toNat b2.toNat, true))) (HD : Hid (∀ w, Calls Try.prog 62 #[.int .i64 op, .float .f64 b1.toNat, .float .f64 b2.toNat] w fun e w' => e = .returned (.agg #[.int .i64 (floatsV op b1.toNat b2.toNat).k, .int .u64 (floatsV op b1.toNat b2.toNat).b, .int .i64 (floatsV op b1.toNat b2.toNat).l]) ∧ Below w.heap.size w w')) (hx : U64 b1) (hy : U64 b2) (w : World) :
    Calls Try.prog 48 #[.int .i64 op, .agg #[.int .i64 3, .int .u64 b1, .int .i64 l1], .agg #[.int .i64 3, .int .u64 b2, .int .i64 l2]] w fun e w' =>
      e = .returned (.tuple #[.agg #[.int .i64 r.1.k, .int .u64 r.1.b, .int .i64 r.1.l], .bool r.2]) ∧ Below w.heap.size w w' := by
  have hA1 := cell_alloc_if
  have hA2 := frozen_alloc_if
  have hA3 := cell_set_if
  try have hw30 : wrap64 (op - 30) = op - 30 := wrap30 _ hi (by omega)
  go_enter Try.func48, Try.ntmps48
  go_wp2_with (first
    | (go_at_call 60; with_reducible refine (HS.out _).mono ?_; rintro e w' ⟨rfl, rfl⟩)
    | (go_at_call 61; with_reducible refine (HP.out _).mono ?_; rintro e w' ⟨rfl, hbl⟩; obtain ⟨hc, hf, hz⟩ := cif hbl; (try simp only [World.size_alloc, World.size_setCell, World.size_drew, World.heap_drewN] at hz))
    | (go_at_call 69; with_reducible refine (HH.out _).mono ?_; rintro e w' ⟨rfl, hbl⟩; obtain ⟨hc, hf, hz⟩ := cif hbl; (try simp only [World.size_alloc, World.size_setCell, World.size_drew, World.heap_drewN] at hz))
    | (go_at_call 70; with_reducible refine (HW.out _).mono ?_; rintro e w' ⟨rfl, rfl⟩)
    | (go_at_call 37; with_reducible refine (ref_int_any _ _).mono ?_; rintro e w' ⟨rfl, hbl⟩; obtain ⟨hc, hf, hz⟩ := cif hbl; (try simp only [World.size_alloc, World.size_setCell, World.size_drew, World.heap_drewN] at hz))
    | (go_at_call 38; with_reducible refine (ref_long_any _ _).mono ?_; rintro e w' ⟨rfl, hbl⟩; obtain ⟨hc, hf, hz⟩ := cif hbl; (try simp only [World.size_alloc, World.size_setCell, World.size_drew, World.heap_drewN] at hz))
    | (go_at_call 67; with_reducible refine (ref_yes_any _ _).mono ?_; rintro e w' ⟨rfl, hbl⟩; obtain ⟨hc, hf, hz⟩ := cif hbl; (try simp only [World.size_alloc, World.size_setCell, World.size_drew, World.heap_drewN] at hz))
    | (go_at_call 68; with_reducible refine (compared_any _ _ _ _).mono ?_; rintro e w' ⟨rfl, rfl⟩))
  refine wp_region_tail 6 (by intro c a d v w h; cases d <;> (simp [Exit.then, Exit.inBlock] at h ⊢; exact h)) (by kernel_rfl) (by kernel_rfl) (by kernel_rfl) (by kernel_rfl) ?_
  apply Exists.intro
  refine ⟨fun m hm => ?_, fun w' hw' => ?_⟩
  · simp only [List.map_cons, List.map_nil, List.take_succ_cons, List.take_zero, deAl]
    repeat (first | go_big_quiet_skip | (go_big_quiet_want; go_big_quiet_op; first | go_big_quiet_on | (apply Exists.intro; refine ⟨fun W hW => ?_, ?_⟩; (focus (first
      | (go_at_call 64; with_reducible refine (ref_i64_any _ _ _ _).mono ?_; rintro e w1 ⟨rfl, hb⟩; exact ⟨rfl, Ext.next hW hb⟩)
        | (go_at_call 65; with_reducible refine (ref_i32_any _ _ _ _).mono ?_; rintro e w1 ⟨rfl, hb⟩; exact ⟨rfl, Ext.next hW hb⟩)
        | (go_at_call 66; with_reducible refine (ref_u32_any _ _ _ _).mono ?_; rintro e w1 ⟨rfl, hb⟩; exact ⟨rfl, Ext.next hW hb⟩)
        | (go_at_call 63; with_reducible refine (ref_dblx_any _ _ _ _).mono ?_; rintro e w1 ⟨rfl, hb⟩; exact ⟨rfl, Ext.next hW hb⟩)
        | (go_at_call 62; with_reducible refine (HD.out _).mono ?_; rintro e w1 ⟨rfl, hb⟩; exact ⟨rfl, Ext.next hW hb⟩)
      | exact rfl | (obtain ⟨hcW, hfW, hzW⟩ := cif (Ext.of (Ext.past hm hW)); (try simp only [World.size_alloc, World.size_setCell, World.size_drew, World.heap_drewN] at hzW); simp [go_sem, *, ↓IntWalk.iteOmega]; (try exact rfl)))); go_big_quiet_on)))
    exact wpQuiet_nil rfl
  rw [show als _ 0 6 = [] from by kernel_rfl]
  simp only [gEnd, List.drop_succ_cons, List.drop_zero]
  have hbl := Ext.of hw'
  obtain ⟨hc, hf, hz⟩ := cif hbl
  (try simp only [World.size_alloc, World.size_setCell, World.size_drew, World.heap_drewN] at hz)
  clear hw'
  go_wp2_with (first
    | (go_at_call 60; with_reducible refine (HS.out _).mono ?_; rintro e w' ⟨rfl, rfl⟩)
    | (go_at_call 61; with_reducible refine (HP.out _).mono ?_; rintro e w' ⟨rfl, hbl⟩; obtain ⟨hc, hf, hz⟩ := cif hbl; (try simp only [World.size_alloc, World.size_setCell, World.size_drew, World.heap_drewN] at hz))
    | (go_at_call 69; with_reducible refine (HH.out _).mono ?_; rintro e w' ⟨rfl, hbl⟩; obtain ⟨hc, hf, hz⟩ := cif hbl; (try simp only [World.size_alloc, World.size_setCell, World.size_drew, World.heap_drewN] at hz))
    | (go_at_call 70; with_reducible refine (HW.out _).mono ?_; rintro e w' ⟨rfl, rfl⟩)
    | (go_at_call 37; with_reducible refine (ref_int_any _ _).mono ?_; rintro e w' ⟨rfl, hbl⟩; obtain ⟨hc, hf, hz⟩ := cif hbl; (try simp only [World.size_alloc, World.size_setCell, World.size_drew, World.heap_drewN] at hz))
    | (go_at_call 38; with_reducible refine (ref_long_any _ _).mono ?_; rintro e w' ⟨rfl, hbl⟩; obtain ⟨hc, hf, hz⟩ := cif hbl; (try simp only [World.size_alloc, World.size_setCell, World.size_drew, World.heap_drewN] at hz))
    | (go_at_call 67; with_reducible refine (ref_yes_any _ _).mono ?_; rintro e w' ⟨rfl, hbl⟩; obtain ⟨hc, hf, hz⟩ := cif hbl; (try simp only [World.size_alloc, World.size_setCell, World.size_drew, World.heap_drewN] at hz))
    | (go_at_call 68; with_reducible refine (compared_any _ _ _ _).mono ?_; rintro e w' ⟨rfl, rfl⟩))
  all_goals (((try simp only [Exit.inBlock, Exit.then]); go_light; refine bodyPost_ret (by simp [results, Try.results48, go_sem, *, ↓IntWalk.iteOmega]; try rfl) rfl ?_); refine ⟨?_, (by (try clear hc hf); (repeat' (first | (with_reducible exact Below.refl _ _) | (with_reducible assumption) | (with_reducible refine Below.setCell ?_ ?_ _) | (with_reducible refine Below.alloc ?_ ?_ _) | (with_reducible refine Below.drew ?_) | (with_reducible refine below_drewN ?_ _) | (with_reducible refine below_next ?_ (by with_reducible assumption)) | omega | (dsimp only; omega) | (simp only [World.size_alloc, World.size_setCell, World.size_drew, World.heap_drewN]; omega))))⟩; (first | (simp [HV.out, undefV]; done) | (simp [HV.out, flagV_eq, intV, longV, beqd, wrap64_mod, wrap32_mod]; done) | (simp [HV.out, flagV_eq, intV, longV, beqd, wrap64_mod, wrap32_mod, *]; done)))
-- operands of other kinds
set_option maxRecDepth 100000 in
set_option maxHeartbeats 8000000 in
theorem refe_not1 (op k1 k2 a b z b1 l1 b2 l2 : Int) (r : V × Bool) (hi : I64 op) (HS : Hid (∀ w, Calls Try.prog 60 #[.int .i64 op] w fun e w' => e = .returned (.tuple #[.int .i64 a, .int .i64 b, .int .i64 z]) ∧ w = w')) (hl : -9223372036854775778 ≤ op) (HV : Hid (r = (undefV, false))) (hb : (b == 0) = false) (h2 : (a == 2) = false) (hk : (k1 != a) = true) (hx : U64 b1) (hy : U64 b2) (w : World) :
    Calls Try.prog 48 #[.int .i64 op, .agg #[.int .i64 k1, .int .u64 b1, .int .i64 l1], .agg #[.int .i64 k2, .int .u64 b2, .int .i64 l2]] w fun e w' =>
      e = .returned (.tuple #[.agg #[.int .i64 r.1.k, .int .u64 r.1.b, .int .i64 r.1.l], .bool r.2]) ∧ Below w.heap.size w w' := by
  have hA1 := cell_alloc_if
  have hA2 := frozen_alloc_if
  have hA3 := cell_set_if
  try have hw30 : wrap64 (op - 30) = op - 30 := wrap30 _ hi (by omega)
  go_enter Try.func48, Try.ntmps48
  go_wp2_with (first
    | (go_at_call 60; with_reducible refine (HS.out _).mono ?_; rintro e w' ⟨rfl, rfl⟩)
    | (go_at_call 61; with_reducible refine (HP.out _).mono ?_; rintro e w' ⟨rfl, hbl⟩; obtain ⟨hc, hf, hz⟩ := cif hbl; (try simp only [World.size_alloc, World.size_setCell, World.size_drew, World.heap_drewN] at hz))
    | (go_at_call 69; with_reducible refine (HH.out _).mono ?_; rintro e w' ⟨rfl, hbl⟩; obtain ⟨hc, hf, hz⟩ := cif hbl; (try simp only [World.size_alloc, World.size_setCell, World.size_drew, World.heap_drewN] at hz))
    | (go_at_call 70; with_reducible refine (HW.out _).mono ?_; rintro e w' ⟨rfl, rfl⟩)
    | (go_at_call 37; with_reducible refine (ref_int_any _ _).mono ?_; rintro e w' ⟨rfl, hbl⟩; obtain ⟨hc, hf, hz⟩ := cif hbl; (try simp only [World.size_alloc, World.size_setCell, World.size_drew, World.heap_drewN] at hz))
    | (go_at_call 38; with_reducible refine (ref_long_any _ _).mono ?_; rintro e w' ⟨rfl, hbl⟩; obtain ⟨hc, hf, hz⟩ := cif hbl; (try simp only [World.size_alloc, World.size_setCell, World.size_drew, World.heap_drewN] at hz))
    | (go_at_call 67; with_reducible refine (ref_yes_any _ _).mono ?_; rintro e w' ⟨rfl, hbl⟩; obtain ⟨hc, hf, hz⟩ := cif hbl; (try simp only [World.size_alloc, World.size_setCell, World.size_drew, World.heap_drewN] at hz))
    | (go_at_call 68; with_reducible refine (compared_any _ _ _ _).mono ?_; rintro e w' ⟨rfl, rfl⟩))
  all_goals (((try simp only [Exit.inBlock, Exit.then]); go_light; refine bodyPost_ret (by simp [results, Try.results48, go_sem, *, ↓IntWalk.iteOmega]; try rfl) rfl ?_); refine ⟨?_, (by (try clear hc hf); (repeat' (first | (with_reducible exact Below.refl _ _) | (with_reducible assumption) | (with_reducible refine Below.setCell ?_ ?_ _) | (with_reducible refine Below.alloc ?_ ?_ _) | (with_reducible refine Below.drew ?_) | (with_reducible refine below_drewN ?_ _) | (with_reducible refine below_next ?_ (by with_reducible assumption)) | omega | (dsimp only; omega) | (simp only [World.size_alloc, World.size_setCell, World.size_drew, World.heap_drewN]; omega))))⟩; (first | (simp [HV.out, undefV]; done) | (simp [HV.out, flagV_eq, intV, longV, beqd, wrap64_mod, wrap32_mod]; done) | (simp [HV.out, flagV_eq, intV, longV, beqd, wrap64_mod, wrap32_mod, *]; done)))
set_option maxRecDepth 100000 in
set_option maxHeartbeats 8000000 in
theorem refe_not2 (op k2 a b z b1 l1 b2 l2 : Int) (r : V × Bool) (hi : I64 op) (HS : Hid (∀ w, Calls Try.prog 60 #[.int .i64 op] w fun e w' => e = .returned (.tuple #[.int .i64 a, .int .i64 b, .int .i64 z]) ∧ w = w')) (hl : -9223372036854775778 ≤ op) (HV : Hid (r = (undefV, false))) (hb : (b == 0) = false) (h2 : (a == 2) = false) (hk0 : (a != a) = false) (hk : (k2 != b) = true) (hx : U64 b1) (hy : U64 b2) (w : World) :
    Calls Try.prog 48 #[.int .i64 op, .agg #[.int .i64 a, .int .u64 b1, .int .i64 l1], .agg #[.int .i64 k2, .int .u64 b2, .int .i64 l2]] w fun e w' =>
      e = .returned (.tuple #[.agg #[.int .i64 r.1.k, .int .u64 r.1.b, .int .i64 r.1.l], .bool r.2]) ∧ Below w.heap.size w w' := by
  have hA1 := cell_alloc_if
  have hA2 := frozen_alloc_if
  have hA3 := cell_set_if
  try have hw30 : wrap64 (op - 30) = op - 30 := wrap30 _ hi (by omega)
  go_enter Try.func48, Try.ntmps48
  go_wp2_with (first
    | (go_at_call 60; with_reducible refine (HS.out _).mono ?_; rintro e w' ⟨rfl, rfl⟩)
    | (go_at_call 61; with_reducible refine (HP.out _).mono ?_; rintro e w' ⟨rfl, hbl⟩; obtain ⟨hc, hf, hz⟩ := cif hbl; (try simp only [World.size_alloc, World.size_setCell, World.size_drew, World.heap_drewN] at hz))
    | (go_at_call 69; with_reducible refine (HH.out _).mono ?_; rintro e w' ⟨rfl, hbl⟩; obtain ⟨hc, hf, hz⟩ := cif hbl; (try simp only [World.size_alloc, World.size_setCell, World.size_drew, World.heap_drewN] at hz))
    | (go_at_call 70; with_reducible refine (HW.out _).mono ?_; rintro e w' ⟨rfl, rfl⟩)
    | (go_at_call 37; with_reducible refine (ref_int_any _ _).mono ?_; rintro e w' ⟨rfl, hbl⟩; obtain ⟨hc, hf, hz⟩ := cif hbl; (try simp only [World.size_alloc, World.size_setCell, World.size_drew, World.heap_drewN] at hz))
    | (go_at_call 38; with_reducible refine (ref_long_any _ _).mono ?_; rintro e w' ⟨rfl, hbl⟩; obtain ⟨hc, hf, hz⟩ := cif hbl; (try simp only [World.size_alloc, World.size_setCell, World.size_drew, World.heap_drewN] at hz))
    | (go_at_call 67; with_reducible refine (ref_yes_any _ _).mono ?_; rintro e w' ⟨rfl, hbl⟩; obtain ⟨hc, hf, hz⟩ := cif hbl; (try simp only [World.size_alloc, World.size_setCell, World.size_drew, World.heap_drewN] at hz))
    | (go_at_call 68; with_reducible refine (compared_any _ _ _ _).mono ?_; rintro e w' ⟨rfl, rfl⟩))
  all_goals (((try simp only [Exit.inBlock, Exit.then]); go_light; refine bodyPost_ret (by simp [results, Try.results48, go_sem, *, ↓IntWalk.iteOmega]; try rfl) rfl ?_); refine ⟨?_, (by (try clear hc hf); (repeat' (first | (with_reducible exact Below.refl _ _) | (with_reducible assumption) | (with_reducible refine Below.setCell ?_ ?_ _) | (with_reducible refine Below.alloc ?_ ?_ _) | (with_reducible refine Below.drew ?_) | (with_reducible refine below_drewN ?_ _) | (with_reducible refine below_next ?_ (by with_reducible assumption)) | omega | (dsimp only; omega) | (simp only [World.size_alloc, World.size_setCell, World.size_drew, World.heap_drewN]; omega))))⟩; (first | (simp [HV.out, undefV]; done) | (simp [HV.out, flagV_eq, intV, longV, beqd, wrap64_mod, wrap32_mod]; done) | (simp [HV.out, flagV_eq, intV, longV, beqd, wrap64_mod, wrap32_mod, *]; done)))
set_option maxRecDepth 100000 in
set_option maxHeartbeats 8000000 in
theorem refe_not3 (op k1 k2 z b1 l1 b2 l2 : Int) (r : V × Bool) (hi : I64 op) (HS : Hid (∀ w, Calls Try.prog 60 #[.int .i64 op] w fun e w' => e = .returned (.tuple #[.int .i64 2, .int .i64 1, .int .i64 z]) ∧ w = w')) (hl : -9223372036854775778 ≤ op) (HV : Hid (r = (undefV, false))) (hk : (k1 != 2) = true) (hx : U64 b1) (hy : U64 b2) (w : World) :
    Calls Try.prog 48 #[.int .i64 op, .agg #[.int .i64 k1, .int .u64 b1, .int .i64 l1], .agg #[.int .i64 k2, .int .u64 b2, .int .i64 l2]] w fun e w' =>
      e = .returned (.tuple #[.agg #[.int .i64 r.1.k, .int .u64 r.1.b, .int .i64 r.1.l], .bool r.2]) ∧ Below w.heap.size w w' := by
  have hA1 := cell_alloc_if
  have hA2 := frozen_alloc_if
  have hA3 := cell_set_if
  try have hw30 : wrap64 (op - 30) = op - 30 := wrap30 _ hi (by omega)
  go_enter Try.func48, Try.ntmps48
  go_wp2_with (first
    | (go_at_call 60; with_reducible refine (HS.out _).mono ?_; rintro e w' ⟨rfl, rfl⟩)
    | (go_at_call 61; with_reducible refine (HP.out _).mono ?_; rintro e w' ⟨rfl, hbl⟩; obtain ⟨hc, hf, hz⟩ := cif hbl; (try simp only [World.size_alloc, World.size_setCell, World.size_drew, World.heap_drewN] at hz))
    | (go_at_call 69; with_reducible refine (HH.out _).mono ?_; rintro e w' ⟨rfl, hbl⟩; obtain ⟨hc, hf, hz⟩ := cif hbl; (try simp only [World.size_alloc, World.size_setCell, World.size_drew, World.heap_drewN] at hz))
    | (go_at_call 70; with_reducible refine (HW.out _).mono ?_; rintro e w' ⟨rfl, rfl⟩)
    | (go_at_call 37; with_reducible refine (ref_int_any _ _).mono ?_; rintro e w' ⟨rfl, hbl⟩; obtain ⟨hc, hf, hz⟩ := cif hbl; (try simp only [World.size_alloc, World.size_setCell, World.size_drew, World.heap_drewN] at hz))
    | (go_at_call 38; with_reducible refine (ref_long_any _ _).mono ?_; rintro e w' ⟨rfl, hbl⟩; obtain ⟨hc, hf, hz⟩ := cif hbl; (try simp only [World.size_alloc, World.size_setCell, World.size_drew, World.heap_drewN] at hz))
    | (go_at_call 67; with_reducible refine (ref_yes_any _ _).mono ?_; rintro e w' ⟨rfl, hbl⟩; obtain ⟨hc, hf, hz⟩ := cif hbl; (try simp only [World.size_alloc, World.size_setCell, World.size_drew, World.heap_drewN] at hz))
    | (go_at_call 68; with_reducible refine (compared_any _ _ _ _).mono ?_; rintro e w' ⟨rfl, rfl⟩))
  all_goals (((try simp only [Exit.inBlock, Exit.then]); go_light; refine bodyPost_ret (by simp [results, Try.results48, go_sem, *, ↓IntWalk.iteOmega]; try rfl) rfl ?_); refine ⟨?_, (by (try clear hc hf); (repeat' (first | (with_reducible exact Below.refl _ _) | (with_reducible assumption) | (with_reducible refine Below.setCell ?_ ?_ _) | (with_reducible refine Below.alloc ?_ ?_ _) | (with_reducible refine Below.drew ?_) | (with_reducible refine below_drewN ?_ _) | (with_reducible refine below_next ?_ (by with_reducible assumption)) | omega | (dsimp only; omega) | (simp only [World.size_alloc, World.size_setCell, World.size_drew, World.heap_drewN]; omega))))⟩; (first | (simp [HV.out, undefV]; done) | (simp [HV.out, flagV_eq, intV, longV, beqd, wrap64_mod, wrap32_mod]; done) | (simp [HV.out, flagV_eq, intV, longV, beqd, wrap64_mod, wrap32_mod, *]; done)))
set_option maxRecDepth 100000 in
set_option maxHeartbeats 8000000 in
theorem refe_not4 (op k2 z b1 l1 b2 l2 : Int) (r : V × Bool) (hi : I64 op) (HS : Hid (∀ w, Calls Try.prog 60 #[.int .i64 op] w fun e w' => e = .returned (.tuple #[.int .i64 2, .int .i64 1, .int .i64 z]) ∧ w = w')) (hl : -9223372036854775778 ≤ op) (HV : Hid (r = (undefV, false))) (hk : (k2 != 1) = true) (hx : U64 b1) (hy : U64 b2) (w : World) :
    Calls Try.prog 48 #[.int .i64 op, .agg #[.int .i64 2, .int .u64 b1, .int .i64 l1], .agg #[.int .i64 k2, .int .u64 b2, .int .i64 l2]] w fun e w' =>
      e = .returned (.tuple #[.agg #[.int .i64 r.1.k, .int .u64 r.1.b, .int .i64 r.1.l], .bool r.2]) ∧ Below w.heap.size w w' := by
  have hA1 := cell_alloc_if
  have hA2 := frozen_alloc_if
  have hA3 := cell_set_if
  try have hw30 : wrap64 (op - 30) = op - 30 := wrap30 _ hi (by omega)
  go_enter Try.func48, Try.ntmps48
  go_wp2_with (first
    | (go_at_call 60; with_reducible refine (HS.out _).mono ?_; rintro e w' ⟨rfl, rfl⟩)
    | (go_at_call 61; with_reducible refine (HP.out _).mono ?_; rintro e w' ⟨rfl, hbl⟩; obtain ⟨hc, hf, hz⟩ := cif hbl; (try simp only [World.size_alloc, World.size_setCell, World.size_drew, World.heap_drewN] at hz))
    | (go_at_call 69; with_reducible refine (HH.out _).mono ?_; rintro e w' ⟨rfl, hbl⟩; obtain ⟨hc, hf, hz⟩ := cif hbl; (try simp only [World.size_alloc, World.size_setCell, World.size_drew, World.heap_drewN] at hz))
    | (go_at_call 70; with_reducible refine (HW.out _).mono ?_; rintro e w' ⟨rfl, rfl⟩)
    | (go_at_call 37; with_reducible refine (ref_int_any _ _).mono ?_; rintro e w' ⟨rfl, hbl⟩; obtain ⟨hc, hf, hz⟩ := cif hbl; (try simp only [World.size_alloc, World.size_setCell, World.size_drew, World.heap_drewN] at hz))
    | (go_at_call 38; with_reducible refine (ref_long_any _ _).mono ?_; rintro e w' ⟨rfl, hbl⟩; obtain ⟨hc, hf, hz⟩ := cif hbl; (try simp only [World.size_alloc, World.size_setCell, World.size_drew, World.heap_drewN] at hz))
    | (go_at_call 67; with_reducible refine (ref_yes_any _ _).mono ?_; rintro e w' ⟨rfl, hbl⟩; obtain ⟨hc, hf, hz⟩ := cif hbl; (try simp only [World.size_alloc, World.size_setCell, World.size_drew, World.heap_drewN] at hz))
    | (go_at_call 68; with_reducible refine (compared_any _ _ _ _).mono ?_; rintro e w' ⟨rfl, rfl⟩))
  all_goals (((try simp only [Exit.inBlock, Exit.then]); go_light; refine bodyPost_ret (by simp [results, Try.results48, go_sem, *, ↓IntWalk.iteOmega]; try rfl) rfl ?_); refine ⟨?_, (by (try clear hc hf); (repeat' (first | (with_reducible exact Below.refl _ _) | (with_reducible assumption) | (with_reducible refine Below.setCell ?_ ?_ _) | (with_reducible refine Below.alloc ?_ ?_ _) | (with_reducible refine Below.drew ?_) | (with_reducible refine below_drewN ?_ _) | (with_reducible refine below_next ?_ (by with_reducible assumption)) | omega | (dsimp only; omega) | (simp only [World.size_alloc, World.size_setCell, World.size_drew, World.heap_drewN]; omega))))⟩; (first | (simp [HV.out, undefV]; done) | (simp [HV.out, flagV_eq, intV, longV, beqd, wrap64_mod, wrap32_mod]; done) | (simp [HV.out, flagV_eq, intV, longV, beqd, wrap64_mod, wrap32_mod, *]; done)))
set_option maxRecDepth 100000 in
set_option maxHeartbeats 8000000 in
theorem refe_not5 (op k1 k2 z b1 l1 b2 l2 : Int) (r : V × Bool) (hi : I64 op) (HS : Hid (∀ w, Calls Try.prog 60 #[.int .i64 op] w fun e w' => e = .returned (.tuple #[.int .i64 2, .int .i64 2, .int .i64 z]) ∧ w = w')) (hl : -9223372036854775778 ≤ op) (HV : Hid (r = (undefV, false))) (h1 : (k1 == 4) = false) (h2 : (k2 == 4) = false) (hk : (k1 != 2) = true) (hx : U64 b1) (hy : U64 b2) (w : World) :
    Calls Try.prog 48 #[.int .i64 op, .agg #[.int .i64 k1, .int .u64 b1, .int .i64 l1], .agg #[.int .i64 k2, .int .u64 b2, .int .i64 l2]] w fun e w' =>
      e = .returned (.tuple #[.agg #[.int .i64 r.1.k, .int .u64 r.1.b, .int .i64 r.1.l], .bool r.2]) ∧ Below w.heap.size w w' := by
  have hA1 := cell_alloc_if
  have hA2 := frozen_alloc_if
  have hA3 := cell_set_if
  try have hw30 : wrap64 (op - 30) = op - 30 := wrap30 _ hi (by omega)
  go_enter Try.func48, Try.ntmps48
  go_wp2_with (first
    | (go_at_call 60; with_reducible refine (HS.out _).mono ?_; rintro e w' ⟨rfl, rfl⟩)
    | (go_at_call 61; with_reducible refine (HP.out _).mono ?_; rintro e w' ⟨rfl, hbl⟩; obtain ⟨hc, hf, hz⟩ := cif hbl; (try simp only [World.size_alloc, World.size_setCell, World.size_drew, World.heap_drewN] at hz))
    | (go_at_call 69; with_reducible refine (HH.out _).mono ?_; rintro e w' ⟨rfl, hbl⟩; obtain ⟨hc, hf, hz⟩ := cif hbl; (try simp only [World.size_alloc, World.size_setCell, World.size_drew, World.heap_drewN] at hz))
    | (go_at_call 70; with_reducible refine (HW.out _).mono ?_; rintro e w' ⟨rfl, rfl⟩)
    | (go_at_call 37; with_reducible refine (ref_int_any _ _).mono ?_; rintro e w' ⟨rfl, hbl⟩; obtain ⟨hc, hf, hz⟩ := cif hbl; (try simp only [World.size_alloc, World.size_setCell, World.size_drew, World.heap_drewN] at hz))
    | (go_at_call 38; with_reducible refine (ref_long_any _ _).mono ?_; rintro e w' ⟨rfl, hbl⟩; obtain ⟨hc, hf, hz⟩ := cif hbl; (try simp only [World.size_alloc, World.size_setCell, World.size_drew, World.heap_drewN] at hz))
    | (go_at_call 67; with_reducible refine (ref_yes_any _ _).mono ?_; rintro e w' ⟨rfl, hbl⟩; obtain ⟨hc, hf, hz⟩ := cif hbl; (try simp only [World.size_alloc, World.size_setCell, World.size_drew, World.heap_drewN] at hz))
    | (go_at_call 68; with_reducible refine (compared_any _ _ _ _).mono ?_; rintro e w' ⟨rfl, rfl⟩))
  all_goals (((try simp only [Exit.inBlock, Exit.then]); go_light; refine bodyPost_ret (by simp [results, Try.results48, go_sem, *, ↓IntWalk.iteOmega]; try rfl) rfl ?_); refine ⟨?_, (by (try clear hc hf); (repeat' (first | (with_reducible exact Below.refl _ _) | (with_reducible assumption) | (with_reducible refine Below.setCell ?_ ?_ _) | (with_reducible refine Below.alloc ?_ ?_ _) | (with_reducible refine Below.drew ?_) | (with_reducible refine below_drewN ?_ _) | (with_reducible refine below_next ?_ (by with_reducible assumption)) | omega | (dsimp only; omega) | (simp only [World.size_alloc, World.size_setCell, World.size_drew, World.heap_drewN]; omega))))⟩; (first | (simp [HV.out, undefV]; done) | (simp [HV.out, flagV_eq, intV, longV, beqd, wrap64_mod, wrap32_mod]; done) | (simp [HV.out, flagV_eq, intV, longV, beqd, wrap64_mod, wrap32_mod, *]; done)))
set_option maxRecDepth 100000 in
set_option maxHeartbeats 8000000 in
theorem refe_not6 (op k2 z b1 l1 b2 l2 : Int) (r : V × Bool) (hi : I64 op) (HS : Hid (∀ w, Calls Try.prog 60 #[.int .i64 op] w fun e w' => e = .returned (.tuple #[.int .i64 2, .int .i64 2, .int .i64 z]) ∧ w = w')) (hl : -9223372036854775778 ≤ op) (HV : Hid (r = (undefV, false))) (h2 : (k2 == 4) = false) (hk : (k2 != 2) = true) (hx : U64 b1) (hy : U64 b2) (w : World) :
    Calls Try.prog 48 #[.int .i64 op, .agg #[.int .i64 2, .int .u64 b1, .int .i64 l1], .agg #[.int .i64 k2, .int .u64 b2, .int .i64 l2]] w fun e w' =>
      e = .returned (.tuple #[.agg #[.int .i64 r.1.k, .int .u64 r.1.b, .int .i64 r.1.l], .bool r.2]) ∧ Below w.heap.size w w' := by
  have hA1 := cell_alloc_if
  have hA2 := frozen_alloc_if
  have hA3 := cell_set_if
  try have hw30 : wrap64 (op - 30) = op - 30 := wrap30 _ hi (by omega)
  go_enter Try.func48, Try.ntmps48
  go_wp2_with (first
    | (go_at_call 60; with_reducible refine (HS.out _).mono ?_; rintro e w' ⟨rfl, rfl⟩)
    | (go_at_call 61; with_reducible refine (HP.out _).mono ?_; rintro e w' ⟨rfl, hbl⟩; obtain ⟨hc, hf, hz⟩ := cif hbl; (try simp only [World.size_alloc, World.size_setCell, World.size_drew, World.heap_drewN] at hz))
    | (go_at_call 69; with_reducible refine (HH.out _).mono ?_; rintro e w' ⟨rfl, hbl⟩; obtain ⟨hc, hf, hz⟩ := cif hbl; (try simp only [World.size_alloc, World.size_setCell, World.size_drew, World.heap_drewN] at hz))
    | (go_at_call 70; with_reducible refine (HW.out _).mono ?_; rintro e w' ⟨rfl, rfl⟩)
    | (go_at_call 37; with_reducible refine (ref_int_any _ _).mono ?_; rintro e w' ⟨rfl, hbl⟩; obtain ⟨hc, hf, hz⟩ := cif hbl; (try simp only [World.size_alloc, World.size_setCell, World.size_drew, World.heap_drewN] at hz))
    | (go_at_call 38; with_reducible refine (ref_long_any _ _).mono ?_; rintro e w' ⟨rfl, hbl⟩; obtain ⟨hc, hf, hz⟩ := cif hbl; (try simp only [World.size_alloc, World.size_setCell, World.size_drew, World.heap_drewN] at hz))
    | (go_at_call 67; with_reducible refine (ref_yes_any _ _).mono ?_; rintro e w' ⟨rfl, hbl⟩; obtain ⟨hc, hf, hz⟩ := cif hbl; (try simp only [World.size_alloc, World.size_setCell, World.size_drew, World.heap_drewN] at hz))
    | (go_at_call 68; with_reducible refine (compared_any _ _ _ _).mono ?_; rintro e w' ⟨rfl, rfl⟩))
  all_goals (((try simp only [Exit.inBlock, Exit.then]); go_light; refine bodyPost_ret (by simp [results, Try.results48, go_sem, *, ↓IntWalk.iteOmega]; try rfl) rfl ?_); refine ⟨?_, (by (try clear hc hf); (repeat' (first | (with_reducible exact Below.refl _ _) | (with_reducible assumption) | (with_reducible refine Below.setCell ?_ ?_ _) | (with_reducible refine Below.alloc ?_ ?_ _) | (with_reducible refine Below.drew ?_) | (with_reducible refine below_drewN ?_ _) | (with_reducible refine below_next ?_ (by with_reducible assumption)) | omega | (dsimp only; omega) | (simp only [World.size_alloc, World.size_setCell, World.size_drew, World.heap_drewN]; omega))))⟩; (first | (simp [HV.out, undefV]; done) | (simp [HV.out, flagV_eq, intV, longV, beqd, wrap64_mod, wrap32_mod]; done) | (simp [HV.out, flagV_eq, intV, longV, beqd, wrap64_mod, wrap32_mod, *]; done)))
-- pointers
set_option maxRecDepth 100000 in
set_option maxHeartbeats 8000000 in
theorem refe_ptr1 (op k2 z b1 l1 b2 l2 : Int) (r : V × Bool) (hi : I64 op) (HS : Hid (∀ w, Calls Try.prog 60 #[.int .i64 op] w fun e w' => e = .returned (.tuple #[.int .i64 2, .int .i64 2, .int .i64 z]) ∧ w = w')) (hl : -9223372036854775778 ≤ op) (q : V × Bool) (HV : Hid (r = q)) (HP : Hid (∀ w, Calls Try.prog 61 #[.int .i64 (op - 30), .agg #[.int .i64 4, .int .u64 b1, .int .i64 l1], .agg #[.int .i64 k2, .int .u64 b2, .int .i64 l2]] w fun e w' => e = .returned (.tuple #[.agg #[.int .i64 q.1.k, .int .u64 q.1.b, .int .i64 q.1.l], .bool q.2]) ∧ Below w.heap.size w w')) (hx : U64 b1) (hy : U64 b2) (w : World) :
    Calls Try.prog 48 #[.int .i64 op, .agg #[.int .i64 4, .int .u64 b1, .int .i64 l1], .agg #[.int .i64 k2, .int .u64 b2, .int .i64 l2]] w fun e w' =>
      e = .returned (.tuple #[.agg #[.int .i64 r.1.k, .int .u64 r.1.b, .int .i64 r.1.l], .bool r.2]) ∧ Below w.heap.size w w' := by
  have hA1 := cell_alloc_if
  have hA2 := frozen_alloc_if
  have hA3 := cell_set_if
  try have hw30 : wrap64 (op - 30) = op - 30 := wrap30 _ hi (by omega)
  go_enter Try.func48, Try.ntmps48
  go_wp2_with (first
    | (go_at_call 60; with_reducible refine (HS.out _).mono ?_; rintro e w' ⟨rfl, rfl⟩)
    | (go_at_call 61; with_reducible refine (HP.out _).mono ?_; rintro e w' ⟨rfl, hbl⟩; obtain ⟨hc, hf, hz⟩ := cif hbl; (try simp only [World.size_alloc, World.size_setCell, World.size_drew, World.heap_drewN] at hz))
    | (go_at_call 69; with_reducible refine (HH.out _).mono ?_; rintro e w' ⟨rfl, hbl⟩; obtain ⟨hc, hf, hz⟩ := cif hbl; (try simp only [World.size_alloc, World.size_setCell, World.size_drew, World.heap_drewN] at hz))
    | (go_at_call 70; with_reducible refine (HW.out _).mono ?_; rintro e w' ⟨rfl, rfl⟩)
    | (go_at_call 37; with_reducible refine (ref_int_any _ _).mono ?_; rintro e w' ⟨rfl, hbl⟩; obtain ⟨hc, hf, hz⟩ := cif hbl; (try simp only [World.size_alloc, World.size_setCell, World.size_drew, World.heap_drewN] at hz))
    | (go_at_call 38; with_reducible refine (ref_long_any _ _).mono ?_; rintro e w' ⟨rfl, hbl⟩; obtain ⟨hc, hf, hz⟩ := cif hbl; (try simp only [World.size_alloc, World.size_setCell, World.size_drew, World.heap_drewN] at hz))
    | (go_at_call 67; with_reducible refine (ref_yes_any _ _).mono ?_; rintro e w' ⟨rfl, hbl⟩; obtain ⟨hc, hf, hz⟩ := cif hbl; (try simp only [World.size_alloc, World.size_setCell, World.size_drew, World.heap_drewN] at hz))
    | (go_at_call 68; with_reducible refine (compared_any _ _ _ _).mono ?_; rintro e w' ⟨rfl, rfl⟩))
  all_goals (((try simp only [Exit.inBlock, Exit.then]); go_light; refine bodyPost_ret (by simp [results, Try.results48, go_sem, *, ↓IntWalk.iteOmega]; try rfl) rfl ?_); refine ⟨?_, (by (try clear hc hf); (repeat' (first | (with_reducible exact Below.refl _ _) | (with_reducible assumption) | (with_reducible refine Below.setCell ?_ ?_ _) | (with_reducible refine Below.alloc ?_ ?_ _) | (with_reducible refine Below.drew ?_) | (with_reducible refine below_drewN ?_ _) | (with_reducible refine below_next ?_ (by with_reducible assumption)) | omega | (dsimp only; omega) | (simp only [World.size_alloc, World.size_setCell, World.size_drew, World.heap_drewN]; omega))))⟩; (first | (simp [HV.out, undefV]; done) | (simp [HV.out, flagV_eq, intV, longV, beqd, wrap64_mod, wrap32_mod]; done) | (simp [HV.out, flagV_eq, intV, longV, beqd, wrap64_mod, wrap32_mod, *]; done)))
set_option maxRecDepth 100000 in
set_option maxHeartbeats 8000000 in
theorem refe_ptr2 (op k1 z b1 l1 b2 l2 : Int) (r : V × Bool) (hi : I64 op) (HS : Hid (∀ w, Calls Try.prog 60 #[.int .i64 op] w fun e w' => e = .returned (.tuple #[.int .i64 2, .int .i64 2, .int .i64 z]) ∧ w = w')) (hl : -9223372036854775778 ≤ op) (q : V × Bool) (HV : Hid (r = q)) (hk : (k1 == 4) = false) (HP : Hid (∀ w, Calls Try.prog 61 #[.int .i64 (op - 30), .agg #[.int .i64 k1, .int .u64 b1, .int .i64 l1], .agg #[.int .i64 4, .int .u64 b2, .int .i64 l2]] w fun e w' => e = .returned (.tuple #[.agg #[.int .i64 q.1.k, .int .u64 q.1.b, .int .i64 q.1.l], .bool q.2]) ∧ Below w.heap.size w w')) (hx : U64 b1) (hy : U64 b2) (w : World) :
    Calls Try.prog 48 #[.int .i64 op, .agg #[.int .i64 k1, .int .u64 b1, .int .i64 l1], .agg #[.int .i64 4, .int .u64 b2, .int .i64 l2]] w fun e w' =>
      e = .returned (.tuple #[.agg #[.int .i64 r.1.k, .int .u64 r.1.b, .int .i64 r.1.l], .bool r.2]) ∧ Below w.heap.size w w' := by
  have hA1 := cell_alloc_if
  have hA2 := frozen_alloc_if
  have hA3 := cell_set_if
  try have hw30 : wrap64 (op - 30) = op - 30 := wrap30 _ hi (by omega)
  go_enter Try.func48, Try.ntmps48
  go_wp2_with (first
    | (go_at_call 60; with_reducible refine (HS.out _).mono ?_; rintro e w' ⟨rfl, rfl⟩)
    | (go_at_call 61; with_reducible refine (HP.out _).mono ?_; rintro e w' ⟨rfl, hbl⟩; obtain ⟨hc, hf, hz⟩ := cif hbl; (try simp only [World.size_alloc, World.size_setCell, World.size_drew, World.heap_drewN] at hz))
    | (go_at_call 69; with_reducible refine (HH.out _).mono ?_; rintro e w' ⟨rfl, hbl⟩; obtain ⟨hc, hf, hz⟩ := cif hbl; (try simp only [World.size_alloc, World.size_setCell, World.size_drew, World.heap_drewN] at hz))
    | (go_at_call 70; with_reducible refine (HW.out _).mono ?_; rintro e w' ⟨rfl, rfl⟩)
    | (go_at_call 37; with_reducible refine (ref_int_any _ _).mono ?_; rintro e w' ⟨rfl, hbl⟩; obtain ⟨hc, hf, hz⟩ := cif hbl; (try simp only [World.size_alloc, World.size_setCell, World.size_drew, World.heap_drewN] at hz))
    | (go_at_call 38; with_reducible refine (ref_long_any _ _).mono ?_; rintro e w' ⟨rfl, hbl⟩; obtain ⟨hc, hf, hz⟩ := cif hbl; (try simp only [World.size_alloc, World.size_setCell, World.size_drew, World.heap_drewN] at hz))
    | (go_at_call 67; with_reducible refine (ref_yes_any _ _).mono ?_; rintro e w' ⟨rfl, hbl⟩; obtain ⟨hc, hf, hz⟩ := cif hbl; (try simp only [World.size_alloc, World.size_setCell, World.size_drew, World.heap_drewN] at hz))
    | (go_at_call 68; with_reducible refine (compared_any _ _ _ _).mono ?_; rintro e w' ⟨rfl, rfl⟩))
  all_goals (((try simp only [Exit.inBlock, Exit.then]); go_light; refine bodyPost_ret (by simp [results, Try.results48, go_sem, *, ↓IntWalk.iteOmega]; try rfl) rfl ?_); refine ⟨?_, (by (try clear hc hf); (repeat' (first | (with_reducible exact Below.refl _ _) | (with_reducible assumption) | (with_reducible refine Below.setCell ?_ ?_ _) | (with_reducible refine Below.alloc ?_ ?_ _) | (with_reducible refine Below.drew ?_) | (with_reducible refine below_drewN ?_ _) | (with_reducible refine below_next ?_ (by with_reducible assumption)) | omega | (dsimp only; omega) | (simp only [World.size_alloc, World.size_setCell, World.size_drew, World.heap_drewN]; omega))))⟩; (first | (simp [HV.out, undefV]; done) | (simp [HV.out, flagV_eq, intV, longV, beqd, wrap64_mod, wrap32_mod]; done) | (simp [HV.out, flagV_eq, intV, longV, beqd, wrap64_mod, wrap32_mod, *]; done)))
-- comparisons of 32 bits
set_option maxRecDepth 100000 in
set_option maxHeartbeats 8000000 in
theorem refe_int_u (op z b1 l1 b2 l2 : Int) (r : V × Bool) (hi : I64 op) (HS : Hid (∀ w, Calls Try.prog 60 #[.int .i64 op] w fun e w' => e = .returned (.tuple #[.int .i64 1, .int .i64 1, .int .i64 z]) ∧ w = w')) (o : 22 ≤ op) (HV : Hid (r = (flagV (cmpd op (decide (b1 % 4294967296 < b2 % 4294967296)) (decide (b1 % 4294967296 = b2 % 4294967296))), true))) (hx : U64 b1) (hy : U64 b2) (w : World) :
    Calls Try.prog 48 #[.int .i64 op, .agg #[.int .i64 1, .int .u64 b1, .int .i64 l1], .agg #[.int .i64 1, .int .u64 b2, .int .i64 l2]] w fun e w' =>
      e = .returned (.tuple #[.agg #[.int .i64 r.1.k, .int .u64 r.1.b, .int .i64 r.1.l], .bool r.2]) ∧ Below w.heap.size w w' := by
  have hA1 := cell_alloc_if
  have hA2 := frozen_alloc_if
  have hA3 := cell_set_if
  try have hw30 : wrap64 (op - 30) = op - 30 := wrap30 _ hi (by omega)
  go_enter Try.func48, Try.ntmps48
  go_wp2_with (first
    | (go_at_call 60; with_reducible refine (HS.out _).mono ?_; rintro e w' ⟨rfl, rfl⟩)
    | (go_at_call 61; with_reducible refine (HP.out _).mono ?_; rintro e w' ⟨rfl, hbl⟩; obtain ⟨hc, hf, hz⟩ := cif hbl; (try simp only [World.size_alloc, World.size_setCell, World.size_drew, World.heap_drewN] at hz))
    | (go_at_call 69; with_reducible refine (HH.out _).mono ?_; rintro e w' ⟨rfl, hbl⟩; obtain ⟨hc, hf, hz⟩ := cif hbl; (try simp only [World.size_alloc, World.size_setCell, World.size_drew, World.heap_drewN] at hz))
    | (go_at_call 70; with_reducible refine (HW.out _).mono ?_; rintro e w' ⟨rfl, rfl⟩)
    | (go_at_call 37; with_reducible refine (ref_int_any _ _).mono ?_; rintro e w' ⟨rfl, hbl⟩; obtain ⟨hc, hf, hz⟩ := cif hbl; (try simp only [World.size_alloc, World.size_setCell, World.size_drew, World.heap_drewN] at hz))
    | (go_at_call 38; with_reducible refine (ref_long_any _ _).mono ?_; rintro e w' ⟨rfl, hbl⟩; obtain ⟨hc, hf, hz⟩ := cif hbl; (try simp only [World.size_alloc, World.size_setCell, World.size_drew, World.heap_drewN] at hz))
    | (go_at_call 67; with_reducible refine (ref_yes_any _ _).mono ?_; rintro e w' ⟨rfl, hbl⟩; obtain ⟨hc, hf, hz⟩ := cif hbl; (try simp only [World.size_alloc, World.size_setCell, World.size_drew, World.heap_drewN] at hz))
    | (go_at_call 68; with_reducible refine (compared_any _ _ _ _).mono ?_; rintro e w' ⟨rfl, rfl⟩))
  refine wp_region_ext (by kernel_rfl) (by kernel_rfl) ?_
  repeat (first | go_big_quiet_skip | (go_big_quiet_want; go_big_quiet_op; first | go_big_quiet_on | (apply Exists.intro; refine ⟨fun W hW => ?_, ?_⟩; (focus (first
    | (go_at_call 64; with_reducible refine (ref_i64_any _ _ _ _).mono ?_; rintro e w1 ⟨rfl, hb⟩; exact ⟨rfl, Ext.next hW hb⟩)
      | (go_at_call 65; with_reducible refine (ref_i32_any _ _ _ _).mono ?_; rintro e w1 ⟨rfl, hb⟩; exact ⟨rfl, Ext.next hW hb⟩)
      | (go_at_call 66; with_reducible refine (ref_u32_any _ _ _ _).mono ?_; rintro e w1 ⟨rfl, hb⟩; exact ⟨rfl, Ext.next hW hb⟩)
      | (go_at_call 63; with_reducible refine (ref_dblx_any _ _ _ _).mono ?_; rintro e w1 ⟨rfl, hb⟩; exact ⟨rfl, Ext.next hW hb⟩)
      | (go_at_call 62; with_reducible refine (HD.out _).mono ?_; rintro e w1 ⟨rfl, hb⟩; exact ⟨rfl, Ext.next hW hb⟩)
    | exact rfl | (obtain ⟨hcW, hfW, hzW⟩ := cif (Ext.of hW); (try simp only [World.size_alloc, World.size_setCell, World.size_drew, World.heap_drewN] at hzW); simp [go_sem, *, ↓IntWalk.iteOmega]; (try exact rfl)))); go_big_quiet_on)))
  refine wpQuiet_nil ?_
  intro w' hw'
  have hbl := Ext.of hw'
  obtain ⟨hc, hf, hz⟩ := cif hbl
  (try simp only [World.size_alloc, World.size_setCell, World.size_drew, World.heap_drewN] at hz)
  clear hw'
  go_wp2_with (first
    | (go_at_call 60; with_reducible refine (HS.out _).mono ?_; rintro e w' ⟨rfl, rfl⟩)
    | (go_at_call 61; with_reducible refine (HP.out _).mono ?_; rintro e w' ⟨rfl, hbl⟩; obtain ⟨hc, hf, hz⟩ := cif hbl; (try simp only [World.size_alloc, World.size_setCell, World.size_drew, World.heap_drewN] at hz))
    | (go_at_call 69; with_reducible refine (HH.out _).mono ?_; rintro e w' ⟨rfl, hbl⟩; obtain ⟨hc, hf, hz⟩ := cif hbl; (try simp only [World.size_alloc, World.size_setCell, World.size_drew, World.heap_drewN] at hz))
    | (go_at_call 70; with_reducible refine (HW.out _).mono ?_; rintro e w' ⟨rfl, rfl⟩)
    | (go_at_call 37; with_reducible refine (ref_int_any _ _).mono ?_; rintro e w' ⟨rfl, hbl⟩; obtain ⟨hc, hf, hz⟩ := cif hbl; (try simp only [World.size_alloc, World.size_setCell, World.size_drew, World.heap_drewN] at hz))
    | (go_at_call 38; with_reducible refine (ref_long_any _ _).mono ?_; rintro e w' ⟨rfl, hbl⟩; obtain ⟨hc, hf, hz⟩ := cif hbl; (try simp only [World.size_alloc, World.size_setCell, World.size_drew, World.heap_drewN] at hz))
    | (go_at_call 67; with_reducible refine (ref_yes_any _ _).mono ?_; rintro e w' ⟨rfl, hbl⟩; obtain ⟨hc, hf, hz⟩ := cif hbl; (try simp only [World.size_alloc, World.size_setCell, World.size_drew, World.heap_drewN] at hz))
    | (go_at_call 68; with_reducible refine (compared_any _ _ _ _).mono ?_; rintro e w' ⟨rfl, rfl⟩))
  refine wp_region_ext (by kernel_rfl) (by kernel_rfl) ?_
  repeat (first | go_big_quiet_skip | (go_big_quiet_want; go_big_quiet_op; first | go_big_quiet_on | (apply Exists.intro; refine ⟨fun W hW => ?_, ?_⟩; (focus (first
    | (go_at_call 64; with_reducible refine (ref_i64_any _ _ _ _).mono ?_; rintro e w1 ⟨rfl, hb⟩; exact ⟨rfl, Ext.next hW hb⟩)
      | (go_at_call 65; with_reducible refine (ref_i32_any _ _ _ _).mono ?_; rintro e w1 ⟨rfl, hb⟩; exact ⟨rfl, Ext.next hW hb⟩)
      | (go_at_call 66; with_reducible refine (ref_u32_any _ _ _ _).mono ?_; rintro e w1 ⟨rfl, hb⟩; exact ⟨rfl, Ext.next hW hb⟩)
      | (go_at_call 63; with_reducible refine (ref_dblx_any _ _ _ _).mono ?_; rintro e w1 ⟨rfl, hb⟩; exact ⟨rfl, Ext.next hW hb⟩)
      | (go_at_call 62; with_reducible refine (HD.out _).mono ?_; rintro e w1 ⟨rfl, hb⟩; exact ⟨rfl, Ext.next hW hb⟩)
    | exact rfl | (obtain ⟨hcW, hfW, hzW⟩ := cif (Ext.of hW); (try simp only [World.size_alloc, World.size_setCell, World.size_drew, World.heap_drewN] at hzW); simp [go_sem, *, ↓IntWalk.iteOmega]; (try exact rfl)))); go_big_quiet_on)))
  refine wpQuiet_nil ?_
  intro w' hw'
  have hbl := Ext.of hw'
  obtain ⟨hc, hf, hz⟩ := cif hbl
  (try simp only [World.size_alloc, World.size_setCell, World.size_drew, World.heap_drewN] at hz)
  clear hw'
  go_wp2_with (first
    | (go_at_call 60; with_reducible refine (HS.out _).mono ?_; rintro e w' ⟨rfl, rfl⟩)
    | (go_at_call 61; with_reducible refine (HP.out _).mono ?_; rintro e w' ⟨rfl, hbl⟩; obtain ⟨hc, hf, hz⟩ := cif hbl; (try simp only [World.size_alloc, World.size_setCell, World.size_drew, World.heap_drewN] at hz))
    | (go_at_call 69; with_reducible refine (HH.out _).mono ?_; rintro e w' ⟨rfl, hbl⟩; obtain ⟨hc, hf, hz⟩ := cif hbl; (try simp only [World.size_alloc, World.size_setCell, World.size_drew, World.heap_drewN] at hz))
    | (go_at_call 70; with_reducible refine (HW.out _).mono ?_; rintro e w' ⟨rfl, rfl⟩)
    | (go_at_call 37; with_reducible refine (ref_int_any _ _).mono ?_; rintro e w' ⟨rfl, hbl⟩; obtain ⟨hc, hf, hz⟩ := cif hbl; (try simp only [World.size_alloc, World.size_setCell, World.size_drew, World.heap_drewN] at hz))
    | (go_at_call 38; with_reducible refine (ref_long_any _ _).mono ?_; rintro e w' ⟨rfl, hbl⟩; obtain ⟨hc, hf, hz⟩ := cif hbl; (try simp only [World.size_alloc, World.size_setCell, World.size_drew, World.heap_drewN] at hz))
    | (go_at_call 67; with_reducible refine (ref_yes_any _ _).mono ?_; rintro e w' ⟨rfl, hbl⟩; obtain ⟨hc, hf, hz⟩ := cif hbl; (try simp only [World.size_alloc, World.size_setCell, World.size_drew, World.heap_drewN] at hz))
    | (go_at_call 68; with_reducible refine (compared_any _ _ _ _).mono ?_; rintro e w' ⟨rfl, rfl⟩))
  refine wp_region_ext (by kernel_rfl) (by kernel_rfl) ?_
  repeat (first | go_big_quiet_skip | (go_big_quiet_want; go_big_quiet_op; first | go_big_quiet_on | (apply Exists.intro; refine ⟨fun W hW => ?_, ?_⟩; (focus (first
    | (go_at_call 64; with_reducible refine (ref_i64_any _ _ _ _).mono ?_; rintro e w1 ⟨rfl, hb⟩; exact ⟨rfl, Ext.next hW hb⟩)
      | (go_at_call 65; with_reducible refine (ref_i32_any _ _ _ _).mono ?_; rintro e w1 ⟨rfl, hb⟩; exact ⟨rfl, Ext.next hW hb⟩)
      | (go_at_call 66; with_reducible refine (ref_u32_any _ _ _ _).mono ?_; rintro e w1 ⟨rfl, hb⟩; exact ⟨rfl, Ext.next hW hb⟩)
      | (go_at_call 63; with_reducible refine (ref_dblx_any _ _ _ _).mono ?_; rintro e w1 ⟨rfl, hb⟩; exact ⟨rfl, Ext.next hW hb⟩)
      | (go_at_call 62; with_reducible refine (HD.out _).mono ?_; rintro e w1 ⟨rfl, hb⟩; exact ⟨rfl, Ext.next hW hb⟩)
    | exact rfl | (obtain ⟨hcW, hfW, hzW⟩ := cif (Ext.of hW); (try simp only [World.size_alloc, World.size_setCell, World.size_drew, World.heap_drewN] at hzW); simp [go_sem, *, ↓IntWalk.iteOmega]; (try exact rfl)))); go_big_quiet_on)))
  refine wpQuiet_nil ?_
  intro w' hw'
  have hbl := Ext.of hw'
  obtain ⟨hc, hf, hz⟩ := cif hbl
  (try simp only [World.size_alloc, World.size_setCell, World.size_drew, World.heap_drewN] at hz)
  clear hw'
  go_wp2_with (first
    | (go_at_call 60; with_reducible refine (HS.out _).mono ?_; rintro e w' ⟨rfl, rfl⟩)
    | (go_at_call 61; with_reducible refine (HP.out _).mono ?_; rintro e w' ⟨rfl, hbl⟩; obtain ⟨hc, hf, hz⟩ := cif hbl; (try simp only [World.size_alloc, World.size_setCell, World.size_drew, World.heap_drewN] at hz))
    | (go_at_call 69; with_reducible refine (HH.out _).mono ?_; rintro e w' ⟨rfl, hbl⟩; obtain ⟨hc, hf, hz⟩ := cif hbl; (try simp only [World.size_alloc, World.size_setCell, World.size_drew, World.heap_drewN] at hz))
    | (go_at_call 70; with_reducible refine (HW.out _).mono ?_; rintro e w' ⟨rfl, rfl⟩)
    | (go_at_call 37; with_reducible refine (ref_int_any _ _).mono ?_; rintro e w' ⟨rfl, hbl⟩; obtain ⟨hc, hf, hz⟩ := cif hbl; (try simp only [World.size_alloc, World.size_setCell, World.size_drew, World.heap_drewN] at hz))
    | (go_at_call 38; with_reducible refine (ref_long_any _ _).mono ?_; rintro e w' ⟨rfl, hbl⟩; obtain ⟨hc, hf, hz⟩ := cif hbl; (try simp only [World.size_alloc, World.size_setCell, World.size_drew, World.heap_drewN] at hz))
    | (go_at_call 67; with_reducible refine (ref_yes_any _ _).mono ?_; rintro e w' ⟨rfl, hbl⟩; obtain ⟨hc, hf, hz⟩ := cif hbl; (try simp only [World.size_alloc, World.size_setCell, World.size_drew, World.heap_drewN] at hz))
    | (go_at_call 68; with_reducible refine (compared_any _ _ _ _).mono ?_; rintro e w' ⟨rfl, rfl⟩))
  all_goals (((try simp only [Exit.inBlock, Exit.then]); go_light; refine bodyPost_ret (by simp [results, Try.results48, go_sem, *, ↓IntWalk.iteOmega]; try rfl) rfl ?_); refine ⟨?_, (by (try clear hc hf); (repeat' (first | (with_reducible exact Below.refl _ _) | (with_reducible assumption) | (with_reducible refine Below.setCell ?_ ?_ _) | (with_reducible refine Below.alloc ?_ ?_ _) | (with_reducible refine Below.drew ?_) | (with_reducible refine below_drewN ?_ _) | (with_reducible refine below_next ?_ (by with_reducible assumption)) | omega | (dsimp only; omega) | (simp only [World.size_alloc, World.size_setCell, World.size_drew, World.heap_drewN]; omega))))⟩; (first | (simp [HV.out, undefV]; done) | (simp [HV.out, flagV_eq, intV, longV, beqd, wrap64_mod, wrap32_mod]; done) | (simp [HV.out, flagV_eq, intV, longV, beqd, wrap64_mod, wrap32_mod, *]; done)))
set_option maxRecDepth 100000 in
set_option maxHeartbeats 8000000 in
theorem refe_int_s (op z b1 l1 b2 l2 : Int) (r : V × Bool) (hi : I64 op) (HS : Hid (∀ w, Calls Try.prog 60 #[.int .i64 op] w fun e w' => e = .returned (.tuple #[.int .i64 1, .int .i64 1, .int .i64 z]) ∧ w = w')) (o : 16 ≤ op) (o2 : op < 22) (HV : Hid (r = (flagV (cmpd op (decide (wrap32 (b1 % 4294967296) < wrap32 (b2 % 4294967296))) (decide (b1 % 4294967296 = b2 % 4294967296))), true))) (hx : U64 b1) (hy : U64 b2) (w : World) :
    Calls Try.prog 48 #[.int .i64 op, .agg #[.int .i64 1, .int .u64 b1, .int .i64 l1], .agg #[.int .i64 1, .int .u64 b2, .int .i64 l2]] w fun e w' =>
      e = .returned (.tuple #[.agg #[.int .i64 r.1.k, .int .u64 r.1.b, .int .i64 r.1.l], .bool r.2]) ∧ Below w.heap.size w w' := by
  have hA1 := cell_alloc_if
  have hA2 := frozen_alloc_if
  have hA3 := cell_set_if
  try have hw30 : wrap64 (op - 30) = op - 30 := wrap30 _ hi (by omega)
  go_enter Try.func48, Try.ntmps48
  go_wp2_with (first
    | (go_at_call 60; with_reducible refine (HS.out _).mono ?_; rintro e w' ⟨rfl, rfl⟩)
    | (go_at_call 61; with_reducible refine (HP.out _).mono ?_; rintro e w' ⟨rfl, hbl⟩; obtain ⟨hc, hf, hz⟩ := cif hbl; (try simp only [World.size_alloc, World.size_setCell, World.size_drew, World.heap_drewN] at hz))
    | (go_at_call 69; with_reducible refine (HH.out _).mono ?_; rintro e w' ⟨rfl, hbl⟩; obtain ⟨hc, hf, hz⟩ := cif hbl; (try simp only [World.size_alloc, World.size_setCell, World.size_drew, World.heap_drewN] at hz))
    | (go_at_call 70; with_reducible refine (HW.out _).mono ?_; rintro e w' ⟨rfl, rfl⟩)
    | (go_at_call 37; with_reducible refine (ref_int_any _ _).mono ?_; rintro e w' ⟨rfl, hbl⟩; obtain ⟨hc, hf, hz⟩ := cif hbl; (try simp only [World.size_alloc, World.size_setCell, World.size_drew, World.heap_drewN] at hz))
    | (go_at_call 38; with_reducible refine (ref_long_any _ _).mono ?_; rintro e w' ⟨rfl, hbl⟩; obtain ⟨hc, hf, hz⟩ := cif hbl; (try simp only [World.size_alloc, World.size_setCell, World.size_drew, World.heap_drewN] at hz))
    | (go_at_call 67; with_reducible refine (ref_yes_any _ _).mono ?_; rintro e w' ⟨rfl, hbl⟩; obtain ⟨hc, hf, hz⟩ := cif hbl; (try simp only [World.size_alloc, World.size_setCell, World.size_drew, World.heap_drewN] at hz))
    | (go_at_call 68; with_reducible refine (compared_any _ _ _ _).mono ?_; rintro e w' ⟨rfl, rfl⟩))
  refine wp_region_ext (by kernel_rfl) (by kernel_rfl) ?_
  repeat (first | go_big_quiet_skip | (go_big_quiet_want; go_big_quiet_op; first | go_big_quiet_on | (apply Exists.intro; refine ⟨fun W hW => ?_, ?_⟩; (focus (first
    | (go_at_call 64; with_reducible refine (ref_i64_any _ _ _ _).mono ?_; rintro e w1 ⟨rfl, hb⟩; exact ⟨rfl, Ext.next hW hb⟩)
      | (go_at_call 65; with_reducible refine (ref_i32_any _ _ _ _).mono ?_; rintro e w1 ⟨rfl, hb⟩; exact ⟨rfl, Ext.next hW hb⟩)
      | (go_at_call 66; with_reducible refine (ref_u32_any _ _ _ _).mono ?_; rintro e w1 ⟨rfl, hb⟩; exact ⟨rfl, Ext.next hW hb⟩)
      | (go_at_call 63; with_reducible refine (ref_dblx_any _ _ _ _).mono ?_; rintro e w1 ⟨rfl, hb⟩; exact ⟨rfl, Ext.next hW hb⟩)
      | (go_at_call 62; with_reducible refine (HD.out _).mono ?_; rintro e w1 ⟨rfl, hb⟩; exact ⟨rfl, Ext.next hW hb⟩)
    | exact rfl | (obtain ⟨hcW, hfW, hzW⟩ := cif (Ext.of hW); (try simp only [World.size_alloc, World.size_setCell, World.size_drew, World.heap_drewN] at hzW); simp [go_sem, *, ↓IntWalk.iteOmega]; (try exact rfl)))); go_big_quiet_on)))
  refine wpQuiet_nil ?_
  intro w' hw'
  have hbl := Ext.of hw'
  obtain ⟨hc, hf, hz⟩ := cif hbl
  (try simp only [World.size_alloc, World.size_setCell, World.size_drew, World.heap_drewN] at hz)
  clear hw'
  go_wp2_with (first
    | (go_at_call 60; with_reducible refine (HS.out _).mono ?_; rintro e w' ⟨rfl, rfl⟩)
    | (go_at_call 61; with_reducible refine (HP.out _).mono ?_; rintro e w' ⟨rfl, hbl⟩; obtain ⟨hc, hf, hz⟩ := cif hbl; (try simp only [World.size_alloc, World.size_setCell, World.size_drew, World.heap_drewN] at hz))
    | (go_at_call 69; with_reducible refine (HH.out _).mono ?_; rintro e w' ⟨rfl, hbl⟩; obtain ⟨hc, hf, hz⟩ := cif hbl; (try simp only [World.size_alloc, World.size_setCell, World.size_drew, World.heap_drewN] at hz))
    | (go_at_call 70; with_reducible refine (HW.out _).mono ?_; rintro e w' ⟨rfl, rfl⟩)
    | (go_at_call 37; with_reducible refine (ref_int_any _ _).mono ?_; rintro e w' ⟨rfl, hbl⟩; obtain ⟨hc, hf, hz⟩ := cif hbl; (try simp only [World.size_alloc, World.size_setCell, World.size_drew, World.heap_drewN] at hz))
    | (go_at_call 38; with_reducible refine (ref_long_any _ _).mono ?_; rintro e w' ⟨rfl, hbl⟩; obtain ⟨hc, hf, hz⟩ := cif hbl; (try simp only [World.size_alloc, World.size_setCell, World.size_drew, World.heap_drewN] at hz))
    | (go_at_call 67; with_reducible refine (ref_yes_any _ _).mono ?_; rintro e w' ⟨rfl, hbl⟩; obtain ⟨hc, hf, hz⟩ := cif hbl; (try simp only [World.size_alloc, World.size_setCell, World.size_drew, World.heap_drewN] at hz))
    | (go_at_call 68; with_reducible refine (compared_any _ _ _ _).mono ?_; rintro e w' ⟨rfl, rfl⟩))
  refine wp_region_ext (by kernel_rfl) (by kernel_rfl) ?_
  repeat (first | go_big_quiet_skip | (go_big_quiet_want; go_big_quiet_op; first | go_big_quiet_on | (apply Exists.intro; refine ⟨fun W hW => ?_, ?_⟩; (focus (first
    | (go_at_call 64; with_reducible refine (ref_i64_any _ _ _ _).mono ?_; rintro e w1 ⟨rfl, hb⟩; exact ⟨rfl, Ext.next hW hb⟩)
      | (go_at_call 65; with_reducible refine (ref_i32_any _ _ _ _).mono ?_; rintro e w1 ⟨rfl, hb⟩; exact ⟨rfl, Ext.next hW hb⟩)
      | (go_at_call 66; with_reducible refine (ref_u32_any _ _ _ _).mono ?_; rintro e w1 ⟨rfl, hb⟩; exact ⟨rfl, Ext.next hW hb⟩)
      | (go_at_call 63; with_reducible refine (ref_dblx_any _ _ _ _).mono ?_; rintro e w1 ⟨rfl, hb⟩; exact ⟨rfl, Ext.next hW hb⟩)
      | (go_at_call 62; with_reducible refine (HD.out _).mono ?_; rintro e w1 ⟨rfl, hb⟩; exact ⟨rfl, Ext.next hW hb⟩)
    | exact rfl | (obtain ⟨hcW, hfW, hzW⟩ := cif (Ext.of hW); (try simp only [World.size_alloc, World.size_setCell, World.size_drew, World.heap_drewN] at hzW); simp [go_sem, *, ↓IntWalk.iteOmega]; (try exact rfl)))); go_big_quiet_on)))
  refine wpQuiet_nil ?_
  intro w' hw'
  have hbl := Ext.of hw'
  obtain ⟨hc, hf, hz⟩ := cif hbl
  (try simp only [World.size_alloc, World.size_setCell, World.size_drew, World.heap_drewN] at hz)
  clear hw'
  go_wp2_with (first
    | (go_at_call 60; with_reducible refine (HS.out _).mono ?_; rintro e w' ⟨rfl, rfl⟩)
    | (go_at_call 61; with_reducible refine (HP.out _).mono ?_; rintro e w' ⟨rfl, hbl⟩; obtain ⟨hc, hf, hz⟩ := cif hbl; (try simp only [World.size_alloc, World.size_setCell, World.size_drew, World.heap_drewN] at hz))
    | (go_at_call 69; with_reducible refine (HH.out _).mono ?_; rintro e w' ⟨rfl, hbl⟩; obtain ⟨hc, hf, hz⟩ := cif hbl; (try simp only [World.size_alloc, World.size_setCell, World.size_drew, World.heap_drewN] at hz))
    | (go_at_call 70; with_reducible refine (HW.out _).mono ?_; rintro e w' ⟨rfl, rfl⟩)
    | (go_at_call 37; with_reducible refine (ref_int_any _ _).mono ?_; rintro e w' ⟨rfl, hbl⟩; obtain ⟨hc, hf, hz⟩ := cif hbl; (try simp only [World.size_alloc, World.size_setCell, World.size_drew, World.heap_drewN] at hz))
    | (go_at_call 38; with_reducible refine (ref_long_any _ _).mono ?_; rintro e w' ⟨rfl, hbl⟩; obtain ⟨hc, hf, hz⟩ := cif hbl; (try simp only [World.size_alloc, World.size_setCell, World.size_drew, World.heap_drewN] at hz))
    | (go_at_call 67; with_reducible refine (ref_yes_any _ _).mono ?_; rintro e w' ⟨rfl, hbl⟩; obtain ⟨hc, hf, hz⟩ := cif hbl; (try simp only [World.size_alloc, World.size_setCell, World.size_drew, World.heap_drewN] at hz))
    | (go_at_call 68; with_reducible refine (compared_any _ _ _ _).mono ?_; rintro e w' ⟨rfl, rfl⟩))
  all_goals (((try simp only [Exit.inBlock, Exit.then]); go_light; refine bodyPost_ret (by simp [results, Try.results48, go_sem, *, ↓IntWalk.iteOmega]; try rfl) rfl ?_); refine ⟨?_, (by (try clear hc hf); (repeat' (first | (with_reducible exact Below.refl _ _) | (with_reducible assumption) | (with_reducible refine Below.setCell ?_ ?_ _) | (with_reducible refine Below.alloc ?_ ?_ _) | (with_reducible refine Below.drew ?_) | (with_reducible refine below_drewN ?_ _) | (with_reducible refine below_next ?_ (by with_reducible assumption)) | omega | (dsimp only; omega) | (simp only [World.size_alloc, World.size_setCell, World.size_drew, World.heap_drewN]; omega))))⟩; (first | (simp [HV.out, undefV]; done) | (simp [HV.out, flagV_eq, intV, longV, beqd, wrap64_mod, wrap32_mod]; done) | (simp [HV.out, flagV_eq, intV, longV, beqd, wrap64_mod, wrap32_mod, *]; done)))
set_option maxRecDepth 100000 in
set_option maxHeartbeats 8000000 in
theorem refe_long_u (op z b1 l1 b2 l2 : Int) (r : V × Bool) (hi : I64 op) (HS : Hid (∀ w, Calls Try.prog 60 #[.int .i64 op] w fun e w' => e = .returned (.tuple #[.int .i64 2, .int .i64 2, .int .i64 z]) ∧ w = w')) (o : 22 ≤ op - 30) (HV : Hid (r = (flagV (cmpd (op - 30) (decide (b1 < b2)) (decide (b1 = b2))), true))) (hx : U64 b1) (hy : U64 b2) (w : World) :
    Calls Try.prog 48 #[.int .i64 op, .agg #[.int .i64 2, .int .u64 b1, .int .i64 l1], .agg #[.int .i64 2, .int .u64 b2, .int .i64 l2]] w fun e w' =>
      e = .returned (.tuple #[.agg #[.int .i64 r.1.k, .int .u64 r.1.b, .int .i64 r.1.l], .bool r.2]) ∧ Below w.heap.size w w' := by
  have hA1 := cell_alloc_if
  have hA2 := frozen_alloc_if
  have hA3 := cell_set_if
  try have hw30 : wrap64 (op - 30) = op - 30 := wrap30 _ hi (by omega)
  go_enter Try.func48, Try.ntmps48
  go_wp2_with (first
    | (go_at_call 60; with_reducible refine (HS.out _).mono ?_; rintro e w' ⟨rfl, rfl⟩)
    | (go_at_call 61; with_reducible refine (HP.out _).mono ?_; rintro e w' ⟨rfl, hbl⟩; obtain ⟨hc, hf, hz⟩ := cif hbl; (try simp only [World.size_alloc, World.size_setCell, World.size_drew, World.heap_drewN] at hz))
    | (go_at_call 69; with_reducible refine (HH.out _).mono ?_; rintro e w' ⟨rfl, hbl⟩; obtain ⟨hc, hf, hz⟩ := cif hbl; (try simp only [World.size_alloc, World.size_setCell, World.size_drew, World.heap_drewN] at hz))
    | (go_at_call 70; with_reducible refine (HW.out _).mono ?_; rintro e w' ⟨rfl, rfl⟩)
    | (go_at_call 37; with_reducible refine (ref_int_any _ _).mono ?_; rintro e w' ⟨rfl, hbl⟩; obtain ⟨hc, hf, hz⟩ := cif hbl; (try simp only [World.size_alloc, World.size_setCell, World.size_drew, World.heap_drewN] at hz))
    | (go_at_call 38; with_reducible refine (ref_long_any _ _).mono ?_; rintro e w' ⟨rfl, hbl⟩; obtain ⟨hc, hf, hz⟩ := cif hbl; (try simp only [World.size_alloc, World.size_setCell, World.size_drew, World.heap_drewN] at hz))
    | (go_at_call 67; with_reducible refine (ref_yes_any _ _).mono ?_; rintro e w' ⟨rfl, hbl⟩; obtain ⟨hc, hf, hz⟩ := cif hbl; (try simp only [World.size_alloc, World.size_setCell, World.size_drew, World.heap_drewN] at hz))
    | (go_at_call 68; with_reducible refine (compared_any _ _ _ _).mono ?_; rintro e w' ⟨rfl, rfl⟩))
  refine wp_region_ext (by kernel_rfl) (by kernel_rfl) ?_
  repeat (first | go_big_quiet_skip | (go_big_quiet_want; go_big_quiet_op; first | go_big_quiet_on | (apply Exists.intro; refine ⟨fun W hW => ?_, ?_⟩; (focus (first
    | (go_at_call 64; with_reducible refine (ref_i64_any _ _ _ _).mono ?_; rintro e w1 ⟨rfl, hb⟩; exact ⟨rfl, Ext.next hW hb⟩)
      | (go_at_call 65; with_reducible refine (ref_i32_any _ _ _ _).mono ?_; rintro e w1 ⟨rfl, hb⟩; exact ⟨rfl, Ext.next hW hb⟩)
      | (go_at_call 66; with_reducible refine (ref_u32_any _ _ _ _).mono ?_; rintro e w1 ⟨rfl, hb⟩; exact ⟨rfl, Ext.next hW hb⟩)
      | (go_at_call 63; with_reducible refine (ref_dblx_any _ _ _ _).mono ?_; rintro e w1 ⟨rfl, hb⟩; exact ⟨rfl, Ext.next hW hb⟩)
      | (go_at_call 62; with_reducible refine (HD.out _).mono ?_; rintro e w1 ⟨rfl, hb⟩; exact ⟨rfl, Ext.next hW hb⟩)
    | exact rfl | (obtain ⟨hcW, hfW, hzW⟩ := cif (Ext.of hW); (try simp only [World.size_alloc, World.size_setCell, World.size_drew, World.heap_drewN] at hzW); simp [go_sem, *, ↓IntWalk.iteOmega]; (try exact rfl)))); go_big_quiet_on)))
  refine wpQuiet_nil ?_
  intro w' hw'
  have hbl := Ext.of hw'
  obtain ⟨hc, hf, hz⟩ := cif hbl
  (try simp only [World.size_alloc, World.size_setCell, World.size_drew, World.heap_drewN] at hz)
  clear hw'
  go_wp2_with (first
    | (go_at_call 60; with_reducible refine (HS.out _).mono ?_; rintro e w' ⟨rfl, rfl⟩)
    | (go_at_call 61; with_reducible refine (HP.out _).mono ?_; rintro e w' ⟨rfl, hbl⟩; obtain ⟨hc, hf, hz⟩ := cif hbl; (try simp only [World.size_alloc, World.size_setCell, World.size_drew, World.heap_drewN] at hz))
    | (go_at_call 69; with_reducible refine (HH.out _).mono ?_; rintro e w' ⟨rfl, hbl⟩; obtain ⟨hc, hf, hz⟩ := cif hbl; (try simp only [World.size_alloc, World.size_setCell, World.size_drew, World.heap_drewN] at hz))
    | (go_at_call 70; with_reducible refine (HW.out _).mono ?_; rintro e w' ⟨rfl, rfl⟩)
    | (go_at_call 37; with_reducible refine (ref_int_any _ _).mono ?_; rintro e w' ⟨rfl, hbl⟩; obtain ⟨hc, hf, hz⟩ := cif hbl; (try simp only [World.size_alloc, World.size_setCell, World.size_drew, World.heap_drewN] at hz))
    | (go_at_call 38; with_reducible refine (ref_long_any _ _).mono ?_; rintro e w' ⟨rfl, hbl⟩; obtain ⟨hc, hf, hz⟩ := cif hbl; (try simp only [World.size_alloc, World.size_setCell, World.size_drew, World.heap_drewN] at hz))
    | (go_at_call 67; with_reducible refine (ref_yes_any _ _).mono ?_; rintro e w' ⟨rfl, hbl⟩; obtain ⟨hc, hf, hz⟩ := cif hbl; (try simp only [World.size_alloc, World.size_setCell, World.size_drew, World.heap_drewN] at hz))
    | (go_at_call 68; with_reducible refine (compared_any _ _ _ _).mono ?_; rintro e w' ⟨rfl, rfl⟩))
  all_goals (((try simp only [Exit.inBlock, Exit.then]); go_light; refine bodyPost_ret (by simp [results, Try.results48, go_sem, *, ↓IntWalk.iteOmega]; try rfl) rfl ?_); refine ⟨?_, (by (try clear hc hf); (repeat' (first | (with_reducible exact Below.refl _ _) | (with_reducible assumption) | (with_reducible refine Below.setCell ?_ ?_ _) | (with_reducible refine Below.alloc ?_ ?_ _) | (with_reducible refine Below.drew ?_) | (with_reducible refine below_drewN ?_ _) | (with_reducible refine below_next ?_ (by with_reducible assumption)) | omega | (dsimp only; omega) | (simp only [World.size_alloc, World.size_setCell, World.size_drew, World.heap_drewN]; omega))))⟩; (first | (simp [HV.out, undefV]; done) | (simp [HV.out, flagV_eq, intV, longV, beqd, wrap64_mod, wrap32_mod]; done) | (simp [HV.out, flagV_eq, intV, longV, beqd, wrap64_mod, wrap32_mod, *]; done)))
set_option maxRecDepth 100000 in
set_option maxHeartbeats 8000000 in
theorem refe_long_s (op z b1 l1 b2 l2 : Int) (r : V × Bool) (hi : I64 op) (HS : Hid (∀ w, Calls Try.prog 60 #[.int .i64 op] w fun e w' => e = .returned (.tuple #[.int .i64 2, .int .i64 2, .int .i64 z]) ∧ w = w')) (o : 16 ≤ op - 30) (o2 : op - 30 < 22) (HV : Hid (r = (flagV (cmpd (op - 30) (decide (wrap64 b1 < wrap64 b2)) (decide (b1 = b2))), true))) (hx : U64 b1) (hy : U64 b2) (w : World) :
    Calls Try.prog 48 #[.int .i64 op, .agg #[.int .i64 2, .int .u64 b1, .int .i64 l1], .agg #[.int .i64 2, .int .u64 b2, .int .i64 l2]] w fun e w' =>
      e = .returned (.tuple #[.agg #[.int .i64 r.1.k, .int .u64 r.1.b, .int .i64 r.1.l], .bool r.2]) ∧ Below w.heap.size w w' := by
  have hA1 := cell_alloc_if
  have hA2 := frozen_alloc_if
  have hA3 := cell_set_if
  try have hw30 : wrap64 (op - 30) = op - 30 := wrap30 _ hi (by omega)
  go_enter Try.func48, Try.ntmps48
  go_wp2_with (first
    | (go_at_call 60; with_reducible refine (HS.out _).mono ?_; rintro e w' ⟨rfl, rfl⟩)
    | (go_at_call 61; with_reducible refine (HP.out _).mono ?_; rintro e w' ⟨rfl, hbl⟩; obtain ⟨hc, hf, hz⟩ := cif hbl; (try simp only [World.size_alloc, World.size_setCell, World.size_drew, World.heap_drewN] at hz))
    | (go_at_call 69; with_reducible refine (HH.out _).mono ?_; rintro e w' ⟨rfl, hbl⟩; obtain ⟨hc, hf, hz⟩ := cif hbl; (try simp only [World.size_alloc, World.size_setCell, World.size_drew, World.heap_drewN] at hz))
    | (go_at_call 70; with_reducible refine (HW.out _).mono ?_; rintro e w' ⟨rfl, rfl⟩)
    | (go_at_call 37; with_reducible refine (ref_int_any _ _).mono ?_; rintro e w' ⟨rfl, hbl⟩; obtain ⟨hc, hf, hz⟩ := cif hbl; (try simp only [World.size_alloc, World.size_setCell, World.size_drew, World.heap_drewN] at hz))
    | (go_at_call 38; with_reducible refine (ref_long_any _ _).mono ?_; rintro e w' ⟨rfl, hbl⟩; obtain ⟨hc, hf, hz⟩ := cif hbl; (try simp only [World.size_alloc, World.size_setCell, World.size_drew, World.heap_drewN] at hz))
    | (go_at_call 67; with_reducible refine (ref_yes_any _ _).mono ?_; rintro e w' ⟨rfl, hbl⟩; obtain ⟨hc, hf, hz⟩ := cif hbl; (try simp only [World.size_alloc, World.size_setCell, World.size_drew, World.heap_drewN] at hz))
    | (go_at_call 68; with_reducible refine (compared_any _ _ _ _).mono ?_; rintro e w' ⟨rfl, rfl⟩))
  refine wp_region_ext (by kernel_rfl) (by kernel_rfl) ?_
  repeat (first | go_big_quiet_skip | (go_big_quiet_want; go_big_quiet_op; first | go_big_quiet_on | (apply Exists.intro; refine ⟨fun W hW => ?_, ?_⟩; (focus (first
    | (go_at_call 64; with_reducible refine (ref_i64_any _ _ _ _).mono ?_; rintro e w1 ⟨rfl, hb⟩; exact ⟨rfl, Ext.next hW hb⟩)
      | (go_at_call 65; with_reducible refine (ref_i32_any _ _ _ _).mono ?_; rintro e w1 ⟨rfl, hb⟩; exact ⟨rfl, Ext.next hW hb⟩)
      | (go_at_call 66; with_reducible refine (ref_u32_any _ _ _ _).mono ?_; rintro e w1 ⟨rfl, hb⟩; exact ⟨rfl, Ext.next hW hb⟩)
      | (go_at_call 63; with_reducible refine (ref_dblx_any _ _ _ _).mono ?_; rintro e w1 ⟨rfl, hb⟩; exact ⟨rfl, Ext.next hW hb⟩)
      | (go_at_call 62; with_reducible refine (HD.out _).mono ?_; rintro e w1 ⟨rfl, hb⟩; exact ⟨rfl, Ext.next hW hb⟩)
    | exact rfl | (obtain ⟨hcW, hfW, hzW⟩ := cif (Ext.of hW); (try simp only [World.size_alloc, World.size_setCell, World.size_drew, World.heap_drewN] at hzW); simp [go_sem, *, ↓IntWalk.iteOmega]; (try exact rfl)))); go_big_quiet_on)))
  refine wpQuiet_nil ?_
  intro w' hw'
  have hbl := Ext.of hw'
  obtain ⟨hc, hf, hz⟩ := cif hbl
  (try simp only [World.size_alloc, World.size_setCell, World.size_drew, World.heap_drewN] at hz)
  clear hw'
  go_wp2_with (first
    | (go_at_call 60; with_reducible refine (HS.out _).mono ?_; rintro e w' ⟨rfl, rfl⟩)
    | (go_at_call 61; with_reducible refine (HP.out _).mono ?_; rintro e w' ⟨rfl, hbl⟩; obtain ⟨hc, hf, hz⟩ := cif hbl; (try simp only [World.size_alloc, World.size_setCell, World.size_drew, World.heap_drewN] at hz))
    | (go_at_call 69; with_reducible refine (HH.out _).mono ?_; rintro e w' ⟨rfl, hbl⟩; obtain ⟨hc, hf, hz⟩ := cif hbl; (try simp only [World.size_alloc, World.size_setCell, World.size_drew, World.heap_drewN] at hz))
    | (go_at_call 70; with_reducible refine (HW.out _).mono ?_; rintro e w' ⟨rfl, rfl⟩)
    | (go_at_call 37; with_reducible refine (ref_int_any _ _).mono ?_; rintro e w' ⟨rfl, hbl⟩; obtain ⟨hc, hf, hz⟩ := cif hbl; (try simp only [World.size_alloc, World.size_setCell, World.size_drew, World.heap_drewN] at hz))
    | (go_at_call 38; with_reducible refine (ref_long_any _ _).mono ?_; rintro e w' ⟨rfl, hbl⟩; obtain ⟨hc, hf, hz⟩ := cif hbl; (try simp only [World.size_alloc, World.size_setCell, World.size_drew, World.heap_drewN] at hz))
    | (go_at_call 67; with_reducible refine (ref_yes_any _ _).mono ?_; rintro e w' ⟨rfl, hbl⟩; obtain ⟨hc, hf, hz⟩ := cif hbl; (try simp only [World.size_alloc, World.size_setCell, World.size_drew, World.heap_drewN] at hz))
    | (go_at_call 68; with_reducible refine (compared_any _ _ _ _).mono ?_; rintro e w' ⟨rfl, rfl⟩))
  all_goals (((try simp only [Exit.inBlock, Exit.then]); go_light; refine bodyPost_ret (by simp [results, Try.results48, go_sem, *, ↓IntWalk.iteOmega]; try rfl) rfl ?_); refine ⟨?_, (by (try clear hc hf); (repeat' (first | (with_reducible exact Below.refl _ _) | (with_reducible assumption) | (with_reducible refine Below.setCell ?_ ?_ _) | (with_reducible refine Below.alloc ?_ ?_ _) | (with_reducible refine Below.drew ?_) | (with_reducible refine below_drewN ?_ _) | (with_reducible refine below_next ?_ (by with_reducible assumption)) | omega | (dsimp only; omega) | (simp only [World.size_alloc, World.size_setCell, World.size_drew, World.heap_drewN]; omega))))⟩; (first | (simp [HV.out, undefV]; done) | (simp [HV.out, flagV_eq, intV, longV, beqd, wrap64_mod, wrap32_mod]; done) | (simp [HV.out, flagV_eq, intV, longV, beqd, wrap64_mod, wrap32_mod, *]; done)))
-- shifts
set_option maxRecDepth 100000 in
set_option maxHeartbeats 8000000 in
theorem refe_int_sh (op z n b1 l1 b2 l2 : Int) (r : V × Bool) (hi : I64 op) (HS : Hid (∀ w, Calls Try.prog 60 #[.int .i64 op] w fun e w' => e = .returned (.tuple #[.int .i64 1, .int .i64 1, .int .i64 z]) ∧ w = w')) (o : 13 ≤ op) (o2 : op < 16) (HV : Hid (r = (intV n, true))) (HH : Hid (∀ w, Calls Try.prog 69 #[.int .i64 op, .int .u64 b1, .agg #[.int .i64 1, .int .u64 b2, .int .i64 l2], .int .i64 32] w fun e w' => e = .returned (.tuple #[.int .u64 (n % 18446744073709551616), .bool true]) ∧ Below w.heap.size w w')) (hx : U64 b1) (hy : U64 b2) (w : World) :
    Calls Try.prog 48 #[.int .i64 op, .agg #[.int .i64 1, .int .u64 b1, .int .i64 l1], .agg #[.int .i64 1, .int .u64 b2, .int .i64 l2]] w fun e w' =>
      e = .returned (.tuple #[.agg #[.int .i64 r.1.k, .int .u64 r.1.b, .int .i64 r.1.l], .bool r.2]) ∧ Below w.heap.size w w' := by
  have hA1 := cell_alloc_if
  have hA2 := frozen_alloc_if
  have hA3 := cell_set_if
  try have hw30 : wrap64 (op - 30) = op - 30 := wrap30 _ hi (by omega)
  go_enter Try.func48, Try.ntmps48
  go_wp2_with (first
    | (go_at_call 60; with_reducible refine (HS.out _).mono ?_; rintro e w' ⟨rfl, rfl⟩)
    | (go_at_call 61; with_reducible refine (HP.out _).mono ?_; rintro e w' ⟨rfl, hbl⟩; obtain ⟨hc, hf, hz⟩ := cif hbl; (try simp only [World.size_alloc, World.size_setCell, World.size_drew, World.heap_drewN] at hz))
    | (go_at_call 69; with_reducible refine (HH.out _).mono ?_; rintro e w' ⟨rfl, hbl⟩; obtain ⟨hc, hf, hz⟩ := cif hbl; (try simp only [World.size_alloc, World.size_setCell, World.size_drew, World.heap_drewN] at hz))
    | (go_at_call 70; with_reducible refine (HW.out _).mono ?_; rintro e w' ⟨rfl, rfl⟩)
    | (go_at_call 37; with_reducible refine (ref_int_any _ _).mono ?_; rintro e w' ⟨rfl, hbl⟩; obtain ⟨hc, hf, hz⟩ := cif hbl; (try simp only [World.size_alloc, World.size_setCell, World.size_drew, World.heap_drewN] at hz))
    | (go_at_call 38; with_reducible refine (ref_long_any _ _).mono ?_; rintro e w' ⟨rfl, hbl⟩; obtain ⟨hc, hf, hz⟩ := cif hbl; (try simp only [World.size_alloc, World.size_setCell, World.size_drew, World.heap_drewN] at hz))
    | (go_at_call 67; with_reducible refine (ref_yes_any _ _).mono ?_; rintro e w' ⟨rfl, hbl⟩; obtain ⟨hc, hf, hz⟩ := cif hbl; (try simp only [World.size_alloc, World.size_setCell, World.size_drew, World.heap_drewN] at hz))
    | (go_at_call 68; with_reducible refine (compared_any _ _ _ _).mono ?_; rintro e w' ⟨rfl, rfl⟩))
  all_goals (((try simp only [Exit.inBlock, Exit.then]); go_light; refine bodyPost_ret (by simp [results, Try.results48, go_sem, *, ↓IntWalk.iteOmega]; try rfl) rfl ?_); refine ⟨?_, (by (try clear hc hf); (repeat' (first | (with_reducible exact Below.refl _ _) | (with_reducible assumption) | (with_reducible refine Below.setCell ?_ ?_ _) | (with_reducible refine Below.alloc ?_ ?_ _) | (with_reducible refine Below.drew ?_) | (with_reducible refine below_drewN ?_ _) | (with_reducible refine below_next ?_ (by with_reducible assumption)) | omega | (dsimp only; omega) | (simp only [World.size_alloc, World.size_setCell, World.size_drew, World.heap_drewN]; omega))))⟩; (first | (simp [HV.out, undefV]; done) | (simp [HV.out, flagV_eq, intV, longV, beqd, wrap64_mod, wrap32_mod]; done) | (simp [HV.out, flagV_eq, intV, longV, beqd, wrap64_mod, wrap32_mod, *]; done)))
set_option maxRecDepth 100000 in
set_option maxHeartbeats 8000000 in
theorem refe_int_shn (op z b1 l1 b2 l2 : Int) (r : V × Bool) (hi : I64 op) (HS : Hid (∀ w, Calls Try.prog 60 #[.int .i64 op] w fun e w' => e = .returned (.tuple #[.int .i64 1, .int .i64 1, .int .i64 z]) ∧ w = w')) (o : 13 ≤ op) (o2 : op < 16) (HV : Hid (r = (undefV, false))) (HH : Hid (∀ w, Calls Try.prog 69 #[.int .i64 op, .int .u64 b1, .agg #[.int .i64 1, .int .u64 b2, .int .i64 l2], .int .i64 32] w fun e w' => e = .returned (.tuple #[.int .u64 0, .bool false]) ∧ Below w.heap.size w w')) (hx : U64 b1) (hy : U64 b2) (w : World) :
    Calls Try.prog 48 #[.int .i64 op, .agg #[.int .i64 1, .int .u64 b1, .int .i64 l1], .agg #[.int .i64 1, .int .u64 b2, .int .i64 l2]] w fun e w' =>
      e = .returned (.tuple #[.agg #[.int .i64 r.1.k, .int .u64 r.1.b, .int .i64 r.1.l], .bool r.2]) ∧ Below w.heap.size w w' := by
  have hA1 := cell_alloc_if
  have hA2 := frozen_alloc_if
  have hA3 := cell_set_if
  try have hw30 : wrap64 (op - 30) = op - 30 := wrap30 _ hi (by omega)
  go_enter Try.func48, Try.ntmps48
  go_wp2_with (first
    | (go_at_call 60; with_reducible refine (HS.out _).mono ?_; rintro e w' ⟨rfl, rfl⟩)
    | (go_at_call 61; with_reducible refine (HP.out _).mono ?_; rintro e w' ⟨rfl, hbl⟩; obtain ⟨hc, hf, hz⟩ := cif hbl; (try simp only [World.size_alloc, World.size_setCell, World.size_drew, World.heap_drewN] at hz))
    | (go_at_call 69; with_reducible refine (HH.out _).mono ?_; rintro e w' ⟨rfl, hbl⟩; obtain ⟨hc, hf, hz⟩ := cif hbl; (try simp only [World.size_alloc, World.size_setCell, World.size_drew, World.heap_drewN] at hz))
    | (go_at_call 70; with_reducible refine (HW.out _).mono ?_; rintro e w' ⟨rfl, rfl⟩)
    | (go_at_call 37; with_reducible refine (ref_int_any _ _).mono ?_; rintro e w' ⟨rfl, hbl⟩; obtain ⟨hc, hf, hz⟩ := cif hbl; (try simp only [World.size_alloc, World.size_setCell, World.size_drew, World.heap_drewN] at hz))
    | (go_at_call 38; with_reducible refine (ref_long_any _ _).mono ?_; rintro e w' ⟨rfl, hbl⟩; obtain ⟨hc, hf, hz⟩ := cif hbl; (try simp only [World.size_alloc, World.size_setCell, World.size_drew, World.heap_drewN] at hz))
    | (go_at_call 67; with_reducible refine (ref_yes_any _ _).mono ?_; rintro e w' ⟨rfl, hbl⟩; obtain ⟨hc, hf, hz⟩ := cif hbl; (try simp only [World.size_alloc, World.size_setCell, World.size_drew, World.heap_drewN] at hz))
    | (go_at_call 68; with_reducible refine (compared_any _ _ _ _).mono ?_; rintro e w' ⟨rfl, rfl⟩))
  all_goals (((try simp only [Exit.inBlock, Exit.then]); go_light; refine bodyPost_ret (by simp [results, Try.results48, go_sem, *, ↓IntWalk.iteOmega]; try rfl) rfl ?_); refine ⟨?_, (by (try clear hc hf); (repeat' (first | (with_reducible exact Below.refl _ _) | (with_reducible assumption) | (with_reducible refine Below.setCell ?_ ?_ _) | (with_reducible refine Below.alloc ?_ ?_ _) | (with_reducible refine Below.drew ?_) | (with_reducible refine below_drewN ?_ _) | (with_reducible refine below_next ?_ (by with_reducible assumption)) | omega | (dsimp only; omega) | (simp only [World.size_alloc, World.size_setCell, World.size_drew, World.heap_drewN]; omega))))⟩; (first | (simp [HV.out, undefV]; done) | (simp [HV.out, flagV_eq, intV, longV, beqd, wrap64_mod, wrap32_mod]; done) | (simp [HV.out, flagV_eq, intV, longV, beqd, wrap64_mod, wrap32_mod, *]; done)))
set_option maxRecDepth 100000 in
set_option maxHeartbeats 8000000 in
theorem refe_long_sh (op z n b1 l1 b2 l2 : Int) (r : V × Bool) (hi : I64 op) (HS : Hid (∀ w, Calls Try.prog 60 #[.int .i64 op] w fun e w' => e = .returned (.tuple #[.int .i64 2, .int .i64 1, .int .i64 z]) ∧ w = w')) (o : 13 ≤ op - 30) (o2 : op - 30 < 16) (HV : Hid (r = (longV n, true))) (HH : Hid (∀ w, Calls Try.prog 69 #[.int .i64 (op - 30), .int .u64 b1, .agg #[.int .i64 1, .int .u64 b2, .int .i64 l2], .int .i64 64] w fun e w' => e = .returned (.tuple #[.int .u64 (n % 18446744073709551616), .bool true]) ∧ Below w.heap.size w w')) (hx : U64 b1) (hy : U64 b2) (w : World) :
    Calls Try.prog 48 #[.int .i64 op, .agg #[.int .i64 2, .int .u64 b1, .int .i64 l1], .agg #[.int .i64 1, .int .u64 b2, .int .i64 l2]] w fun e w' =>
      e = .returned (.tuple #[.agg #[.int .i64 r.1.k, .int .u64 r.1.b, .int .i64 r.1.l], .bool r.2]) ∧ Below w.heap.size w w' := by
  have hA1 := cell_alloc_if
  have hA2 := frozen_alloc_if
  have hA3 := cell_set_if
  try have hw30 : wrap64 (op - 30) = op - 30 := wrap30 _ hi (by omega)
  go_enter Try.func48, Try.ntmps48
  go_wp2_with (first
    | (go_at_call 60; with_reducible refine (HS.out _).mono ?_; rintro e w' ⟨rfl, rfl⟩)
    | (go_at_call 61; with_reducible refine (HP.out _).mono ?_; rintro e w' ⟨rfl, hbl⟩; obtain ⟨hc, hf, hz⟩ := cif hbl; (try simp only [World.size_alloc, World.size_setCell, World.size_drew, World.heap_drewN] at hz))
    | (go_at_call 69; with_reducible refine (HH.out _).mono ?_; rintro e w' ⟨rfl, hbl⟩; obtain ⟨hc, hf, hz⟩ := cif hbl; (try simp only [World.size_alloc, World.size_setCell, World.size_drew, World.heap_drewN] at hz))
    | (go_at_call 70; with_reducible refine (HW.out _).mono ?_; rintro e w' ⟨rfl, rfl⟩)
    | (go_at_call 37; with_reducible refine (ref_int_any _ _).mono ?_; rintro e w' ⟨rfl, hbl⟩; obtain ⟨hc, hf, hz⟩ := cif hbl; (try simp only [World.size_alloc, World.size_setCell, World.size_drew, World.heap_drewN] at hz))
    | (go_at_call 38; with_reducible refine (ref_long_any _ _).mono ?_; rintro e w' ⟨rfl, hbl⟩; obtain ⟨hc, hf, hz⟩ := cif hbl; (try simp only [World.size_alloc, World.size_setCell, World.size_drew, World.heap_drewN] at hz))
    | (go_at_call 67; with_reducible refine (ref_yes_any _ _).mono ?_; rintro e w' ⟨rfl, hbl⟩; obtain ⟨hc, hf, hz⟩ := cif hbl; (try simp only [World.size_alloc, World.size_setCell, World.size_drew, World.heap_drewN] at hz))
    | (go_at_call 68; with_reducible refine (compared_any _ _ _ _).mono ?_; rintro e w' ⟨rfl, rfl⟩))
  all_goals (((try simp only [Exit.inBlock, Exit.then]); go_light; refine bodyPost_ret (by simp [results, Try.results48, go_sem, *, ↓IntWalk.iteOmega]; try rfl) rfl ?_); refine ⟨?_, (by (try clear hc hf); (repeat' (first | (with_reducible exact Below.refl _ _) | (with_reducible assumption) | (with_reducible refine Below.setCell ?_ ?_ _) | (with_reducible refine Below.alloc ?_ ?_ _) | (with_reducible refine Below.drew ?_) | (with_reducible refine below_drewN ?_ _) | (with_reducible refine below_next ?_ (by with_reducible assumption)) | omega | (dsimp only; omega) | (simp only [World.size_alloc, World.size_setCell, World.size_drew, World.heap_drewN]; omega))))⟩; (first | (simp [HV.out, undefV]; done) | (simp [HV.out, flagV_eq, intV, longV, beqd, wrap64_mod, wrap32_mod]; done) | (simp [HV.out, flagV_eq, intV, longV, beqd, wrap64_mod, wrap32_mod, *]; done)))
set_option maxRecDepth 100000 in
set_option maxHeartbeats 8000000 in
theorem refe_long_shn (op z b1 l1 b2 l2 : Int) (r : V × Bool) (hi : I64 op) (HS : Hid (∀ w, Calls Try.prog 60 #[.int .i64 op] w fun e w' => e = .returned (.tuple #[.int .i64 2, .int .i64 1, .int .i64 z]) ∧ w = w')) (o : 13 ≤ op - 30) (o2 : op - 30 < 16) (HV : Hid (r = (undefV, false))) (HH : Hid (∀ w, Calls Try.prog 69 #[.int .i64 (op - 30), .int .u64 b1, .agg #[.int .i64 1, .int .u64 b2, .int .i64 l2], .int .i64 64] w fun e w' => e = .returned (.tuple #[.int .u64 0, .bool false]) ∧ Below w.heap.size w w')) (hx : U64 b1) (hy : U64 b2) (w : World) :
    Calls Try.prog 48 #[.int .i64 op, .agg #[.int .i64 2, .int .u64 b1, .int .i64 l1], .agg #[.int .i64 1, .int .u64 b2, .int .i64 l2]] w fun e w' =>
      e = .returned (.tuple #[.agg #[.int .i64 r.1.k, .int .u64 r.1.b, .int .i64 r.1.l], .bool r.2]) ∧ Below w.heap.size w w' := by
  have hA1 := cell_alloc_if
  have hA2 := frozen_alloc_if
  have hA3 := cell_set_if
  try have hw30 : wrap64 (op - 30) = op - 30 := wrap30 _ hi (by omega)
  go_enter Try.func48, Try.ntmps48
  go_wp2_with (first
    | (go_at_call 60; with_reducible refine (HS.out _).mono ?_; rintro e w' ⟨rfl, rfl⟩)
    | (go_at_call 61; with_reducible refine (HP.out _).mono ?_; rintro e w' ⟨rfl, hbl⟩; obtain ⟨hc, hf, hz⟩ := cif hbl; (try simp only [World.size_alloc, World.size_setCell, World.size_drew, World.heap_drewN] at hz))
    | (go_at_call 69; with_reducible refine (HH.out _).mono ?_; rintro e w' ⟨rfl, hbl⟩; obtain ⟨hc, hf, hz⟩ := cif hbl; (try simp only [World.size_alloc, World.size_setCell, World.size_drew, World.heap_drewN] at hz))
    | (go_at_call 70; with_reducible refine (HW.out _).mono ?_; rintro e w' ⟨rfl, rfl⟩)
    | (go_at_call 37; with_reducible refine (ref_int_any _ _).mono ?_; rintro e w' ⟨rfl, hbl⟩; obtain ⟨hc, hf, hz⟩ := cif hbl; (try simp only [World.size_alloc, World.size_setCell, World.size_drew, World.heap_drewN] at hz))
    | (go_at_call 38; with_reducible refine (ref_long_any _ _).mono ?_; rintro e w' ⟨rfl, hbl⟩; obtain ⟨hc, hf, hz⟩ := cif hbl; (try simp only [World.size_alloc, World.size_setCell, World.size_drew, World.heap_drewN] at hz))
    | (go_at_call 67; with_reducible refine (ref_yes_any _ _).mono ?_; rintro e w' ⟨rfl, hbl⟩; obtain ⟨hc, hf, hz⟩ := cif hbl; (try simp only [World.size_alloc, World.size_setCell, World.size_drew, World.heap_drewN] at hz))
    | (go_at_call 68; with_reducible refine (compared_any _ _ _ _).mono ?_; rintro e w' ⟨rfl, rfl⟩))
  all_goals (((try simp only [Exit.inBlock, Exit.then]); go_light; refine bodyPost_ret (by simp [results, Try.results48, go_sem, *, ↓IntWalk.iteOmega]; try rfl) rfl ?_); refine ⟨?_, (by (try clear hc hf); (repeat' (first | (with_reducible exact Below.refl _ _) | (with_reducible assumption) | (with_reducible refine Below.setCell ?_ ?_ _) | (with_reducible refine Below.alloc ?_ ?_ _) | (with_reducible refine Below.drew ?_) | (with_reducible refine below_drewN ?_ _) | (with_reducible refine below_next ?_ (by with_reducible assumption)) | omega | (dsimp only; omega) | (simp only [World.size_alloc, World.size_setCell, World.size_drew, World.heap_drewN]; omega))))⟩; (first | (simp [HV.out, undefV]; done) | (simp [HV.out, flagV_eq, intV, longV, beqd, wrap64_mod, wrap32_mod]; done) | (simp [HV.out, flagV_eq, intV, longV, beqd, wrap64_mod, wrap32_mod, *]; done)))
-- whole numbers
set_option maxRecDepth 100000 in
set_option maxHeartbeats 8000000 in
theorem refe_int_wh (op z n b1 l1 b2 l2 : Int) (r : V × Bool) (hi : I64 op) (HS : Hid (∀ w, Calls Try.prog 60 #[.int .i64 op] w fun e w' => e = .returned (.tuple #[.int .i64 1, .int .i64 1, .int .i64 z]) ∧ w = w')) (o : op < 13) (hl : 0 ≤ op) (HV : Hid (r = (intV n, true))) (HW : Hid (∀ w, Calls Try.prog 70 #[.int .i64 op, .int .u64 b1, .int .u64 b2, .int .i64 32] w fun e w' => e = .returned (.tuple #[.int .u64 (n % 18446744073709551616), .bool true]) ∧ w = w')) (hx : U64 b1) (hy : U64 b2) (w : World) :
    Calls Try.prog 48 #[.int .i64 op, .agg #[.int .i64 1, .int .u64 b1, .int .i64 l1], .agg #[.int .i64 1, .int .u64 b2, .int .i64 l2]] w fun e w' =>
      e = .returned (.tuple #[.agg #[.int .i64 r.1.k, .int .u64 r.1.b, .int .i64 r.1.l], .bool r.2]) ∧ Below w.heap.size w w' := by
  have hA1 := cell_alloc_if
  have hA2 := frozen_alloc_if
  have hA3 := cell_set_if
  try have hw30 : wrap64 (op - 30) = op - 30 := wrap30 _ hi (by omega)
  go_enter Try.func48, Try.ntmps48
  go_wp2_with (first
    | (go_at_call 60; with_reducible refine (HS.out _).mono ?_; rintro e w' ⟨rfl, rfl⟩)
    | (go_at_call 61; with_reducible refine (HP.out _).mono ?_; rintro e w' ⟨rfl, hbl⟩; obtain ⟨hc, hf, hz⟩ := cif hbl; (try simp only [World.size_alloc, World.size_setCell, World.size_drew, World.heap_drewN] at hz))
    | (go_at_call 69; with_reducible refine (HH.out _).mono ?_; rintro e w' ⟨rfl, hbl⟩; obtain ⟨hc, hf, hz⟩ := cif hbl; (try simp only [World.size_alloc, World.size_setCell, World.size_drew, World.heap_drewN] at hz))
    | (go_at_call 70; with_reducible refine (HW.out _).mono ?_; rintro e w' ⟨rfl, rfl⟩)
    | (go_at_call 37; with_reducible refine (ref_int_any _ _).mono ?_; rintro e w' ⟨rfl, hbl⟩; obtain ⟨hc, hf, hz⟩ := cif hbl; (try simp only [World.size_alloc, World.size_setCell, World.size_drew, World.heap_drewN] at hz))
    | (go_at_call 38; with_reducible refine (ref_long_any _ _).mono ?_; rintro e w' ⟨rfl, hbl⟩; obtain ⟨hc, hf, hz⟩ := cif hbl; (try simp only [World.size_alloc, World.size_setCell, World.size_drew, World.heap_drewN] at hz))
    | (go_at_call 67; with_reducible refine (ref_yes_any _ _).mono ?_; rintro e w' ⟨rfl, hbl⟩; obtain ⟨hc, hf, hz⟩ := cif hbl; (try simp only [World.size_alloc, World.size_setCell, World.size_drew, World.heap_drewN] at hz))
    | (go_at_call 68; with_reducible refine (compared_any _ _ _ _).mono ?_; rintro e w' ⟨rfl, rfl⟩))
  all_goals (((try simp only [Exit.inBlock, Exit.then]); go_light; refine bodyPost_ret (by simp [results, Try.results48, go_sem, *, ↓IntWalk.iteOmega]; try rfl) rfl ?_); refine ⟨?_, (by (try clear hc hf); (repeat' (first | (with_reducible exact Below.refl _ _) | (with_reducible assumption) | (with_reducible refine Below.setCell ?_ ?_ _) | (with_reducible refine Below.alloc ?_ ?_ _) | (with_reducible refine Below.drew ?_) | (with_reducible refine below_drewN ?_ _) | (with_reducible refine below_next ?_ (by with_reducible assumption)) | omega | (dsimp only; omega) | (simp only [World.size_alloc, World.size_setCell, World.size_drew, World.heap_drewN]; omega))))⟩; (first | (simp [HV.out, undefV]; done) | (simp [HV.out, flagV_eq, intV, longV, beqd, wrap64_mod, wrap32_mod]; done) | (simp [HV.out, flagV_eq, intV, longV, beqd, wrap64_mod, wrap32_mod, *]; done)))
set_option maxRecDepth 100000 in
set_option maxHeartbeats 8000000 in
theorem refe_int_whn (op z n b1 l1 b2 l2 : Int) (r : V × Bool) (hi : I64 op) (HS : Hid (∀ w, Calls Try.prog 60 #[.int .i64 op] w fun e w' => e = .returned (.tuple #[.int .i64 1, .int .i64 1, .int .i64 z]) ∧ w = w')) (o : op < 13) (hl : 0 ≤ op) (HV : Hid (r = (undefV, false))) (HW : Hid (∀ w, Calls Try.prog 70 #[.int .i64 op, .int .u64 b1, .int .u64 b2, .int .i64 32] w fun e w' => e = .returned (.tuple #[.int .u64 n, .bool false]) ∧ w = w')) (hx : U64 b1) (hy : U64 b2) (w : World) :
    Calls Try.prog 48 #[.int .i64 op, .agg #[.int .i64 1, .int .u64 b1, .int .i64 l1], .agg #[.int .i64 1, .int .u64 b2, .int .i64 l2]] w fun e w' =>
      e = .returned (.tuple #[.agg #[.int .i64 r.1.k, .int .u64 r.1.b, .int .i64 r.1.l], .bool r.2]) ∧ Below w.heap.size w w' := by
  have hA1 := cell_alloc_if
  have hA2 := frozen_alloc_if
  have hA3 := cell_set_if
  try have hw30 : wrap64 (op - 30) = op - 30 := wrap30 _ hi (by omega)
  go_enter Try.func48, Try.ntmps48
  go_wp2_with (first
    | (go_at_call 60; with_reducible refine (HS.out _).mono ?_; rintro e w' ⟨rfl, rfl⟩)
    | (go_at_call 61; with_reducible refine (HP.out _).mono ?_; rintro e w' ⟨rfl, hbl⟩; obtain ⟨hc, hf, hz⟩ := cif hbl; (try simp only [World.size_alloc, World.size_setCell, World.size_drew, World.heap_drewN] at hz))
    | (go_at_call 69; with_reducible refine (HH.out _).mono ?_; rintro e w' ⟨rfl, hbl⟩; obtain ⟨hc, hf, hz⟩ := cif hbl; (try simp only [World.size_alloc, World.size_setCell, World.size_drew, World.heap_drewN] at hz))
    | (go_at_call 70; with_reducible refine (HW.out _).mono ?_; rintro e w' ⟨rfl, rfl⟩)
    | (go_at_call 37; with_reducible refine (ref_int_any _ _).mono ?_; rintro e w' ⟨rfl, hbl⟩; obtain ⟨hc, hf, hz⟩ := cif hbl; (try simp only [World.size_alloc, World.size_setCell, World.size_drew, World.heap_drewN] at hz))
    | (go_at_call 38; with_reducible refine (ref_long_any _ _).mono ?_; rintro e w' ⟨rfl, hbl⟩; obtain ⟨hc, hf, hz⟩ := cif hbl; (try simp only [World.size_alloc, World.size_setCell, World.size_drew, World.heap_drewN] at hz))
    | (go_at_call 67; with_reducible refine (ref_yes_any _ _).mono ?_; rintro e w' ⟨rfl, hbl⟩; obtain ⟨hc, hf, hz⟩ := cif hbl; (try simp only [World.size_alloc, World.size_setCell, World.size_drew, World.heap_drewN] at hz))
    | (go_at_call 68; with_reducible refine (compared_any _ _ _ _).mono ?_; rintro e w' ⟨rfl, rfl⟩))
  all_goals (((try simp only [Exit.inBlock, Exit.then]); go_light; refine bodyPost_ret (by simp [results, Try.results48, go_sem, *, ↓IntWalk.iteOmega]; try rfl) rfl ?_); refine ⟨?_, (by (try clear hc hf); (repeat' (first | (with_reducible exact Below.refl _ _) | (with_reducible assumption) | (with_reducible refine Below.setCell ?_ ?_ _) | (with_reducible refine Below.alloc ?_ ?_ _) | (with_reducible refine Below.drew ?_) | (with_reducible refine below_drewN ?_ _) | (with_reducible refine below_next ?_ (by with_reducible assumption)) | omega | (dsimp only; omega) | (simp only [World.size_alloc, World.size_setCell, World.size_drew, World.heap_drewN]; omega))))⟩; (first | (simp [HV.out, undefV]; done) | (simp [HV.out, flagV_eq, intV, longV, beqd, wrap64_mod, wrap32_mod]; done) | (simp [HV.out, flagV_eq, intV, longV, beqd, wrap64_mod, wrap32_mod, *]; done)))
set_option maxRecDepth 100000 in
set_option maxHeartbeats 8000000 in
theorem refe_long_wh (op z n b1 l1 b2 l2 : Int) (r : V × Bool) (hi : I64 op) (HS : Hid (∀ w, Calls Try.prog 60 #[.int .i64 op] w fun e w' => e = .returned (.tuple #[.int .i64 2, .int .i64 2, .int .i64 z]) ∧ w = w')) (o : op - 30 < 13) (hl : 0 ≤ op) (HV : Hid (r = (longV n, true))) (HW : Hid (∀ w, Calls Try.prog 70 #[.int .i64 (op - 30), .int .u64 b1, .int .u64 b2, .int .i64 64] w fun e w' => e = .returned (.tuple #[.int .u64 (n % 18446744073709551616), .bool true]) ∧ w = w')) (hx : U64 b1) (hy : U64 b2) (w : World) :
    Calls Try.prog 48 #[.int .i64 op, .agg #[.int .i64 2, .int .u64 b1, .int .i64 l1], .agg #[.int .i64 2, .int .u64 b2, .int .i64 l2]] w fun e w' =>
      e = .returned (.tuple #[.agg #[.int .i64 r.1.k, .int .u64 r.1.b, .int .i64 r.1.l], .bool r.2]) ∧ Below w.heap.size w w' := by
  have hA1 := cell_alloc_if
  have hA2 := frozen_alloc_if
  have hA3 := cell_set_if
  try have hw30 : wrap64 (op - 30) = op - 30 := wrap30 _ hi (by omega)
  go_enter Try.func48, Try.ntmps48
  go_wp2_with (first
    | (go_at_call 60; with_reducible refine (HS.out _).mono ?_; rintro e w' ⟨rfl, rfl⟩)
    | (go_at_call 61; with_reducible refine (HP.out _).mono ?_; rintro e w' ⟨rfl, hbl⟩; obtain ⟨hc, hf, hz⟩ := cif hbl; (try simp only [World.size_alloc, World.size_setCell, World.size_drew, World.heap_drewN] at hz))
    | (go_at_call 69; with_reducible refine (HH.out _).mono ?_; rintro e w' ⟨rfl, hbl⟩; obtain ⟨hc, hf, hz⟩ := cif hbl; (try simp only [World.size_alloc, World.size_setCell, World.size_drew, World.heap_drewN] at hz))
    | (go_at_call 70; with_reducible refine (HW.out _).mono ?_; rintro e w' ⟨rfl, rfl⟩)
    | (go_at_call 37; with_reducible refine (ref_int_any _ _).mono ?_; rintro e w' ⟨rfl, hbl⟩; obtain ⟨hc, hf, hz⟩ := cif hbl; (try simp only [World.size_alloc, World.size_setCell, World.size_drew, World.heap_drewN] at hz))
    | (go_at_call 38; with_reducible refine (ref_long_any _ _).mono ?_; rintro e w' ⟨rfl, hbl⟩; obtain ⟨hc, hf, hz⟩ := cif hbl; (try simp only [World.size_alloc, World.size_setCell, World.size_drew, World.heap_drewN] at hz))
    | (go_at_call 67; with_reducible refine (ref_yes_any _ _).mono ?_; rintro e w' ⟨rfl, hbl⟩; obtain ⟨hc, hf, hz⟩ := cif hbl; (try simp only [World.size_alloc, World.size_setCell, World.size_drew, World.heap_drewN] at hz))
    | (go_at_call 68; with_reducible refine (compared_any _ _ _ _).mono ?_; rintro e w' ⟨rfl, rfl⟩))
  all_goals (((try simp only [Exit.inBlock, Exit.then]); go_light; refine bodyPost_ret (by simp [results, Try.results48, go_sem, *, ↓IntWalk.iteOmega]; try rfl) rfl ?_); refine ⟨?_, (by (try clear hc hf); (repeat' (first | (with_reducible exact Below.refl _ _) | (with_reducible assumption) | (with_reducible refine Below.setCell ?_ ?_ _) | (with_reducible refine Below.alloc ?_ ?_ _) | (with_reducible refine Below.drew ?_) | (with_reducible refine below_drewN ?_ _) | (with_reducible refine below_next ?_ (by with_reducible assumption)) | omega | (dsimp only; omega) | (simp only [World.size_alloc, World.size_setCell, World.size_drew, World.heap_drewN]; omega))))⟩; (first | (simp [HV.out, undefV]; done) | (simp [HV.out, flagV_eq, intV, longV, beqd, wrap64_mod, wrap32_mod]; done) | (simp [HV.out, flagV_eq, intV, longV, beqd, wrap64_mod, wrap32_mod, *]; done)))
set_option maxRecDepth 100000 in
set_option maxHeartbeats 8000000 in
theorem refe_long_whn (op z n b1 l1 b2 l2 : Int) (r : V × Bool) (hi : I64 op) (HS : Hid (∀ w, Calls Try.prog 60 #[.int .i64 op] w fun e w' => e = .returned (.tuple #[.int .i64 2, .int .i64 2, .int .i64 z]) ∧ w = w')) (o : op - 30 < 13) (hl : 0 ≤ op) (HV : Hid (r = (undefV, false))) (HW : Hid (∀ w, Calls Try.prog 70 #[.int .i64 (op - 30), .int .u64 b1, .int .u64 b2, .int .i64 64] w fun e w' => e = .returned (.tuple #[.int .u64 n, .bool false]) ∧ w = w')) (hx : U64 b1) (hy : U64 b2) (w : World) :
    Calls Try.prog 48 #[.int .i64 op, .agg #[.int .i64 2, .int .u64 b1, .int .i64 l1], .agg #[.int .i64 2, .int .u64 b2, .int .i64 l2]] w fun e w' =>
      e = .returned (.tuple #[.agg #[.int .i64 r.1.k, .int .u64 r.1.b, .int .i64 r.1.l], .bool r.2]) ∧ Below w.heap.size w w' := by
  have hA1 := cell_alloc_if
  have hA2 := frozen_alloc_if
  have hA3 := cell_set_if
  try have hw30 : wrap64 (op - 30) = op - 30 := wrap30 _ hi (by omega)
  go_enter Try.func48, Try.ntmps48
  go_wp2_with (first
    | (go_at_call 60; with_reducible refine (HS.out _).mono ?_; rintro e w' ⟨rfl, rfl⟩)
    | (go_at_call 61; with_reducible refine (HP.out _).mono ?_; rintro e w' ⟨rfl, hbl⟩; obtain ⟨hc, hf, hz⟩ := cif hbl; (try simp only [World.size_alloc, World.size_setCell, World.size_drew, World.heap_drewN] at hz))
    | (go_at_call 69; with_reducible refine (HH.out _).mono ?_; rintro e w' ⟨rfl, hbl⟩; obtain ⟨hc, hf, hz⟩ := cif hbl; (try simp only [World.size_alloc, World.size_setCell, World.size_drew, World.heap_drewN] at hz))
    | (go_at_call 70; with_reducible refine (HW.out _).mono ?_; rintro e w' ⟨rfl, rfl⟩)
    | (go_at_call 37; with_reducible refine (ref_int_any _ _).mono ?_; rintro e w' ⟨rfl, hbl⟩; obtain ⟨hc, hf, hz⟩ := cif hbl; (try simp only [World.size_alloc, World.size_setCell, World.size_drew, World.heap_drewN] at hz))
    | (go_at_call 38; with_reducible refine (ref_long_any _ _).mono ?_; rintro e w' ⟨rfl, hbl⟩; obtain ⟨hc, hf, hz⟩ := cif hbl; (try simp only [World.size_alloc, World.size_setCell, World.size_drew, World.heap_drewN] at hz))
    | (go_at_call 67; with_reducible refine (ref_yes_any _ _).mono ?_; rintro e w' ⟨rfl, hbl⟩; obtain ⟨hc, hf, hz⟩ := cif hbl; (try simp only [World.size_alloc, World.size_setCell, World.size_drew, World.heap_drewN] at hz))
    | (go_at_call 68; with_reducible refine (compared_any _ _ _ _).mono ?_; rintro e w' ⟨rfl, rfl⟩))
  all_goals (((try simp only [Exit.inBlock, Exit.then]); go_light; refine bodyPost_ret (by simp [results, Try.results48, go_sem, *, ↓IntWalk.iteOmega]; try rfl) rfl ?_); refine ⟨?_, (by (try clear hc hf); (repeat' (first | (with_reducible exact Below.refl _ _) | (with_reducible assumption) | (with_reducible refine Below.setCell ?_ ?_ _) | (with_reducible refine Below.alloc ?_ ?_ _) | (with_reducible refine Below.drew ?_) | (with_reducible refine below_drewN ?_ _) | (with_reducible refine below_next ?_ (by with_reducible assumption)) | omega | (dsimp only; omega) | (simp only [World.size_alloc, World.size_setCell, World.size_drew, World.heap_drewN]; omega))))⟩; (first | (simp [HV.out, undefV]; done) | (simp [HV.out, flagV_eq, intV, longV, beqd, wrap64_mod, wrap32_mod]; done) | (simp [HV.out, flagV_eq, intV, longV, beqd, wrap64_mod, wrap32_mod, *]; done)))

end Go.Proofs.Ytddipbpllogbaaa
