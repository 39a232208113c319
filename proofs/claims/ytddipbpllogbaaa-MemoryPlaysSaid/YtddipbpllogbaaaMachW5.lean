/-
  The walks of the reference's Eval2 and of the program's; both answer eval2.
-/
import Derived.Test.YtddipbpllogbaaaMachW4
import Derived.Deep.RegionHeld3
namespace Go.Proofs.Ytddipbpllogbaaa
open Go.RowKit
set_option linter.unusedVariables false
set_option linter.unusedSimpArgs false
/-! ### the small ones, with the world written out -/
set_option maxHeartbeats 400000 in
theorem ref_i64_eq (k b l : Int) (w : World) :
    Calls Try.prog 64 #[.agg #[.int .i64 k, .int .u64 b, .int .i64 l]] w fun e w' => e = .returned (.int .i64 (wrap64 b)) ∧ w.alloc (.cells #[.int .i64 k, .int .u64 b, .int .i64 l] 32) = w' := by
  go_enter Try.func64, Try.ntmps64
  go_wp2
  go_returns
  exact ⟨by simp [IntKind.wrap_u64], by simp [IntKind.wrap_u64]⟩
set_option maxHeartbeats 400000 in
theorem ref_i32_eq (k b l : Int) (w : World) :
    Calls Try.prog 65 #[.agg #[.int .i64 k, .int .u64 b, .int .i64 l]] w fun e w' => e = .returned (.int .i32 (wrap32 (b % 4294967296))) ∧ w.alloc (.cells #[.int .i64 k, .int .u64 b, .int .i64 l] 32) = w' := by
  go_enter Try.func65, Try.ntmps65
  go_wp2
  go_returns
  exact ⟨by simp [IntKind.wrap_u64], by simp [IntKind.wrap_u64]⟩
set_option maxHeartbeats 400000 in
theorem ref_u32_eq (k b l : Int) (w : World) :
    Calls Try.prog 66 #[.agg #[.int .i64 k, .int .u64 b, .int .i64 l]] w fun e w' => e = .returned (.int .u32 (b % 4294967296)) ∧ w.alloc (.cells #[.int .i64 k, .int .u64 b, .int .i64 l] 32) = w' := by
  go_enter Try.func66, Try.ntmps66
  go_wp2
  go_returns
  exact ⟨rfl, rfl⟩
attribute [local go_sem] frombits_run tobits_run
set_option maxHeartbeats 400000 in
theorem ref_dblx_eq (k b l : Int) (w : World) :
    Calls Try.prog 63 #[.agg #[.int .i64 k, .int .u64 b, .int .i64 l]] w fun e w' => e = .returned (.float .f64 b.toNat) ∧ w.alloc (.cells #[.int .i64 k, .int .u64 b, .int .i64 l] 32) = w' := by
  go_enter Try.func63, Try.ntmps63
  go_wp2
  go_returns
  exact ⟨by simp [IntKind.wrap_u64], by simp [IntKind.wrap_u64]⟩
set_option maxHeartbeats 400000 in
theorem ref_long_eq (n : Int) (w : World) :
    Calls Try.prog 38 #[.int .i64 n] w fun e w' => e = .returned (.agg #[.int .i64 2, .int .u64 (n % 18446744073709551616), .int .i64 0]) ∧ w.alloc (.cells #[.int .i64 2, .int .u64 (n % 18446744073709551616), .int .i64 0] 32) = w' := by
  go_enter Try.func38, Try.ntmps38
  go_wp2
  go_returns
  exact ⟨by simp [IntKind.wrap_u64], by simp [IntKind.wrap_u64]⟩
set_option maxHeartbeats 400000 in
theorem ref_int_eq (n : Int) (w : World) :
    Calls Try.prog 37 #[.int .i32 n] w fun e w' => e = .returned (.agg #[.int .i64 1, .int .u64 (n % 4294967296), .int .i64 0]) ∧ w.alloc (.cells #[.int .i64 1, .int .u64 (n % 4294967296), .int .i64 0] 32) = w' := by
  go_enter Try.func37, Try.ntmps37
  go_wp2
  go_returns
  exact ⟨by simp [IntKind.wrap_u64], by simp [IntKind.wrap_u64]⟩
set_option maxHeartbeats 400000 in
theorem ref_yes_eq (b : Bool) (w : World) :
    Calls Try.prog 67 #[.bool b] w fun e w' => e = .returned (.agg #[.int .i64 1, .int .u64 (cond b 1 0), .int .i64 0]) ∧ ∃ o1 o2, (w.alloc o1).alloc o2 = w' := by
  cases b
  all_goals
    go_enter Try.func67, Try.ntmps67
    go_wp2
    go_returns
    exact ⟨rfl, _, _, rfl⟩

/-! ### the program's Eval2 -/
theorem pointers_any (op k1 b1 l1 k2 b2 l2 : Int) (ho : 3 ≤ op ∧ op ≤ 25) (hp : k1 = 4 ∨ k2 = 4) (hx : U64 b1) (hy : U64 b2) (w : World) :
    Calls Try.prog 56 #[.int .i64 op, .agg #[.int .i64 k1, .int .u64 b1, .int .i64 l1], .agg #[.int .i64 k2, .int .u64 b2, .int .i64 l2]] w fun e w' =>
      e = .returned (.tuple #[.agg #[.int .i64 (pointersV op ⟨k1, b1, l1⟩ ⟨k2, b2, l2⟩).1.k, .int .u64 (pointersV op ⟨k1, b1, l1⟩ ⟨k2, b2, l2⟩).1.b, .int .i64 (pointersV op ⟨k1, b1, l1⟩ ⟨k2, b2, l2⟩).1.l], .bool (pointersV op ⟨k1, b1, l1⟩ ⟨k2, b2, l2⟩).2]) ∧ Below w.heap.size w w' := by
  by_cases h1 : k1 = 4
  · subst h1
    by_cases h2 : k2 = 4
    · subst h2; exact pointers_pp op b1 l1 b2 l2 ho hx hy w
    · by_cases h3 : k2 = 2
      · subst h3; exact pointers_pl op b1 l1 b2 l2 ho hx hy w
      · exact pointers_po op b1 l1 b2 l2 k2 h3 h2 ho hx hy w
  · have h2 : k2 = 4 := hp.resolve_left h1
    subst h2
    by_cases h3 : k1 = 2
    · subst h3; exact pointers_lp op b1 l1 b2 l2 ho hx hy w
    · exact pointers_op op b1 l1 b2 l2 k1 h3 h1 ho hx hy w

set_option maxRecDepth 100000 in
set_option maxHeartbeats 4000000 in
theorem eval2_any (op k1 b1 l1 k2 b2 l2 : Int) (hi : I64 op) (hx : U64 b1) (hy : U64 b2) (w : World) :
    Calls Try.prog 44 #[.int .i64 op, .agg #[.int .i64 k1, .int .u64 b1, .int .i64 l1], .agg #[.int .i64 k2, .int .u64 b2, .int .i64 l2]] w fun e w' =>
      e = .returned (.tuple #[.agg #[.int .i64 (eval2 op ⟨k1, b1, l1⟩ ⟨k2, b2, l2⟩).1.k, .int .u64 (eval2 op ⟨k1, b1, l1⟩ ⟨k2, b2, l2⟩).1.b, .int .i64 (eval2 op ⟨k1, b1, l1⟩ ⟨k2, b2, l2⟩).1.l], .bool (eval2 op ⟨k1, b1, l1⟩ ⟨k2, b2, l2⟩).2]) ∧ Below w.heap.size w w' := by
  have hsh := shape_any op hi
  have hsp := split_any op hi
  have hxx : U32 (b1 % 4294967296) := mod_U32 _
  have hyy : U32 (b2 % 4294967296) := mod_U32 _
  have hev := eval2.eq_1 op ⟨k1, b1, l1⟩ ⟨k2, b2, l2⟩
  rcases shape_two op with h | ⟨h1, h2, h3, h4⟩ | ⟨h1, h2, h3, h4, h5⟩ | ⟨h1, h2, h3, h4, h5⟩ | ⟨h1, h2, h3, h4⟩
  · -- no operation of two
    rw [if_pos h] at hev
    rw [h] at hsh
    have HS := Lib.hid hsh
    have HV := Lib.hid hev
    clear hsh hsp hev h
    go_enter Try.func44, Try.ntmps44
    go_wp2_with (first | (go_at_call 51; refine (HS.out _).mono ?_; rintro e w' ⟨rfl, rfl⟩))
    all_goals (((try simp only [Exit.inBlock, Exit.then]); go_light; refine bodyPost_ret (by simp [results, Try.results44, go_sem, *]; try rfl) rfl ?_); refine ⟨?_, by (repeat' (first | exact Below.refl _ _ | assumption | refine below_next ?_ (by assumption) | refine Below.alloc ?_ ?_ _ | refine Below.setCell ?_ ?_ _ | refine Below.drew ?_ | refine below_drewN ?_ _ | go_size | (simp; omega)))⟩; simp [HV.out, undefV])
  · -- doubles
    rw [h1, h2] at hev hsh
    simp only [Int.reduceEq, if_false, false_and, if_true] at hev
    have HS := Lib.hid hsh
    have HP := Lib.hid hsp
    clear hsh hsp h1 h2
    by_cases c1 : k1 = 3
    · by_cases c2 : k2 = 3
      · subst c1; subst c2
        simp only [ne_eq, not_true, or_self, if_false] at hev
        have HV := Lib.hid hev
        clear hev
        have HF := Lib.hid (floats_any op b1.toNat b2.toNat ⟨h3, h4⟩)
        go_enter Try.func44, Try.ntmps44
        go_wp2_with (first | (go_at_call 51; refine (HS.out _).mono ?_; rintro e w' ⟨rfl, rfl⟩) | (go_at_call 55; refine (HP.out _).mono ?_; rintro e w' ⟨rfl, rfl⟩))
        go_region_held3 (fun w' => w'.cell? ⟨w.heap.size, 1, none⟩ = some (.int .u64 b1) ∧ w'.cell? ⟨w.heap.size + 1, 1, none⟩ = some (.int .u64 b2)) (((try dsimp only); (repeat' apply And.intro); all_goals first | (simp [*, World.cell?_alloc_some, World.cell?_setCell_far]; done) | (rw [hc _ _ (by first | (simp; omega) | simp)]; simp [*]; done) | (rw [World.cell?_setCell_far _ _ _ _ (by first | (simp; done) | (simp; omega)), World.cell?_setCell_far _ _ _ _ (by first | (simp; done) | (simp; omega)), World.cell?_setCell_far _ _ _ _ (by first | (simp; done) | (simp; omega))]; first | assumption | (simp [*]; done) | (rw [hc _ _ (by first | (simp; omega) | simp)]; simp [*]; done)))) (first | (go_at_call 57; refine (HF.out _).mono ?_; rintro e w' ⟨rfl, hbl⟩; obtain ⟨hc, hf, hz⟩ := bcell hbl; (try simp only [World.size_alloc, World.size_setCell, World.size_drew, World.heap_drewN] at hz)))
        go_wp2
        all_goals (((try simp only [Exit.inBlock, Exit.then]); go_light; refine bodyPost_ret (by simp [results, Try.results44, go_sem, *]; try rfl) rfl ?_); refine ⟨?_, by (repeat' (first | exact Below.refl _ _ | assumption | refine below_next ?_ (by assumption) | refine Below.alloc ?_ ?_ _ | refine Below.setCell ?_ ?_ _ | refine Below.drew ?_ | refine below_drewN ?_ _ | go_size | (simp; omega)))⟩; simp [HV.out, undefV])
      · have d2 : (k2 == 3) = false := beq_eq_false_iff_ne.2 c2
        have e2 : (k2 != 3) = true := by simp [c2]
        subst c1
        simp [c2] at hev
        have HV := Lib.hid hev
        clear hev c2
        go_enter Try.func44, Try.ntmps44
        go_wp2_with (first | (go_at_call 51; refine (HS.out _).mono ?_; rintro e w' ⟨rfl, rfl⟩) | (go_at_call 55; refine (HP.out _).mono ?_; rintro e w' ⟨rfl, rfl⟩) | (go_at_call 56; refine (pointers_any _ _ _ _ _ _ _ hb kp hx hy _).mono ?_; rintro e w' ⟨rfl, hbl⟩; obtain ⟨hc, hf, hz⟩ := bcell hbl; (try simp only [World.size_alloc, World.size_setCell, World.size_drew, World.heap_drewN] at hz)) | (go_at_call 58; refine (longs_any _ _ _ hb hx hy _).mono ?_; rintro e w' ⟨rfl, hbl⟩; obtain ⟨hc, hf, hz⟩ := bcell hbl; (try simp only [World.size_alloc, World.size_setCell, World.size_drew, World.heap_drewN] at hz)) | (go_at_call 59; refine (ints_any _ _ _ hb hxx hyy _).mono ?_; rintro e w' ⟨rfl, hbl⟩; obtain ⟨hc, hf, hz⟩ := bcell hbl; (try simp only [World.size_alloc, World.size_setCell, World.size_drew, World.heap_drewN] at hz)))
        all_goals (((try simp only [Exit.inBlock, Exit.then]); go_light; refine bodyPost_ret (by simp [results, Try.results44, go_sem, *]; try rfl) rfl ?_); refine ⟨?_, by (repeat' (first | exact Below.refl _ _ | assumption | refine below_next ?_ (by assumption) | refine Below.alloc ?_ ?_ _ | refine Below.setCell ?_ ?_ _ | refine Below.drew ?_ | refine below_drewN ?_ _ | go_size | (simp; omega)))⟩; simp [HV.out, undefV])
    · have d1 : (k1 == 3) = false := beq_eq_false_iff_ne.2 c1
      have e1 : (k1 != 3) = true := by simp [c1]
      simp [c1] at hev
      have HV := Lib.hid hev
      clear hev c1
      go_enter Try.func44, Try.ntmps44
      go_wp2_with (first | (go_at_call 51; refine (HS.out _).mono ?_; rintro e w' ⟨rfl, rfl⟩) | (go_at_call 55; refine (HP.out _).mono ?_; rintro e w' ⟨rfl, rfl⟩) | (go_at_call 56; refine (pointers_any _ _ _ _ _ _ _ hb kp hx hy _).mono ?_; rintro e w' ⟨rfl, hbl⟩; obtain ⟨hc, hf, hz⟩ := bcell hbl; (try simp only [World.size_alloc, World.size_setCell, World.size_drew, World.heap_drewN] at hz)) | (go_at_call 58; refine (longs_any _ _ _ hb hx hy _).mono ?_; rintro e w' ⟨rfl, hbl⟩; obtain ⟨hc, hf, hz⟩ := bcell hbl; (try simp only [World.size_alloc, World.size_setCell, World.size_drew, World.heap_drewN] at hz)) | (go_at_call 59; refine (ints_any _ _ _ hb hxx hyy _).mono ?_; rintro e w' ⟨rfl, hbl⟩; obtain ⟨hc, hf, hz⟩ := bcell hbl; (try simp only [World.size_alloc, World.size_setCell, World.size_drew, World.heap_drewN] at hz)))
      all_goals (((try simp only [Exit.inBlock, Exit.then]); go_light; refine bodyPost_ret (by simp [results, Try.results44, go_sem, *]; try rfl) rfl ?_); refine ⟨?_, by (repeat' (first | exact Below.refl _ _ | assumption | refine below_next ?_ (by assumption) | refine Below.alloc ?_ ?_ _ | refine Below.setCell ?_ ?_ _ | refine Below.drew ?_ | refine below_drewN ?_ _ | go_size | (simp; omega)))⟩; simp [HV.out, undefV])
  · -- ints
    rw [h1, h2] at hev hsh
    rw [h3] at hsp
    simp only [Int.reduceEq, if_false, false_and, if_true] at hev
    rw [h3] at hev
    have hb : 3 ≤ op ∧ op ≤ 25 := ⟨h4, h5⟩
    have HS := Lib.hid hsh
    have HP := Lib.hid hsp
    clear hsh hsp h1 h2 h3
    by_cases c1 : k1 = 1
    · by_cases c2 : k2 = 1
      · subst c1; subst c2
        simp at hev
        have HV := Lib.hid hev
        clear hev
        go_enter Try.func44, Try.ntmps44
        go_wp2_with (first | (go_at_call 51; refine (HS.out _).mono ?_; rintro e w' ⟨rfl, rfl⟩) | (go_at_call 55; refine (HP.out _).mono ?_; rintro e w' ⟨rfl, rfl⟩) | (go_at_call 56; refine (pointers_any _ _ _ _ _ _ _ hb kp hx hy _).mono ?_; rintro e w' ⟨rfl, hbl⟩; obtain ⟨hc, hf, hz⟩ := bcell hbl; (try simp only [World.size_alloc, World.size_setCell, World.size_drew, World.heap_drewN] at hz)) | (go_at_call 58; refine (longs_any _ _ _ hb hx hy _).mono ?_; rintro e w' ⟨rfl, hbl⟩; obtain ⟨hc, hf, hz⟩ := bcell hbl; (try simp only [World.size_alloc, World.size_setCell, World.size_drew, World.heap_drewN] at hz)) | (go_at_call 59; refine (ints_any _ _ _ hb hxx hyy _).mono ?_; rintro e w' ⟨rfl, hbl⟩; obtain ⟨hc, hf, hz⟩ := bcell hbl; (try simp only [World.size_alloc, World.size_setCell, World.size_drew, World.heap_drewN] at hz)))
        all_goals (((try simp only [Exit.inBlock, Exit.then]); go_light; refine bodyPost_ret (by simp [results, Try.results44, go_sem, *]; try rfl) rfl ?_); refine ⟨?_, by (repeat' (first | exact Below.refl _ _ | assumption | refine below_next ?_ (by assumption) | refine Below.alloc ?_ ?_ _ | refine Below.setCell ?_ ?_ _ | refine Below.drew ?_ | refine below_drewN ?_ _ | go_size | (simp; omega)))⟩; simp [HV.out, undefV])
      · have d2 : (k2 == 1) = false := beq_eq_false_iff_ne.2 c2
        have e2 : (k2 != 1) = true := by simp [c2]
        subst c1
        simp [c2] at hev
        have HV := Lib.hid hev
        clear hev c2
        go_enter Try.func44, Try.ntmps44
        go_wp2_with (first | (go_at_call 51; refine (HS.out _).mono ?_; rintro e w' ⟨rfl, rfl⟩) | (go_at_call 55; refine (HP.out _).mono ?_; rintro e w' ⟨rfl, rfl⟩) | (go_at_call 56; refine (pointers_any _ _ _ _ _ _ _ hb kp hx hy _).mono ?_; rintro e w' ⟨rfl, hbl⟩; obtain ⟨hc, hf, hz⟩ := bcell hbl; (try simp only [World.size_alloc, World.size_setCell, World.size_drew, World.heap_drewN] at hz)) | (go_at_call 58; refine (longs_any _ _ _ hb hx hy _).mono ?_; rintro e w' ⟨rfl, hbl⟩; obtain ⟨hc, hf, hz⟩ := bcell hbl; (try simp only [World.size_alloc, World.size_setCell, World.size_drew, World.heap_drewN] at hz)) | (go_at_call 59; refine (ints_any _ _ _ hb hxx hyy _).mono ?_; rintro e w' ⟨rfl, hbl⟩; obtain ⟨hc, hf, hz⟩ := bcell hbl; (try simp only [World.size_alloc, World.size_setCell, World.size_drew, World.heap_drewN] at hz)))
        all_goals (((try simp only [Exit.inBlock, Exit.then]); go_light; refine bodyPost_ret (by simp [results, Try.results44, go_sem, *]; try rfl) rfl ?_); refine ⟨?_, by (repeat' (first | exact Below.refl _ _ | assumption | refine below_next ?_ (by assumption) | refine Below.alloc ?_ ?_ _ | refine Below.setCell ?_ ?_ _ | refine Below.drew ?_ | refine below_drewN ?_ _ | go_size | (simp; omega)))⟩; simp [HV.out, undefV])
    · have d1 : (k1 == 1) = false := beq_eq_false_iff_ne.2 c1
      have e1 : (k1 != 1) = true := by simp [c1]
      simp [c1] at hev
      have HV := Lib.hid hev
      clear hev c1
      go_enter Try.func44, Try.ntmps44
      go_wp2_with (first | (go_at_call 51; refine (HS.out _).mono ?_; rintro e w' ⟨rfl, rfl⟩) | (go_at_call 55; refine (HP.out _).mono ?_; rintro e w' ⟨rfl, rfl⟩) | (go_at_call 56; refine (pointers_any _ _ _ _ _ _ _ hb kp hx hy _).mono ?_; rintro e w' ⟨rfl, hbl⟩; obtain ⟨hc, hf, hz⟩ := bcell hbl; (try simp only [World.size_alloc, World.size_setCell, World.size_drew, World.heap_drewN] at hz)) | (go_at_call 58; refine (longs_any _ _ _ hb hx hy _).mono ?_; rintro e w' ⟨rfl, hbl⟩; obtain ⟨hc, hf, hz⟩ := bcell hbl; (try simp only [World.size_alloc, World.size_setCell, World.size_drew, World.heap_drewN] at hz)) | (go_at_call 59; refine (ints_any _ _ _ hb hxx hyy _).mono ?_; rintro e w' ⟨rfl, hbl⟩; obtain ⟨hc, hf, hz⟩ := bcell hbl; (try simp only [World.size_alloc, World.size_setCell, World.size_drew, World.heap_drewN] at hz)))
      all_goals (((try simp only [Exit.inBlock, Exit.then]); go_light; refine bodyPost_ret (by simp [results, Try.results44, go_sem, *]; try rfl) rfl ?_); refine ⟨?_, by (repeat' (first | exact Below.refl _ _ | assumption | refine below_next ?_ (by assumption) | refine Below.alloc ?_ ?_ _ | refine Below.setCell ?_ ?_ _ | refine Below.drew ?_ | refine below_drewN ?_ _ | go_size | (simp; omega)))⟩; simp [HV.out, undefV])
  · -- shifts of Long
    rw [h1, h2] at hev hsh
    rw [h3] at hsp
    simp only [Int.reduceEq, if_false, false_and, and_false, if_true] at hev
    rw [h3] at hev
    have hb : 3 ≤ op - 30 ∧ op - 30 ≤ 25 := by omega
    have HS := Lib.hid hsh
    have HP := Lib.hid hsp
    clear hsh hsp h1 h2 h3
    by_cases c1 : k1 = 2
    · by_cases c2 : k2 = 1
      · subst c1; subst c2
        simp at hev
        have HV := Lib.hid hev
        clear hev
        go_enter Try.func44, Try.ntmps44
        go_wp2_with (first | (go_at_call 51; refine (HS.out _).mono ?_; rintro e w' ⟨rfl, rfl⟩) | (go_at_call 55; refine (HP.out _).mono ?_; rintro e w' ⟨rfl, rfl⟩) | (go_at_call 56; refine (pointers_any _ _ _ _ _ _ _ hb kp hx hy _).mono ?_; rintro e w' ⟨rfl, hbl⟩; obtain ⟨hc, hf, hz⟩ := bcell hbl; (try simp only [World.size_alloc, World.size_setCell, World.size_drew, World.heap_drewN] at hz)) | (go_at_call 58; refine (longs_any _ _ _ hb hx hy _).mono ?_; rintro e w' ⟨rfl, hbl⟩; obtain ⟨hc, hf, hz⟩ := bcell hbl; (try simp only [World.size_alloc, World.size_setCell, World.size_drew, World.heap_drewN] at hz)) | (go_at_call 59; refine (ints_any _ _ _ hb hxx hyy _).mono ?_; rintro e w' ⟨rfl, hbl⟩; obtain ⟨hc, hf, hz⟩ := bcell hbl; (try simp only [World.size_alloc, World.size_setCell, World.size_drew, World.heap_drewN] at hz)))
        all_goals (((try simp only [Exit.inBlock, Exit.then]); go_light; refine bodyPost_ret (by simp [results, Try.results44, go_sem, *]; try rfl) rfl ?_); refine ⟨?_, by (repeat' (first | exact Below.refl _ _ | assumption | refine below_next ?_ (by assumption) | refine Below.alloc ?_ ?_ _ | refine Below.setCell ?_ ?_ _ | refine Below.drew ?_ | refine below_drewN ?_ _ | go_size | (simp; omega)))⟩; simp [HV.out, undefV])
      · have d2 : (k2 == 1) = false := beq_eq_false_iff_ne.2 c2
        have e2 : (k2 != 1) = true := by simp [c2]
        subst c1
        simp [c2] at hev
        have HV := Lib.hid hev
        clear hev c2
        go_enter Try.func44, Try.ntmps44
        go_wp2_with (first | (go_at_call 51; refine (HS.out _).mono ?_; rintro e w' ⟨rfl, rfl⟩) | (go_at_call 55; refine (HP.out _).mono ?_; rintro e w' ⟨rfl, rfl⟩) | (go_at_call 56; refine (pointers_any _ _ _ _ _ _ _ hb kp hx hy _).mono ?_; rintro e w' ⟨rfl, hbl⟩; obtain ⟨hc, hf, hz⟩ := bcell hbl; (try simp only [World.size_alloc, World.size_setCell, World.size_drew, World.heap_drewN] at hz)) | (go_at_call 58; refine (longs_any _ _ _ hb hx hy _).mono ?_; rintro e w' ⟨rfl, hbl⟩; obtain ⟨hc, hf, hz⟩ := bcell hbl; (try simp only [World.size_alloc, World.size_setCell, World.size_drew, World.heap_drewN] at hz)) | (go_at_call 59; refine (ints_any _ _ _ hb hxx hyy _).mono ?_; rintro e w' ⟨rfl, hbl⟩; obtain ⟨hc, hf, hz⟩ := bcell hbl; (try simp only [World.size_alloc, World.size_setCell, World.size_drew, World.heap_drewN] at hz)))
        all_goals (((try simp only [Exit.inBlock, Exit.then]); go_light; refine bodyPost_ret (by simp [results, Try.results44, go_sem, *]; try rfl) rfl ?_); refine ⟨?_, by (repeat' (first | exact Below.refl _ _ | assumption | refine below_next ?_ (by assumption) | refine Below.alloc ?_ ?_ _ | refine Below.setCell ?_ ?_ _ | refine Below.drew ?_ | refine below_drewN ?_ _ | go_size | (simp; omega)))⟩; simp [HV.out, undefV])
    · have d1 : (k1 == 2) = false := beq_eq_false_iff_ne.2 c1
      have e1 : (k1 != 2) = true := by simp [c1]
      simp [c1] at hev
      have HV := Lib.hid hev
      clear hev c1
      go_enter Try.func44, Try.ntmps44
      go_wp2_with (first | (go_at_call 51; refine (HS.out _).mono ?_; rintro e w' ⟨rfl, rfl⟩) | (go_at_call 55; refine (HP.out _).mono ?_; rintro e w' ⟨rfl, rfl⟩) | (go_at_call 56; refine (pointers_any _ _ _ _ _ _ _ hb kp hx hy _).mono ?_; rintro e w' ⟨rfl, hbl⟩; obtain ⟨hc, hf, hz⟩ := bcell hbl; (try simp only [World.size_alloc, World.size_setCell, World.size_drew, World.heap_drewN] at hz)) | (go_at_call 58; refine (longs_any _ _ _ hb hx hy _).mono ?_; rintro e w' ⟨rfl, hbl⟩; obtain ⟨hc, hf, hz⟩ := bcell hbl; (try simp only [World.size_alloc, World.size_setCell, World.size_drew, World.heap_drewN] at hz)) | (go_at_call 59; refine (ints_any _ _ _ hb hxx hyy _).mono ?_; rintro e w' ⟨rfl, hbl⟩; obtain ⟨hc, hf, hz⟩ := bcell hbl; (try simp only [World.size_alloc, World.size_setCell, World.size_drew, World.heap_drewN] at hz)))
      all_goals (((try simp only [Exit.inBlock, Exit.then]); go_light; refine bodyPost_ret (by simp [results, Try.results44, go_sem, *]; try rfl) rfl ?_); refine ⟨?_, by (repeat' (first | exact Below.refl _ _ | assumption | refine below_next ?_ (by assumption) | refine Below.alloc ?_ ?_ _ | refine Below.setCell ?_ ?_ _ | refine Below.drew ?_ | refine below_drewN ?_ _ | go_size | (simp; omega)))⟩; simp [HV.out, undefV])
  · -- Longs
    rw [h1, h2] at hev hsh
    rw [h3] at hsp
    simp only [Int.reduceEq, if_false, true_and, if_true] at hev
    rw [h3] at hev
    have hb : 3 ≤ op - 30 ∧ op - 30 ≤ 25 := by omega
    have HS := Lib.hid hsh
    have HP := Lib.hid hsp
    clear hsh hsp h1 h2 h3
    by_cases kp : k1 = 4 ∨ k2 = 4
    · rw [if_pos kp] at hev
      have HQ := Lib.hid (pointers_any (op - 30) k1 b1 l1 k2 b2 l2 hb kp hx hy)
      have HV := Lib.hid hev
      clear hev
      by_cases c1 : k1 = 4
      · clear kp
        subst c1
        go_enter Try.func44, Try.ntmps44
        go_wp2_with (first | (go_at_call 51; refine (HS.out _).mono ?_; rintro e w' ⟨rfl, rfl⟩) | (go_at_call 55; refine (HP.out _).mono ?_; rintro e w' ⟨rfl, rfl⟩) | (go_at_call 56; refine (HQ.out _).mono ?_; rintro e w' ⟨rfl, hbl⟩; obtain ⟨hc, hf, hz⟩ := bcell hbl; (try simp only [World.size_alloc, World.size_setCell, World.size_drew, World.heap_drewN] at hz)))
        all_goals (((try simp only [Exit.inBlock, Exit.then]); go_light; refine bodyPost_ret (by simp [results, Try.results44, go_sem, *]; try rfl) rfl ?_); refine ⟨?_, by (repeat' (first | exact Below.refl _ _ | assumption | refine below_next ?_ (by assumption) | refine Below.alloc ?_ ?_ _ | refine Below.setCell ?_ ?_ _ | refine Below.drew ?_ | refine below_drewN ?_ _ | go_size | (simp; omega)))⟩; simp [HV.out, undefV])
      · have d1 : (k1 == 4) = false := beq_eq_false_iff_ne.2 c1
        have c2 : k2 = 4 := kp.resolve_left c1
        subst c2
        clear c1 kp
        go_enter Try.func44, Try.ntmps44
        go_wp2_with (first | (go_at_call 51; refine (HS.out _).mono ?_; rintro e w' ⟨rfl, rfl⟩) | (go_at_call 55; refine (HP.out _).mono ?_; rintro e w' ⟨rfl, rfl⟩) | (go_at_call 56; refine (HQ.out _).mono ?_; rintro e w' ⟨rfl, hbl⟩; obtain ⟨hc, hf, hz⟩ := bcell hbl; (try simp only [World.size_alloc, World.size_setCell, World.size_drew, World.heap_drewN] at hz)))
        all_goals (((try simp only [Exit.inBlock, Exit.then]); go_light; refine bodyPost_ret (by simp [results, Try.results44, go_sem, *]; try rfl) rfl ?_); refine ⟨?_, by (repeat' (first | exact Below.refl _ _ | assumption | refine below_next ?_ (by assumption) | refine Below.alloc ?_ ?_ _ | refine Below.setCell ?_ ?_ _ | refine Below.drew ?_ | refine below_drewN ?_ _ | go_size | (simp; omega)))⟩; simp [HV.out, undefV])
    · rw [if_neg kp] at hev
      have d1 : (k1 == 4) = false := beq_eq_false_iff_ne.2 (fun h => kp (.inl h))
      have d2 : (k2 == 4) = false := beq_eq_false_iff_ne.2 (fun h => kp (.inr h))
      clear kp
      by_cases c1 : k1 = 2
      · by_cases c2 : k2 = 2
        · subst c1; subst c2
          simp at hev
          have HV := Lib.hid hev
          clear hev
          go_enter Try.func44, Try.ntmps44
          go_wp2_with (first | (go_at_call 51; refine (HS.out _).mono ?_; rintro e w' ⟨rfl, rfl⟩) | (go_at_call 55; refine (HP.out _).mono ?_; rintro e w' ⟨rfl, rfl⟩) | (go_at_call 56; refine (pointers_any _ _ _ _ _ _ _ hb kp hx hy _).mono ?_; rintro e w' ⟨rfl, hbl⟩; obtain ⟨hc, hf, hz⟩ := bcell hbl; (try simp only [World.size_alloc, World.size_setCell, World.size_drew, World.heap_drewN] at hz)) | (go_at_call 58; refine (longs_any _ _ _ hb hx hy _).mono ?_; rintro e w' ⟨rfl, hbl⟩; obtain ⟨hc, hf, hz⟩ := bcell hbl; (try simp only [World.size_alloc, World.size_setCell, World.size_drew, World.heap_drewN] at hz)) | (go_at_call 59; refine (ints_any _ _ _ hb hxx hyy _).mono ?_; rintro e w' ⟨rfl, hbl⟩; obtain ⟨hc, hf, hz⟩ := bcell hbl; (try simp only [World.size_alloc, World.size_setCell, World.size_drew, World.heap_drewN] at hz)))
          all_goals (((try simp only [Exit.inBlock, Exit.then]); go_light; refine bodyPost_ret (by simp [results, Try.results44, go_sem, *]; try rfl) rfl ?_); refine ⟨?_, by (repeat' (first | exact Below.refl _ _ | assumption | refine below_next ?_ (by assumption) | refine Below.alloc ?_ ?_ _ | refine Below.setCell ?_ ?_ _ | refine Below.drew ?_ | refine below_drewN ?_ _ | go_size | (simp; omega)))⟩; simp [HV.out, undefV])
        · have e2 : (k2 != 2) = true := by simp [c2]
          subst c1
          simp [c2] at hev
          have HV := Lib.hid hev
          clear hev c2
          go_enter Try.func44, Try.ntmps44
          go_wp2_with (first | (go_at_call 51; refine (HS.out _).mono ?_; rintro e w' ⟨rfl, rfl⟩) | (go_at_call 55; refine (HP.out _).mono ?_; rintro e w' ⟨rfl, rfl⟩) | (go_at_call 56; refine (pointers_any _ _ _ _ _ _ _ hb kp hx hy _).mono ?_; rintro e w' ⟨rfl, hbl⟩; obtain ⟨hc, hf, hz⟩ := bcell hbl; (try simp only [World.size_alloc, World.size_setCell, World.size_drew, World.heap_drewN] at hz)) | (go_at_call 58; refine (longs_any _ _ _ hb hx hy _).mono ?_; rintro e w' ⟨rfl, hbl⟩; obtain ⟨hc, hf, hz⟩ := bcell hbl; (try simp only [World.size_alloc, World.size_setCell, World.size_drew, World.heap_drewN] at hz)) | (go_at_call 59; refine (ints_any _ _ _ hb hxx hyy _).mono ?_; rintro e w' ⟨rfl, hbl⟩; obtain ⟨hc, hf, hz⟩ := bcell hbl; (try simp only [World.size_alloc, World.size_setCell, World.size_drew, World.heap_drewN] at hz)))
          all_goals (((try simp only [Exit.inBlock, Exit.then]); go_light; refine bodyPost_ret (by simp [results, Try.results44, go_sem, *]; try rfl) rfl ?_); refine ⟨?_, by (repeat' (first | exact Below.refl _ _ | assumption | refine below_next ?_ (by assumption) | refine Below.alloc ?_ ?_ _ | refine Below.setCell ?_ ?_ _ | refine Below.drew ?_ | refine below_drewN ?_ _ | go_size | (simp; omega)))⟩; simp [HV.out, undefV])
      · have e1 : (k1 != 2) = true := by simp [c1]
        simp [c1] at hev
        have HV := Lib.hid hev
        clear hev c1
        go_enter Try.func44, Try.ntmps44
        go_wp2_with (first | (go_at_call 51; refine (HS.out _).mono ?_; rintro e w' ⟨rfl, rfl⟩) | (go_at_call 55; refine (HP.out _).mono ?_; rintro e w' ⟨rfl, rfl⟩) | (go_at_call 56; refine (pointers_any _ _ _ _ _ _ _ hb kp hx hy _).mono ?_; rintro e w' ⟨rfl, hbl⟩; obtain ⟨hc, hf, hz⟩ := bcell hbl; (try simp only [World.size_alloc, World.size_setCell, World.size_drew, World.heap_drewN] at hz)) | (go_at_call 58; refine (longs_any _ _ _ hb hx hy _).mono ?_; rintro e w' ⟨rfl, hbl⟩; obtain ⟨hc, hf, hz⟩ := bcell hbl; (try simp only [World.size_alloc, World.size_setCell, World.size_drew, World.heap_drewN] at hz)) | (go_at_call 59; refine (ints_any _ _ _ hb hxx hyy _).mono ?_; rintro e w' ⟨rfl, hbl⟩; obtain ⟨hc, hf, hz⟩ := bcell hbl; (try simp only [World.size_alloc, World.size_setCell, World.size_drew, World.heap_drewN] at hz)))
        all_goals (((try simp only [Exit.inBlock, Exit.then]); go_light; refine bodyPost_ret (by simp [results, Try.results44, go_sem, *]; try rfl) rfl ?_); refine ⟨?_, by (repeat' (first | exact Below.refl _ _ | assumption | refine below_next ?_ (by assumption) | refine Below.alloc ?_ ?_ _ | refine Below.setCell ?_ ?_ _ | refine Below.drew ?_ | refine below_drewN ?_ _ | go_size | (simp; omega)))⟩; simp [HV.out, undefV])

end Go.Proofs.Ytddipbpllogbaaa
