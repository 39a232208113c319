/-
  The walk of the statement MachOrder.
-/
import Derived.Test.YtonhphiajjkgaaaMachW6
import Derived.Test.YtonhphiajjkgaaaRegion
import Derived.LoopTactic
import Derived.Deep.LoopGhost
namespace Go.Proofs.Ytonhphiajjkgaaa
open Go.RowKit
set_option linter.unusedVariables false
set_option linter.unusedSimpArgs false

theorem eval2_flag (op k1 b1 l1 k2 b2 l2 : Int) (b : Bool) (hi : I64 op) (hx : U64 b1) (hy : U64 b2) (h : eval2 op ⟨k1, b1, l1⟩ ⟨k2, b2, l2⟩ = (flagV b, true)) :
    Hid (∀ w, Calls Try.prog 11 #[.int .i64 op, .agg #[.int .i64 k1, .int .u64 b1, .int .i64 l1], .agg #[.int .i64 k2, .int .u64 b2, .int .i64 l2]] w fun e w' => e = .returned (.tuple #[.agg #[.int .i64 1, .int .u64 (cond b 1 0), .int .i64 0], .bool true]) ∧ Below w.heap.size w w') := by
  have g := eval2_any op k1 b1 l1 k2 b2 l2 hi hx hy
  rw [h, flagV_eq] at g
  exact Lib.hid g

theorem cmp_int (X Y : Int) (hX : U32 X) (hY : U32 Y) (ls ss lu : Bool) (h1 : decide (wrap32 X < wrap32 Y) = ls) (h2 : decide (X = Y) = ss) (h3 : decide (X < Y) = lu) :
    (eval2 18 ⟨1, X, 0⟩ ⟨1, Y, 0⟩ = (flagV (cmpd 18 ls ss), true) ∧ eval2 19 ⟨1, X, 0⟩ ⟨1, Y, 0⟩ = (flagV (cmpd 19 ls ss), true) ∧ eval2 20 ⟨1, X, 0⟩ ⟨1, Y, 0⟩ = (flagV (cmpd 20 ls ss), true) ∧ eval2 21 ⟨1, X, 0⟩ ⟨1, Y, 0⟩ = (flagV (cmpd 21 ls ss), true)) ∧
    (eval2 16 ⟨1, X, 0⟩ ⟨1, Y, 0⟩ = (flagV (cmpd 16 ls ss), true) ∧ eval2 17 ⟨1, X, 0⟩ ⟨1, Y, 0⟩ = (flagV (cmpd 17 ls ss), true)) ∧
    (eval2 22 ⟨1, X, 0⟩ ⟨1, Y, 0⟩ = (flagV (cmpd 22 lu ss), true) ∧ eval2 23 ⟨1, X, 0⟩ ⟨1, Y, 0⟩ = (flagV (cmpd 23 lu ss), true) ∧ eval2 24 ⟨1, X, 0⟩ ⟨1, Y, 0⟩ = (flagV (cmpd 24 lu ss), true) ∧ eval2 25 ⟨1, X, 0⟩ ⟨1, Y, 0⟩ = (flagV (cmpd 25 lu ss), true)) := by
  obtain ⟨a1, a2⟩ := hX
  obtain ⟨a3, a4⟩ := hY
  have e1 : X % 4294967296 = X := by omega
  have e2 : Y % 4294967296 = Y := by omega
  subst h1 h2 h3
  refine ⟨⟨?_, ?_, ?_, ?_⟩, ⟨?_, ?_⟩, ⟨?_, ?_, ?_, ?_⟩⟩ <;> (simp only [eval2, shape, split]; simp [intsV, e1, e2])

theorem cmp_long (X Y : Int) (ls ss lu : Bool) (h1 : decide (wrap64 X < wrap64 Y) = ls) (h2 : decide (X = Y) = ss) (h3 : decide (X < Y) = lu) :
    (eval2 48 ⟨2, X, 0⟩ ⟨2, Y, 0⟩ = (flagV (cmpd 18 ls ss), true) ∧ eval2 49 ⟨2, X, 0⟩ ⟨2, Y, 0⟩ = (flagV (cmpd 19 ls ss), true) ∧ eval2 50 ⟨2, X, 0⟩ ⟨2, Y, 0⟩ = (flagV (cmpd 20 ls ss), true) ∧ eval2 51 ⟨2, X, 0⟩ ⟨2, Y, 0⟩ = (flagV (cmpd 21 ls ss), true)) ∧
    (eval2 46 ⟨2, X, 0⟩ ⟨2, Y, 0⟩ = (flagV (cmpd 16 ls ss), true) ∧ eval2 47 ⟨2, X, 0⟩ ⟨2, Y, 0⟩ = (flagV (cmpd 17 ls ss), true)) ∧
    (eval2 52 ⟨2, X, 0⟩ ⟨2, Y, 0⟩ = (flagV (cmpd 22 lu ss), true) ∧ eval2 53 ⟨2, X, 0⟩ ⟨2, Y, 0⟩ = (flagV (cmpd 23 lu ss), true) ∧ eval2 54 ⟨2, X, 0⟩ ⟨2, Y, 0⟩ = (flagV (cmpd 24 lu ss), true) ∧ eval2 55 ⟨2, X, 0⟩ ⟨2, Y, 0⟩ = (flagV (cmpd 25 lu ss), true)) := by
  subst h1 h2 h3
  refine ⟨⟨?_, ?_, ?_, ?_⟩, ⟨?_, ?_⟩, ⟨?_, ?_, ?_, ?_⟩⟩ <;> (simp only [eval2, shape, split]; simp [longsV])

theorem cmp_dbl (X Y : Int) (o : Option Ordering) (h : ford X.toNat Y.toNat = o) :
    eval2 68 ⟨3, X, 0⟩ ⟨3, Y, 0⟩ = (flagV (fcmp 68 o), true) ∧ eval2 69 ⟨3, X, 0⟩ ⟨3, Y, 0⟩ = (flagV (fcmp 69 o), true) ∧ eval2 70 ⟨3, X, 0⟩ ⟨3, Y, 0⟩ = (flagV (fcmp 70 o), true) ∧ eval2 71 ⟨3, X, 0⟩ ⟨3, Y, 0⟩ = (flagV (fcmp 71 o), true) ∧
    eval2 66 ⟨3, X, 0⟩ ⟨3, Y, 0⟩ = (flagV (fcmp 66 o), true) ∧ eval2 67 ⟨3, X, 0⟩ ⟨3, Y, 0⟩ = (flagV (fcmp 67 o), true) := by
  subst h
  refine ⟨?_, ?_, ?_, ?_, ?_, ?_⟩ <;> (simp only [eval2, shape, split]; simp [floatsV])

theorem tri32 (X Y : Int) (hX : U32 X) (hY : U32 Y) : ¬ (decide (wrap32 X < wrap32 Y) = true ∧ decide (X = Y) = true) := by
  simp; intro h1 h2; subst h2; omega
theorem trilu (X Y : Int) : ¬ (decide (X < Y) = true ∧ decide (X = Y) = true) := by
  simp; omega
theorem tri64 (X Y : Int) : ¬ (decide (wrap64 X < wrap64 Y) = true ∧ decide (X = Y) = true) := by
  simp; intro h1 h2; subst h2; omega

/-- What is asked of the six comparisons of two values. -/
abbrev Comp (k a b : Int) (v : Int) (op : Int) : Prop :=
  Hid (∀ w, Calls Try.prog 11 #[.int .i64 op, .agg #[.int .i64 k, .int .u64 a, .int .i64 0], .agg #[.int .i64 k, .int .u64 b, .int .i64 0]] w fun e w' => e = .returned (.tuple #[.agg #[.int .i64 1, .int .u64 v, .int .i64 0], .bool true]) ∧ Below w.heap.size w w')
structure Six (o1 o2 o3 o4 q1 q2 k a b : Int) (d : Bool) (L M G E S N : Int) : Prop where
  bd : 0 ≤ L ∧ 0 ≤ G ∧ 0 ≤ S ∧ 0 ≤ N ∧ L ≤ 1 ∧ G ≤ 1 ∧ S ≤ 1 ∧ N ≤ 1
  one : L + G + S ≤ 1
  tri : d = false → (L + G + S == 0) = false
  oth : (N + S != 1) = false
  m : bits .or .u64 L S = M
  e : bits .or .u64 G S = E
  c1 : Comp k a b L o1
  c2 : Comp k a b M o2
  c3 : Comp k a b G o3
  c4 : Comp k a b E o4
  c5 : Comp k a b S q1
  c6 : Comp k a b N q2

theorem bor_bool (a b : Bool) : bits .or .u64 (cond a 1 0) (cond b 1 0) = cond (a || b) 1 0 := by cases a <;> cases b <;> decide
theorem six_of (o1 o2 o3 o4 q1 q2 k a b : Int) (d : Bool) (l g s m e n : Bool) (ho : I64 o1 ∧ I64 o2 ∧ I64 o3 ∧ I64 o4 ∧ I64 q1 ∧ I64 q2) (hA : U64 a) (hB : U64 b)
    (h1 : ¬ (l = true ∧ s = true)) (h2 : ¬ (l = true ∧ g = true)) (h3 : ¬ (g = true ∧ s = true)) (h4 : d = false → (l || g || s) = true) (hn : n = !s) (hm : m = (l || s)) (he : e = (g || s))
    (e1 : eval2 o1 ⟨k, a, 0⟩ ⟨k, b, 0⟩ = (flagV l, true)) (e2 : eval2 o2 ⟨k, a, 0⟩ ⟨k, b, 0⟩ = (flagV m, true)) (e3 : eval2 o3 ⟨k, a, 0⟩ ⟨k, b, 0⟩ = (flagV g, true)) (e4 : eval2 o4 ⟨k, a, 0⟩ ⟨k, b, 0⟩ = (flagV e, true)) (e5 : eval2 q1 ⟨k, a, 0⟩ ⟨k, b, 0⟩ = (flagV s, true)) (e6 : eval2 q2 ⟨k, a, 0⟩ ⟨k, b, 0⟩ = (flagV n, true)) :
    Six o1 o2 o3 o4 q1 q2 k a b d (cond l 1 0) (cond m 1 0) (cond g 1 0) (cond e 1 0) (cond s 1 0) (cond n 1 0) := by
  obtain ⟨i1, i2, i3, i4, i5, i6⟩ := ho
  subst hn hm he
  refine ⟨?_, ?_, ?_, ?_, bor_bool _ _, bor_bool _ _, eval2_flag _ _ _ _ _ _ _ _ i1 hA hB e1, eval2_flag _ _ _ _ _ _ _ _ i2 hA hB e2, eval2_flag _ _ _ _ _ _ _ _ i3 hA hB e3, eval2_flag _ _ _ _ _ _ _ _ i4 hA hB e4, eval2_flag _ _ _ _ _ _ _ _ i5 hA hB e5, eval2_flag _ _ _ _ _ _ _ _ i6 hA hB e6⟩
  · cases l <;> cases g <;> cases s <;> decide
  · cases l <;> cases g <;> cases s <;> simp at *
  · intro hd
    have := h4 hd
    cases l <;> cases g <;> cases s <;> simp at *
  · cases s <;> decide

set_option maxRecDepth 100000 in
set_option maxHeartbeats 16000000 in
theorem order_core (m n x y X Y U V' : Int) (w : World)
    (I1 : Hid (∀ w, Calls Try.prog 13 #[.int .i32 (wrap32 m)] w fun e w' => e = .returned (.agg #[.int .i64 1, .int .u64 X, .int .i64 0]) ∧ Below w.heap.size w w'))
    (I2 : Hid (∀ w, Calls Try.prog 13 #[.int .i32 (wrap32 n)] w fun e w' => e = .returned (.agg #[.int .i64 1, .int .u64 Y, .int .i64 0]) ∧ Below w.heap.size w w'))
    (J1 : Hid (∀ w, Calls Try.prog 14 #[.int .i64 m] w fun e w' => e = .returned (.agg #[.int .i64 2, .int .u64 U, .int .i64 0]) ∧ Below w.heap.size w w'))
    (J2 : Hid (∀ w, Calls Try.prog 14 #[.int .i64 n] w fun e w' => e = .returned (.agg #[.int .i64 2, .int .u64 V', .int .i64 0]) ∧ Below w.heap.size w w'))
    (S0 : Hid (∃ L M G E S N, Six 18 19 20 21 16 17 1 X Y false L M G E S N))
    (S1 : Hid (∃ L M G E S N, Six 22 23 24 25 16 17 1 X Y false L M G E S N))
    (S2 : Hid (∃ L M G E S N, Six 48 49 50 51 46 47 2 U V' false L M G E S N))
    (S3 : Hid (∃ L M G E S N, Six 52 53 54 55 46 47 2 U V' false L M G E S N))
    (S4 : Hid (∃ L M G E S N, Six 68 69 70 71 66 67 3 x y true L M G E S N)) :
    Calls Try.prog 4 #[.int .i64 m, .int .i64 n, .int .u64 x, .int .u64 y] w fun e w' => e = .returned (.bool true) ∧ Below w.heap.size w w' := by
  have hA1 := cell_alloc_if
  have hA2 := frozen_alloc_if
  have hA3 := cell_set_if
  go_enter Try.func4, Try.ntmps4
  go_wp2_with (go_at_call 10; with_reducible refine (fixed_any _).mono ?_; rintro e w1 ⟨rfl, hb1⟩; obtain ⟨hc1, hf1, hz1⟩ := cif hb1)
  go_loopw [36] (fun i wr => ∃ k : Nat, k ≤ 5 ∧ i = .int .i64 k ∧ Ext (w1.alloc (.cells #[.int .i64 0, .int .i64 18, .int .i64 21, .int .i64 1, .int .i64 22, .int .i64 25, .int .i64 2, .int .i64 48, .int .i64 0, .int .i64 3, .int .i64 52, .int .i64 0, .int .i64 4, .int .i64 68, .int .i64 0] 29)) wr) (fun i _ => 5 - (intOf i).toNat)
  case atStart => exact ⟨0, by omega, rfl, Below.refl _ _⟩
  case round =>
  obtain ⟨k, hk, rfl, hX⟩ := hrel
  obtain ⟨hcX, hfX, hzX⟩ := cif (Ext.of hX)
  simp only [World.size_alloc] at hzX
  have hk5 : k = 0 ∨ k = 1 ∨ k = 2 ∨ k = 3 ∨ k = 4 ∨ k = 5 := by omega
  clear hk
  rcases hk5 with rfl | rfl | rfl | rfl | rfl | rfl
  · obtain ⟨aL, aM, aG, aE, aS, aN, hs⟩ := S0.out
    obtain ⟨⟨d1, d2, d3, d4, d5, d6, d7, d8⟩, d9, d10, d11, d12, d13, c1, c2, c3, c4, c5, c6⟩ := hs
    have d14 := d10 rfl; clear d10
    go_wp2_with (first
      | (go_at_call 13; with_reducible refine (I1.out _).mono ?_; rintro e w' ⟨rfl, hbl⟩; obtain ⟨hc, hf, hz⟩ := cif hbl; (try simp only [World.size_alloc, World.size_setCell, World.size_drew, World.heap_drewN] at hz))
      | (go_at_call 13; with_reducible refine (I2.out _).mono ?_; rintro e w' ⟨rfl, hbl⟩; obtain ⟨hc, hf, hz⟩ := cif hbl; (try simp only [World.size_alloc, World.size_setCell, World.size_drew, World.heap_drewN] at hz))
      | (go_at_call 14; with_reducible refine (J1.out _).mono ?_; rintro e w' ⟨rfl, hbl⟩; obtain ⟨hc, hf, hz⟩ := cif hbl; (try simp only [World.size_alloc, World.size_setCell, World.size_drew, World.heap_drewN] at hz))
      | (go_at_call 14; with_reducible refine (J2.out _).mono ?_; rintro e w' ⟨rfl, hbl⟩; obtain ⟨hc, hf, hz⟩ := cif hbl; (try simp only [World.size_alloc, World.size_setCell, World.size_drew, World.heap_drewN] at hz))
      | (go_at_call 15; with_reducible refine (doubleOf_any _ _).mono ?_; rintro e w' ⟨rfl, hbl⟩; obtain ⟨hc, hf, hz⟩ := cif hbl; (try simp only [World.size_alloc, World.size_setCell, World.size_drew, World.heap_drewN] at hz))
      | (go_at_call 11; with_reducible refine (c1.out _).mono ?_; rintro e w' ⟨rfl, hbl⟩; obtain ⟨hc, hf, hz⟩ := cif hbl; (try simp only [World.size_alloc, World.size_setCell, World.size_drew, World.heap_drewN] at hz))
      | (go_at_call 11; with_reducible refine (c2.out _).mono ?_; rintro e w' ⟨rfl, hbl⟩; obtain ⟨hc, hf, hz⟩ := cif hbl; (try simp only [World.size_alloc, World.size_setCell, World.size_drew, World.heap_drewN] at hz))
      | (go_at_call 11; with_reducible refine (c3.out _).mono ?_; rintro e w' ⟨rfl, hbl⟩; obtain ⟨hc, hf, hz⟩ := cif hbl; (try simp only [World.size_alloc, World.size_setCell, World.size_drew, World.heap_drewN] at hz))
      | (go_at_call 11; with_reducible refine (c4.out _).mono ?_; rintro e w' ⟨rfl, hbl⟩; obtain ⟨hc, hf, hz⟩ := cif hbl; (try simp only [World.size_alloc, World.size_setCell, World.size_drew, World.heap_drewN] at hz))
      | (go_at_call 11; with_reducible refine (c5.out _).mono ?_; rintro e w' ⟨rfl, hbl⟩; obtain ⟨hc, hf, hz⟩ := cif hbl; (try simp only [World.size_alloc, World.size_setCell, World.size_drew, World.heap_drewN] at hz))
      | (go_at_call 11; with_reducible refine (c6.out _).mono ?_; rintro e w' ⟨rfl, hbl⟩; obtain ⟨hc, hf, hz⟩ := cif hbl; (try simp only [World.size_alloc, World.size_setCell, World.size_drew, World.heap_drewN] at hz)))
    all_goals (go_roundw; (case rel => (exact ⟨1, by omega, by go_num, by unfold Ext at hX ⊢; (repeat' (first | (with_reducible exact Below.refl _ _) | (with_reducible assumption) | (with_reducible refine Below.setCell ?_ ?_ _) | (with_reducible refine Below.alloc ?_ ?_ _) | (with_reducible refine Below.drew ?_) | (with_reducible refine below_drewN ?_ _) | (with_reducible refine below_next ?_ (by with_reducible assumption)) | omega | (dsimp only; omega) | (simp only [World.size_alloc, World.size_setCell, World.size_drew, World.heap_drewN]; omega)))⟩)); (case measure => (simp [intOf])))
  · obtain ⟨bL, bM, bG, bE, bS, bN, hs⟩ := S1.out
    obtain ⟨⟨d1, d2, d3, d4, d5, d6, d7, d8⟩, d9, d10, d11, d12, d13, c1, c2, c3, c4, c5, c6⟩ := hs
    have d14 := d10 rfl; clear d10
    go_wp2_with (first
      | (go_at_call 13; with_reducible refine (I1.out _).mono ?_; rintro e w' ⟨rfl, hbl⟩; obtain ⟨hc, hf, hz⟩ := cif hbl; (try simp only [World.size_alloc, World.size_setCell, World.size_drew, World.heap_drewN] at hz))
      | (go_at_call 13; with_reducible refine (I2.out _).mono ?_; rintro e w' ⟨rfl, hbl⟩; obtain ⟨hc, hf, hz⟩ := cif hbl; (try simp only [World.size_alloc, World.size_setCell, World.size_drew, World.heap_drewN] at hz))
      | (go_at_call 14; with_reducible refine (J1.out _).mono ?_; rintro e w' ⟨rfl, hbl⟩; obtain ⟨hc, hf, hz⟩ := cif hbl; (try simp only [World.size_alloc, World.size_setCell, World.size_drew, World.heap_drewN] at hz))
      | (go_at_call 14; with_reducible refine (J2.out _).mono ?_; rintro e w' ⟨rfl, hbl⟩; obtain ⟨hc, hf, hz⟩ := cif hbl; (try simp only [World.size_alloc, World.size_setCell, World.size_drew, World.heap_drewN] at hz))
      | (go_at_call 15; with_reducible refine (doubleOf_any _ _).mono ?_; rintro e w' ⟨rfl, hbl⟩; obtain ⟨hc, hf, hz⟩ := cif hbl; (try simp only [World.size_alloc, World.size_setCell, World.size_drew, World.heap_drewN] at hz))
      | (go_at_call 11; with_reducible refine (c1.out _).mono ?_; rintro e w' ⟨rfl, hbl⟩; obtain ⟨hc, hf, hz⟩ := cif hbl; (try simp only [World.size_alloc, World.size_setCell, World.size_drew, World.heap_drewN] at hz))
      | (go_at_call 11; with_reducible refine (c2.out _).mono ?_; rintro e w' ⟨rfl, hbl⟩; obtain ⟨hc, hf, hz⟩ := cif hbl; (try simp only [World.size_alloc, World.size_setCell, World.size_drew, World.heap_drewN] at hz))
      | (go_at_call 11; with_reducible refine (c3.out _).mono ?_; rintro e w' ⟨rfl, hbl⟩; obtain ⟨hc, hf, hz⟩ := cif hbl; (try simp only [World.size_alloc, World.size_setCell, World.size_drew, World.heap_drewN] at hz))
      | (go_at_call 11; with_reducible refine (c4.out _).mono ?_; rintro e w' ⟨rfl, hbl⟩; obtain ⟨hc, hf, hz⟩ := cif hbl; (try simp only [World.size_alloc, World.size_setCell, World.size_drew, World.heap_drewN] at hz))
      | (go_at_call 11; with_reducible refine (c5.out _).mono ?_; rintro e w' ⟨rfl, hbl⟩; obtain ⟨hc, hf, hz⟩ := cif hbl; (try simp only [World.size_alloc, World.size_setCell, World.size_drew, World.heap_drewN] at hz))
      | (go_at_call 11; with_reducible refine (c6.out _).mono ?_; rintro e w' ⟨rfl, hbl⟩; obtain ⟨hc, hf, hz⟩ := cif hbl; (try simp only [World.size_alloc, World.size_setCell, World.size_drew, World.heap_drewN] at hz)))
    all_goals (go_roundw; (case rel => (exact ⟨2, by omega, by go_num, by unfold Ext at hX ⊢; (repeat' (first | (with_reducible exact Below.refl _ _) | (with_reducible assumption) | (with_reducible refine Below.setCell ?_ ?_ _) | (with_reducible refine Below.alloc ?_ ?_ _) | (with_reducible refine Below.drew ?_) | (with_reducible refine below_drewN ?_ _) | (with_reducible refine below_next ?_ (by with_reducible assumption)) | omega | (dsimp only; omega) | (simp only [World.size_alloc, World.size_setCell, World.size_drew, World.heap_drewN]; omega)))⟩)); (case measure => (simp [intOf])))
  · obtain ⟨cL, cM, cG, cE, cS, cN, hs⟩ := S2.out
    obtain ⟨⟨d1, d2, d3, d4, d5, d6, d7, d8⟩, d9, d10, d11, d12, d13, c1, c2, c3, c4, c5, c6⟩ := hs
    have d14 := d10 rfl; clear d10
    go_wp2_with (first
      | (go_at_call 13; with_reducible refine (I1.out _).mono ?_; rintro e w' ⟨rfl, hbl⟩; obtain ⟨hc, hf, hz⟩ := cif hbl; (try simp only [World.size_alloc, World.size_setCell, World.size_drew, World.heap_drewN] at hz))
      | (go_at_call 13; with_reducible refine (I2.out _).mono ?_; rintro e w' ⟨rfl, hbl⟩; obtain ⟨hc, hf, hz⟩ := cif hbl; (try simp only [World.size_alloc, World.size_setCell, World.size_drew, World.heap_drewN] at hz))
      | (go_at_call 14; with_reducible refine (J1.out _).mono ?_; rintro e w' ⟨rfl, hbl⟩; obtain ⟨hc, hf, hz⟩ := cif hbl; (try simp only [World.size_alloc, World.size_setCell, World.size_drew, World.heap_drewN] at hz))
      | (go_at_call 14; with_reducible refine (J2.out _).mono ?_; rintro e w' ⟨rfl, hbl⟩; obtain ⟨hc, hf, hz⟩ := cif hbl; (try simp only [World.size_alloc, World.size_setCell, World.size_drew, World.heap_drewN] at hz))
      | (go_at_call 15; with_reducible refine (doubleOf_any _ _).mono ?_; rintro e w' ⟨rfl, hbl⟩; obtain ⟨hc, hf, hz⟩ := cif hbl; (try simp only [World.size_alloc, World.size_setCell, World.size_drew, World.heap_drewN] at hz))
      | (go_at_call 11; with_reducible refine (c1.out _).mono ?_; rintro e w' ⟨rfl, hbl⟩; obtain ⟨hc, hf, hz⟩ := cif hbl; (try simp only [World.size_alloc, World.size_setCell, World.size_drew, World.heap_drewN] at hz))
      | (go_at_call 11; with_reducible refine (c2.out _).mono ?_; rintro e w' ⟨rfl, hbl⟩; obtain ⟨hc, hf, hz⟩ := cif hbl; (try simp only [World.size_alloc, World.size_setCell, World.size_drew, World.heap_drewN] at hz))
      | (go_at_call 11; with_reducible refine (c3.out _).mono ?_; rintro e w' ⟨rfl, hbl⟩; obtain ⟨hc, hf, hz⟩ := cif hbl; (try simp only [World.size_alloc, World.size_setCell, World.size_drew, World.heap_drewN] at hz))
      | (go_at_call 11; with_reducible refine (c4.out _).mono ?_; rintro e w' ⟨rfl, hbl⟩; obtain ⟨hc, hf, hz⟩ := cif hbl; (try simp only [World.size_alloc, World.size_setCell, World.size_drew, World.heap_drewN] at hz))
      | (go_at_call 11; with_reducible refine (c5.out _).mono ?_; rintro e w' ⟨rfl, hbl⟩; obtain ⟨hc, hf, hz⟩ := cif hbl; (try simp only [World.size_alloc, World.size_setCell, World.size_drew, World.heap_drewN] at hz))
      | (go_at_call 11; with_reducible refine (c6.out _).mono ?_; rintro e w' ⟨rfl, hbl⟩; obtain ⟨hc, hf, hz⟩ := cif hbl; (try simp only [World.size_alloc, World.size_setCell, World.size_drew, World.heap_drewN] at hz)))
    all_goals (go_roundw; (case rel => (exact ⟨3, by omega, by go_num, by unfold Ext at hX ⊢; (repeat' (first | (with_reducible exact Below.refl _ _) | (with_reducible assumption) | (with_reducible refine Below.setCell ?_ ?_ _) | (with_reducible refine Below.alloc ?_ ?_ _) | (with_reducible refine Below.drew ?_) | (with_reducible refine below_drewN ?_ _) | (with_reducible refine below_next ?_ (by with_reducible assumption)) | omega | (dsimp only; omega) | (simp only [World.size_alloc, World.size_setCell, World.size_drew, World.heap_drewN]; omega)))⟩)); (case measure => (simp [intOf])))
  · obtain ⟨dL, dM, dG, dE, dS, dN, hs⟩ := S3.out
    obtain ⟨⟨d1, d2, d3, d4, d5, d6, d7, d8⟩, d9, d10, d11, d12, d13, c1, c2, c3, c4, c5, c6⟩ := hs
    have d14 := d10 rfl; clear d10
    go_wp2_with (first
      | (go_at_call 13; with_reducible refine (I1.out _).mono ?_; rintro e w' ⟨rfl, hbl⟩; obtain ⟨hc, hf, hz⟩ := cif hbl; (try simp only [World.size_alloc, World.size_setCell, World.size_drew, World.heap_drewN] at hz))
      | (go_at_call 13; with_reducible refine (I2.out _).mono ?_; rintro e w' ⟨rfl, hbl⟩; obtain ⟨hc, hf, hz⟩ := cif hbl; (try simp only [World.size_alloc, World.size_setCell, World.size_drew, World.heap_drewN] at hz))
      | (go_at_call 14; with_reducible refine (J1.out _).mono ?_; rintro e w' ⟨rfl, hbl⟩; obtain ⟨hc, hf, hz⟩ := cif hbl; (try simp only [World.size_alloc, World.size_setCell, World.size_drew, World.heap_drewN] at hz))
      | (go_at_call 14; with_reducible refine (J2.out _).mono ?_; rintro e w' ⟨rfl, hbl⟩; obtain ⟨hc, hf, hz⟩ := cif hbl; (try simp only [World.size_alloc, World.size_setCell, World.size_drew, World.heap_drewN] at hz))
      | (go_at_call 15; with_reducible refine (doubleOf_any _ _).mono ?_; rintro e w' ⟨rfl, hbl⟩; obtain ⟨hc, hf, hz⟩ := cif hbl; (try simp only [World.size_alloc, World.size_setCell, World.size_drew, World.heap_drewN] at hz))
      | (go_at_call 11; with_reducible refine (c1.out _).mono ?_; rintro e w' ⟨rfl, hbl⟩; obtain ⟨hc, hf, hz⟩ := cif hbl; (try simp only [World.size_alloc, World.size_setCell, World.size_drew, World.heap_drewN] at hz))
      | (go_at_call 11; with_reducible refine (c2.out _).mono ?_; rintro e w' ⟨rfl, hbl⟩; obtain ⟨hc, hf, hz⟩ := cif hbl; (try simp only [World.size_alloc, World.size_setCell, World.size_drew, World.heap_drewN] at hz))
      | (go_at_call 11; with_reducible refine (c3.out _).mono ?_; rintro e w' ⟨rfl, hbl⟩; obtain ⟨hc, hf, hz⟩ := cif hbl; (try simp only [World.size_alloc, World.size_setCell, World.size_drew, World.heap_drewN] at hz))
      | (go_at_call 11; with_reducible refine (c4.out _).mono ?_; rintro e w' ⟨rfl, hbl⟩; obtain ⟨hc, hf, hz⟩ := cif hbl; (try simp only [World.size_alloc, World.size_setCell, World.size_drew, World.heap_drewN] at hz))
      | (go_at_call 11; with_reducible refine (c5.out _).mono ?_; rintro e w' ⟨rfl, hbl⟩; obtain ⟨hc, hf, hz⟩ := cif hbl; (try simp only [World.size_alloc, World.size_setCell, World.size_drew, World.heap_drewN] at hz))
      | (go_at_call 11; with_reducible refine (c6.out _).mono ?_; rintro e w' ⟨rfl, hbl⟩; obtain ⟨hc, hf, hz⟩ := cif hbl; (try simp only [World.size_alloc, World.size_setCell, World.size_drew, World.heap_drewN] at hz)))
    all_goals (go_roundw; (case rel => (exact ⟨4, by omega, by go_num, by unfold Ext at hX ⊢; (repeat' (first | (with_reducible exact Below.refl _ _) | (with_reducible assumption) | (with_reducible refine Below.setCell ?_ ?_ _) | (with_reducible refine Below.alloc ?_ ?_ _) | (with_reducible refine Below.drew ?_) | (with_reducible refine below_drewN ?_ _) | (with_reducible refine below_next ?_ (by with_reducible assumption)) | omega | (dsimp only; omega) | (simp only [World.size_alloc, World.size_setCell, World.size_drew, World.heap_drewN]; omega)))⟩)); (case measure => (simp [intOf])))
  · by_cases c0 : ∃ L M G E S N, Six 68 69 70 71 66 67 3 x y true L M G E S N ∧ (L + G + S == 0) = true
    · obtain ⟨eL, eM, eG, eE, eS, eN, hs⟩ := c0
      obtain ⟨hs, d14⟩ := hs; obtain ⟨⟨d1, d2, d3, d4, d5, d6, d7, d8⟩, d9, d10, d11, d12, d13, c1, c2, c3, c4, c5, c6⟩ := hs
      clear d10
      go_wp2_with (first
        | (go_at_call 13; with_reducible refine (I1.out _).mono ?_; rintro e w' ⟨rfl, hbl⟩; obtain ⟨hc, hf, hz⟩ := cif hbl; (try simp only [World.size_alloc, World.size_setCell, World.size_drew, World.heap_drewN] at hz))
        | (go_at_call 13; with_reducible refine (I2.out _).mono ?_; rintro e w' ⟨rfl, hbl⟩; obtain ⟨hc, hf, hz⟩ := cif hbl; (try simp only [World.size_alloc, World.size_setCell, World.size_drew, World.heap_drewN] at hz))
        | (go_at_call 14; with_reducible refine (J1.out _).mono ?_; rintro e w' ⟨rfl, hbl⟩; obtain ⟨hc, hf, hz⟩ := cif hbl; (try simp only [World.size_alloc, World.size_setCell, World.size_drew, World.heap_drewN] at hz))
        | (go_at_call 14; with_reducible refine (J2.out _).mono ?_; rintro e w' ⟨rfl, hbl⟩; obtain ⟨hc, hf, hz⟩ := cif hbl; (try simp only [World.size_alloc, World.size_setCell, World.size_drew, World.heap_drewN] at hz))
        | (go_at_call 15; with_reducible refine (doubleOf_any _ _).mono ?_; rintro e w' ⟨rfl, hbl⟩; obtain ⟨hc, hf, hz⟩ := cif hbl; (try simp only [World.size_alloc, World.size_setCell, World.size_drew, World.heap_drewN] at hz))
        | (go_at_call 11; with_reducible refine (c1.out _).mono ?_; rintro e w' ⟨rfl, hbl⟩; obtain ⟨hc, hf, hz⟩ := cif hbl; (try simp only [World.size_alloc, World.size_setCell, World.size_drew, World.heap_drewN] at hz))
        | (go_at_call 11; with_reducible refine (c2.out _).mono ?_; rintro e w' ⟨rfl, hbl⟩; obtain ⟨hc, hf, hz⟩ := cif hbl; (try simp only [World.size_alloc, World.size_setCell, World.size_drew, World.heap_drewN] at hz))
        | (go_at_call 11; with_reducible refine (c3.out _).mono ?_; rintro e w' ⟨rfl, hbl⟩; obtain ⟨hc, hf, hz⟩ := cif hbl; (try simp only [World.size_alloc, World.size_setCell, World.size_drew, World.heap_drewN] at hz))
        | (go_at_call 11; with_reducible refine (c4.out _).mono ?_; rintro e w' ⟨rfl, hbl⟩; obtain ⟨hc, hf, hz⟩ := cif hbl; (try simp only [World.size_alloc, World.size_setCell, World.size_drew, World.heap_drewN] at hz))
        | (go_at_call 11; with_reducible refine (c5.out _).mono ?_; rintro e w' ⟨rfl, hbl⟩; obtain ⟨hc, hf, hz⟩ := cif hbl; (try simp only [World.size_alloc, World.size_setCell, World.size_drew, World.heap_drewN] at hz))
        | (go_at_call 11; with_reducible refine (c6.out _).mono ?_; rintro e w' ⟨rfl, hbl⟩; obtain ⟨hc, hf, hz⟩ := cif hbl; (try simp only [World.size_alloc, World.size_setCell, World.size_drew, World.heap_drewN] at hz)))
      all_goals (go_roundw; (case rel => (exact ⟨5, by omega, by go_num, by unfold Ext at hX ⊢; (repeat' (first | (with_reducible exact Below.refl _ _) | (with_reducible assumption) | (with_reducible refine Below.setCell ?_ ?_ _) | (with_reducible refine Below.alloc ?_ ?_ _) | (with_reducible refine Below.drew ?_) | (with_reducible refine below_drewN ?_ _) | (with_reducible refine below_next ?_ (by with_reducible assumption)) | omega | (dsimp only; omega) | (simp only [World.size_alloc, World.size_setCell, World.size_drew, World.heap_drewN]; omega)))⟩)); (case measure => (simp [intOf])))
    have c1 : ∃ L M G E S N, Six 68 69 70 71 66 67 3 x y true L M G E S N ∧ (L + G + S == 0) = false := by
      obtain ⟨L, M, G, E, S, N, h⟩ := S4.out
      refine ⟨L, M, G, E, S, N, h, ?_⟩
      rw [Bool.eq_false_iff]
      intro h2
      exact c0 ⟨L, M, G, E, S, N, h, h2⟩
    clear c0
    · obtain ⟨fL, fM, fG, fE, fS, fN, hs⟩ := c1
      obtain ⟨hs, d14⟩ := hs; obtain ⟨⟨d1, d2, d3, d4, d5, d6, d7, d8⟩, d9, d10, d11, d12, d13, c1, c2, c3, c4, c5, c6⟩ := hs
      clear d10
      go_wp2_with (first
        | (go_at_call 13; with_reducible refine (I1.out _).mono ?_; rintro e w' ⟨rfl, hbl⟩; obtain ⟨hc, hf, hz⟩ := cif hbl; (try simp only [World.size_alloc, World.size_setCell, World.size_drew, World.heap_drewN] at hz))
        | (go_at_call 13; with_reducible refine (I2.out _).mono ?_; rintro e w' ⟨rfl, hbl⟩; obtain ⟨hc, hf, hz⟩ := cif hbl; (try simp only [World.size_alloc, World.size_setCell, World.size_drew, World.heap_drewN] at hz))
        | (go_at_call 14; with_reducible refine (J1.out _).mono ?_; rintro e w' ⟨rfl, hbl⟩; obtain ⟨hc, hf, hz⟩ := cif hbl; (try simp only [World.size_alloc, World.size_setCell, World.size_drew, World.heap_drewN] at hz))
        | (go_at_call 14; with_reducible refine (J2.out _).mono ?_; rintro e w' ⟨rfl, hbl⟩; obtain ⟨hc, hf, hz⟩ := cif hbl; (try simp only [World.size_alloc, World.size_setCell, World.size_drew, World.heap_drewN] at hz))
        | (go_at_call 15; with_reducible refine (doubleOf_any _ _).mono ?_; rintro e w' ⟨rfl, hbl⟩; obtain ⟨hc, hf, hz⟩ := cif hbl; (try simp only [World.size_alloc, World.size_setCell, World.size_drew, World.heap_drewN] at hz))
        | (go_at_call 11; with_reducible refine (c1.out _).mono ?_; rintro e w' ⟨rfl, hbl⟩; obtain ⟨hc, hf, hz⟩ := cif hbl; (try simp only [World.size_alloc, World.size_setCell, World.size_drew, World.heap_drewN] at hz))
        | (go_at_call 11; with_reducible refine (c2.out _).mono ?_; rintro e w' ⟨rfl, hbl⟩; obtain ⟨hc, hf, hz⟩ := cif hbl; (try simp only [World.size_alloc, World.size_setCell, World.size_drew, World.heap_drewN] at hz))
        | (go_at_call 11; with_reducible refine (c3.out _).mono ?_; rintro e w' ⟨rfl, hbl⟩; obtain ⟨hc, hf, hz⟩ := cif hbl; (try simp only [World.size_alloc, World.size_setCell, World.size_drew, World.heap_drewN] at hz))
        | (go_at_call 11; with_reducible refine (c4.out _).mono ?_; rintro e w' ⟨rfl, hbl⟩; obtain ⟨hc, hf, hz⟩ := cif hbl; (try simp only [World.size_alloc, World.size_setCell, World.size_drew, World.heap_drewN] at hz))
        | (go_at_call 11; with_reducible refine (c5.out _).mono ?_; rintro e w' ⟨rfl, hbl⟩; obtain ⟨hc, hf, hz⟩ := cif hbl; (try simp only [World.size_alloc, World.size_setCell, World.size_drew, World.heap_drewN] at hz))
        | (go_at_call 11; with_reducible refine (c6.out _).mono ?_; rintro e w' ⟨rfl, hbl⟩; obtain ⟨hc, hf, hz⟩ := cif hbl; (try simp only [World.size_alloc, World.size_setCell, World.size_drew, World.heap_drewN] at hz)))
      all_goals (go_roundw; (case rel => (exact ⟨5, by omega, by go_num, by unfold Ext at hX ⊢; (repeat' (first | (with_reducible exact Below.refl _ _) | (with_reducible assumption) | (with_reducible refine Below.setCell ?_ ?_ _) | (with_reducible refine Below.alloc ?_ ?_ _) | (with_reducible refine Below.drew ?_) | (with_reducible refine below_drewN ?_ _) | (with_reducible refine below_next ?_ (by with_reducible assumption)) | omega | (dsimp only; omega) | (simp only [World.size_alloc, World.size_setCell, World.size_drew, World.heap_drewN]; omega)))⟩)); (case measure => (simp [intOf])))
  · go_wp2
    all_goals (go_returns; refine ⟨rfl, ?_⟩; unfold Ext at hX; clear hc1 hf1 hcX hfX; (repeat' (first | (with_reducible exact Below.refl _ _) | (with_reducible assumption) | (with_reducible refine Below.setCell ?_ ?_ _) | (with_reducible refine Below.alloc ?_ ?_ _) | (with_reducible refine Below.drew ?_) | (with_reducible refine below_drewN ?_ _) | (with_reducible refine below_next ?_ (by with_reducible assumption)) | omega | (dsimp only; omega) | (simp only [World.size_alloc, World.size_setCell, World.size_drew, World.heap_drewN]; omega))))

theorem i64_small (n : Int) (h : 0 ≤ n ∧ n ≤ 100) : I64 n := by unfold I64; omega
theorem cmpd_all (l s : Bool) (h : ¬ (l = true ∧ s = true)) : ¬ (l = true ∧ (!l && !s) = true) ∧ ¬ ((!l && !s) = true ∧ s = true) ∧ (l || (!l && !s) || s) = true ∧ (!l) = ((!l && !s) || s) := by
  cases l <;> cases s <;> simp at *
theorem six_int (o1 o2 o3 o4 q1 q2 k a b : Int) (l s : Bool) (ho : I64 o1 ∧ I64 o2 ∧ I64 o3 ∧ I64 o4 ∧ I64 q1 ∧ I64 q2) (hA : U64 a) (hB : U64 b) (h : ¬ (l = true ∧ s = true))
    (e1 : eval2 o1 ⟨k, a, 0⟩ ⟨k, b, 0⟩ = (flagV l, true)) (e2 : eval2 o2 ⟨k, a, 0⟩ ⟨k, b, 0⟩ = (flagV (l || s), true)) (e3 : eval2 o3 ⟨k, a, 0⟩ ⟨k, b, 0⟩ = (flagV (!l && !s), true)) (e4 : eval2 o4 ⟨k, a, 0⟩ ⟨k, b, 0⟩ = (flagV (!l), true)) (e5 : eval2 q1 ⟨k, a, 0⟩ ⟨k, b, 0⟩ = (flagV s, true)) (e6 : eval2 q2 ⟨k, a, 0⟩ ⟨k, b, 0⟩ = (flagV (!s), true)) :
    Hid (∃ L M G E S N, Six o1 o2 o3 o4 q1 q2 k a b false L M G E S N) :=
  Lib.hid ⟨_, _, _, _, _, _, six_of o1 o2 o3 o4 q1 q2 k a b false l (!l && !s) s (l || s) (!l) (!s) ho hA hB h (cmpd_all l s h).1 (cmpd_all l s h).2.1 (fun _ => (cmpd_all l s h).2.2.1) rfl rfl (cmpd_all l s h).2.2.2 e1 e2 e3 e4 e5 e6⟩

theorem order_walk (m n x y : Int) (hm : I64 m) (hn : I64 n) (hx : U64 x) (hy : U64 y) (w : World) :
    Calls Try.prog 4 #[.int .i64 m, .int .i64 n, .int .u64 x, .int .u64 y] w fun e w' => e = .returned (.bool true) ∧ Below w.heap.size w w' := by
  have uX : U32 (wrap32 m % 4294967296) := mod_U32 _
  have uY : U32 (wrap32 n % 4294967296) := mod_U32 _
  have u1 : U64 (wrap32 m % 4294967296) := by unfold U64; omega
  have u2 : U64 (wrap32 n % 4294967296) := by unfold U64; omega
  have u3 : U64 (m % 18446744073709551616) := by unfold U64; omega
  have u4 : U64 (n % 18446744073709551616) := by unfold U64; omega
  have ops : ∀ a b c d e f : Int, (0 ≤ a ∧ a ≤ 100) → (0 ≤ b ∧ b ≤ 100) → (0 ≤ c ∧ c ≤ 100) → (0 ≤ d ∧ d ≤ 100) → (0 ≤ e ∧ e ≤ 100) → (0 ≤ f ∧ f ≤ 100) → I64 a ∧ I64 b ∧ I64 c ∧ I64 d ∧ I64 e ∧ I64 f :=
    fun a b c d e f h1 h2 h3 h4 h5 h6 => ⟨i64_small _ h1, i64_small _ h2, i64_small _ h3, i64_small _ h4, i64_small _ h5, i64_small _ h6⟩
  obtain ⟨⟨a1, a2, a3, a4⟩, ⟨a5, a6⟩, ⟨a7, a8, a9, a10⟩⟩ := cmp_int _ _ uX uY _ _ _ rfl rfl rfl
  obtain ⟨⟨b1, b2, b3, b4⟩, ⟨b5, b6⟩, ⟨b7, b8, b9, b10⟩⟩ := cmp_long (m % 18446744073709551616) (n % 18446744073709551616) _ _ _ rfl rfl rfl
  obtain ⟨c1, c2, c3, c4, c5, c6⟩ := cmp_dbl x y _ rfl
  refine order_core m n x y _ _ _ _ w (Lib.hid (intOf_any _)) (Lib.hid (intOf_any _)) (Lib.hid (longOf_any _)) (Lib.hid (longOf_any _))
    (six_int 18 19 20 21 16 17 1 _ _ _ _ (ops _ _ _ _ _ _ (by omega) (by omega) (by omega) (by omega) (by omega) (by omega)) u1 u2 (tri32 _ _ uX uY) a1 a2 a3 a4 a5 a6)
    (six_int 22 23 24 25 16 17 1 _ _ _ _ (ops _ _ _ _ _ _ (by omega) (by omega) (by omega) (by omega) (by omega) (by omega)) u1 u2 (trilu _ _) a7 a8 a9 a10 a5 a6)
    (six_int 48 49 50 51 46 47 2 _ _ _ _ (ops _ _ _ _ _ _ (by omega) (by omega) (by omega) (by omega) (by omega) (by omega)) u3 u4 (tri64 _ _) b1 b2 b3 b4 b5 b6)
    (six_int 52 53 54 55 46 47 2 _ _ _ _ (ops _ _ _ _ _ _ (by omega) (by omega) (by omega) (by omega) (by omega) (by omega)) u3 u4 (trilu _ _) b7 b8 b9 b10 b5 b6)
    (Lib.hid ⟨_, _, _, _, _, _, six_of 68 69 70 71 66 67 3 x y true _ _ _ _ _ _ (ops _ _ _ _ _ _ (by omega) (by omega) (by omega) (by omega) (by omega) (by omega)) hx hy ?_ ?_ ?_ ?_ ?_ ?_ ?_ c1 c2 c3 c4 c5 c6⟩)
  all_goals (generalize ford x.toNat y.toNat = o; rcases o with _ | o <;> first | (cases o <;> simp [fcmp]; done) | (simp [fcmp]; done))

end Go.Proofs.Ytonhphiajjkgaaa
