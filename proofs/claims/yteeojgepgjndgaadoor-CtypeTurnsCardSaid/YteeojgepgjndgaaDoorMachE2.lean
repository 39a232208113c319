/-
  A double as a whole number: the program's and the reference's.
-/
import Derived.Test.YteeojgepgjndgaaDoorMachE1
import Derived.Test.YteeojgepgjndgaaDoorFloat2
import Derived.Outline
namespace Go.Proofs.YteeojgepgjndgaaDoor
open Go.RowKit
set_option linter.unusedVariables false
set_option maxRecDepth 100000
set_option linter.unusedSimpArgs false
set_option exponentiation.threshold 4096

/-- A double as a whole number of an operation's kind. -/
def toWholeV (op : Int) (x : Nat) : V × Bool := match wholeOf x with
  | none => (undefV, false)
  | some T => if op = 91 then (if -2147483648 ≤ T ∧ T < 2147483648 then (intV T, true) else (undefV, false))
    else if op = 92 then (if 0 ≤ T ∧ T < 4294967296 then (intV T, true) else (undefV, false))
    else if op = 93 then (if -9223372036854775808 ≤ T ∧ T < 9223372036854775808 then (longV T, true) else (undefV, false))
    else (if 0 ≤ T ∧ T < 18446744073709551616 then (longV T, true) else (undefV, false))

theorem ford_eq (x y : Nat) : FloatKind.f64.format.order x y = Ieee.double.order x y := rfl

theorem fin_run (x : Nat) (d : Ieee.Datum) (h : Ieee.double.read x = d) (hd : d.isNaN = false) (w : World) :
    (Extern.MathFloor.toIntegral "math.archTrunc" .zero #[.float .f64 x]).run Tryd.prog w = .ok (.float .f64 (Ieee.double.write (d.integral .zero))) w := by
  subst h
  show Sem.run Tryd.prog (match FloatKind.f64.decode x with | .nan s t => _ | d => pure (Value.float .f64 (FloatKind.f64.encode (d.integral .zero)))) w = _
  have hd' : (FloatKind.f64.decode x).isNaN = false := hd
  have e : Ieee.double.read x = FloatKind.f64.decode x := rfl
  rw [e]
  cases hx : FloatKind.f64.decode x with
  | number s m p => rfl
  | infinity s => rfl
  | nan s t => rw [hx] at hd'; cases hd'

theorem read_quiet (s : Bool) (t : Nat) (h : t < 2 ^ 52) : ∃ s' t', Ieee.double.read (Ieee.double.word s (Ieee.double.infRung + (Ieee.double.quiet t) % Ieee.double.binade)) = .nan s' t' := by
  have hq : 2 ^ 51 ≤ (Ieee.double.quiet t) := by unfold Ieee.Format.quiet; exact Nat.right_le_or
  have hq2 : (Ieee.double.quiet t) < 2 ^ 52 := by unfold Ieee.Format.quiet; exact Nat.or_lt_two_pow h (by decide)
  rw [d_binade, d_inf, Nat.mod_eq_of_lt hq2]
  obtain ⟨q, hq0⟩ : ∃ q, q = Ieee.double.quiet t := ⟨_, rfl⟩
  rw [← hq0] at hq hq2 ⊢
  have e2 : Ieee.double.word s (2047 * 2 ^ 52 + q) % 2 ^ 63 = 2047 * 2 ^ 52 + q := by
    unfold Ieee.Format.word; rw [d_sign]
    cases s
    · simp only [Bool.false_eq_true, if_false]; omega
    · simp only [if_true]; omega
  unfold Ieee.Format.read
  rw [d_sign, d_binade, d_least, d_inf]
  dsimp only
  rw [e2, if_neg (by omega), if_neg (by omega), if_neg (by omega)]
  exact ⟨_, _, rfl⟩

theorem read_nan {x : Nat} {s : Bool} {t : Nat} (h : Ieee.double.read x = .nan s t) : t < 2 ^ 52 := by
  unfold Ieee.Format.read at h
  rw [d_binade, d_least, d_inf, d_sign] at h
  dsimp only at h
  split at h
  · cases h
  · split at h
    · cases h
    · split at h
      · cases h
      · injection h with h1 h2
        omega

theorem nan_run (x : Nat) (s : Bool) (t : Nat) (h : Ieee.double.read x = .nan s t) (w : World) :
    ∃ y w', (∃ s' t', Ieee.double.read y = .nan s' t') ∧ Below w.heap.size w w' ∧ (Extern.MathFloor.toIntegral "math.archTrunc" .zero #[.float .f64 x]).run Tryd.prog w = .ok (.float .f64 y) w' := by
  have ht := read_nan h
  by_cases hq : FloatKind.f64.format.quiet t = t
  · refine ⟨x, w, ⟨s, t, h⟩, Below.refl _ _, ?_⟩
    show Sem.run Tryd.prog (match FloatKind.f64.decode x with | .nan s t => if FloatKind.f64.format.quiet t = t then pure (Value.float .f64 x) else (do let kept ← choose _; pure (Value.float .f64 (if kept == 1 then x else _))) | d => pure _) w = _
    have e : FloatKind.f64.decode x = .nan s t := h
    rw [e]
    dsimp only
    rw [if_pos hq]
    rfl
  · have key : ∃ y w', (y = x ∨ y = FloatKind.f64.encode (.nan s (FloatKind.f64.format.quiet t))) ∧ Below w.heap.size w w' ∧ (Extern.MathFloor.toIntegral "math.archTrunc" .zero #[.float .f64 x]).run Tryd.prog w = .ok (.float .f64 y) w' := by
      have gen : ∀ q : Question, ∃ y w', (y = x ∨ y = FloatKind.f64.encode (.nan s (FloatKind.f64.format.quiet t))) ∧ Below w.heap.size w w' ∧
          Sem.run Tryd.prog (do let kept ← choose q; pure (Value.float .f64 (if kept == 1 then x else FloatKind.f64.encode (.nan s (FloatKind.f64.format.quiet t))))) w = .ok (.float .f64 y) w' := by
        intro q
        have hor : ∀ b : Bool, (if b = true then x else FloatKind.f64.encode (.nan s (FloatKind.f64.format.quiet t))) = x ∨ (if b = true then x else FloatKind.f64.encode (.nan s (FloatKind.f64.format.quiet t))) = FloatKind.f64.encode (.nan s (FloatKind.f64.format.quiet t)) := by
          intro b; cases b <;> simp
        by_cases hf : q.forced = true
        · refine ⟨_, w, hor ((0 : Nat) == 1), Below.refl _ _, ?_⟩
          rw [Sem.run_bind, run_choose_drew, if_pos hf]
          rfl
        · refine ⟨_, w.drew, hor (q.cut (w.tape w.drawn q) == 1), (Below.refl _ _).drew, ?_⟩
          rw [Sem.run_bind, run_choose_drew, if_neg hf]
          rfl
      show ∃ y w', (y = x ∨ y = FloatKind.f64.encode (.nan s (FloatKind.f64.format.quiet t))) ∧ Below w.heap.size w w' ∧
        Sem.run Tryd.prog (match FloatKind.f64.decode x with | .nan s t => if FloatKind.f64.format.quiet t = t then pure (Value.float .f64 x) else (do let kept ← choose _; pure (Value.float .f64 (if kept == 1 then x else _))) | d => pure _) w = .ok (.float .f64 y) w'
      have e : FloatKind.f64.decode x = .nan s t := h
      rw [e]
      dsimp only
      rw [if_neg hq]
      exact gen _
    obtain ⟨y, w', hy, hb, hr⟩ := key
    refine ⟨y, w', ?_, hb, hr⟩
    rcases hy with rfl | rfl
    · exact ⟨s, t, h⟩
    · exact read_quiet s t ht

theorem arch_run (x : Nat) (w : World) : ∃ y w', TruncOf x y ∧ Below w.heap.size w w' ∧ (callFunc 111 #[.float .f64 x]).run Tryd.prog w = .ok (.value (.float .f64 y)) w' := by
  have e : (callFunc 111 #[.float .f64 x]).run Tryd.prog w = (do let v ← Extern.MathFloor.toIntegral "math.archTrunc" .zero #[.float .f64 x]; pure (Next.value v)).run Tryd.prog w := by kernel_rfl
  rw [e]
  cases h : Ieee.double.read x with
  | number s m p =>
    refine ⟨_, w, trunc_number h, Below.refl _ _, ?_⟩
    rw [Sem.run_bind, fin_run x _ h rfl w]
    rfl
  | infinity s =>
    refine ⟨Ieee.double.write (.infinity s), w, ?_, Below.refl _ _, ?_⟩
    · unfold TruncOf
      rw [h]
      cases s <;> decide +kernel
    · rw [Sem.run_bind, fin_run x _ h rfl w]
      rfl
  | nan s t =>
    obtain ⟨y, w', hy, hb, hr⟩ := nan_run x s t h w
    refine ⟨y, w', ?_, hb, ?_⟩
    · unfold TruncOf; rw [h]; exact hy
    · rw [Sem.run_bind, hr]
      rfl

def TruncPost (x : Nat) (w : World) (e : Ending) (w' : World) : Prop := ∃ y, e = .returned (.float .f64 y) ∧ TruncOf x y ∧ Below w.heap.size w w'

set_option maxHeartbeats 1000000 in
theorem trunc_any (x : Nat) (w : World) : Calls Tryd.prog 103 #[.float .f64 x] w (TruncPost x w) := by
  obtain ⟨y, w1, hy, hb, hr⟩ := arch_run x w
  go_enter Tryd.func103, Tryd.ntmps103
  go_wp2
  go_returns
  exact ⟨y, rfl, hy, hb⟩

set_option maxHeartbeats 1000000 in
theorem in_any (y lo hi : Nat) (a : Addr) (w : World) (hc : w.cell? a = some (.float .f64 y)) :
    Calls Tryd.prog 104 #[.float .f64 lo, .float .f64 hi, .pointer (some a)] w fun e w' => e = .returned (.bool ((Ieee.double.order y lo == some .gt || Ieee.double.order y lo == some .eq) && (Ieee.double.order y hi == some .lt))) ∧ w = w' := by
  go_enter Tryd.func104, Tryd.ntmps104
  go_wp2
  all_goals (go_returns; go_light; simp [ford_eq] at *; try (simp [*]; done))

/-- The closure's answer, by the whole part. -/
theorem in_tr {x y lo hi : Nat} {L H : Int} (b : Bool) (h : TruncOf x y) (hl : Const lo L) (hh : Const hi H) (hb : okT (wholeOf x) L H = b) (a : Addr) (w : World) (hc : w.cell? a = some (.float .f64 y)) :
    Calls Tryd.prog 104 #[.float .f64 lo, .float .f64 hi, .pointer (some a)] w fun e w' => e = .returned (.bool b) ∧ w = w' := by
  have g := in_any y lo hi a w hc
  rw [in_trunc h hl hh, hb] at g
  exact g

theorem conv_y {x y : Nat} {T : Int} {D : TypeId} {k : IntKind} (hT : wholeOf x = some T) (hD : Tryd.prog.underlying D = some (.int k)) (hk : k.min ≤ T ∧ T ≤ k.max) (h : TruncOf x y) (w : World) :
    (convert 148 D (.float .f64 y)).run Tryd.prog w = .ok (.int k T) w := by
  refine run_convert_float_int w _ D .f64 k y T (by rw [Tryd.underlying148]; rfl) hD ?_
  have e : ((FloatKind.f64.decode y).toInt .zero) = some T := by rw [← hT, ← wholeOf_trunc h]; rfl
  unfold floatToIntVal
  rw [e]
  dsimp only
  rw [if_pos hk]

@[go_sem] theorem run_store_float {P : Program} {w : World} {a : Addr} {m : Mode} (k : FloatKind) (n : Nat) : (store a (.float k n) m).run P w = stored P w a (.float k n) m := run_store P w a _ m rfl

set_option maxRecDepth 100000 in
set_option maxHeartbeats 4000000 in
theorem tw_91_yes (x : Nat) (T : Int) (hT : wholeOf x = some T) (hr : -2147483648 ≤ T ∧ T < 2147483648) (w : World) :
    Calls Tryd.prog 94 #[.int .i64 91, .float .f64 x] w fun e w' => e = .returned (.tuple #[.agg #[.int .i64 (intV T).k, .int .u64 (intV T).b, .int .i64 (intV T).l], .bool true]) ∧ Below w.heap.size w w' := by
  have hok : okT (wholeOf x) (-2147483648) (2147483648) = true := by rw [hT]; simp [okT]; exact hr
  have HIN : Hid (∀ (y : Nat) (a : Addr) (w : World), TruncOf x y → w.cell? a = some (.float .f64 y) → Calls Tryd.prog 104 #[.float .f64 13970166044103278592, .float .f64 4746794007248502784, .pointer (some a)] w fun e w' => e = .returned (.bool true) ∧ w = w') := Lib.hid fun y a w h hc => in_tr true h c_m31 c_p31 hok a w hc
  have HCV : Hid (∀ y, TruncOf x y → ∀ w : World, (convert 148 21 (.float .f64 y)).run Tryd.prog w = .ok (.int .i32 T) w) := Lib.hid fun y h w => conv_y hT (by exact Tryd.underlying21) (by rw [show IntKind.i32.min = -2147483648 from by decide, show IntKind.i32.max = 2147483648 - 1 from by decide]; omega) h w
  obtain ⟨r1, r2⟩ := hr
  clear hok hT
  have hA1 := cell_alloc_if
  have hA2 := frozen_alloc_if
  have hA3 := cell_set_if
  go_enter Tryd.func94, Tryd.ntmps94
  go_wp2_with (first
    | (go_at_call 103; (with_reducible refine (trunc_any _ _).mono ?_); rintro e w1 ⟨y, rfl, hy, hbl⟩; have hcv := HCV.out y hy; obtain ⟨hc, hf, hz⟩ := cif hbl; (try simp only [World.size_alloc, World.size_setCell, World.size_drew, World.heap_drewN] at hz))
    | (go_at_call 104; (with_reducible refine (HIN.out y _ _ hy ?_).mono ?_); (focus (simp [*, ↓IntWalk.iteOmega]; done)); rintro e w1 ⟨rfl, rfl⟩)
    | (go_at_call 91; with_reducible refine (intOf_any _ _).mono ?_; rintro e w' ⟨rfl, hbl⟩; obtain ⟨hc, hf, hz⟩ := cif hbl; (try simp only [World.size_alloc, World.size_setCell, World.size_drew, World.heap_drewN] at hz))
    | (go_at_call 38; with_reducible refine (longOf_any _ _).mono ?_; rintro e w' ⟨rfl, hbl⟩; obtain ⟨hc, hf, hz⟩ := cif hbl; (try simp only [World.size_alloc, World.size_setCell, World.size_drew, World.heap_drewN] at hz)))
  all_goals (((try simp only [Exit.inBlock, Exit.then]); go_light; refine bodyPost_ret (by simp [results, Tryd.results94, go_sem, *, ↓IntWalk.iteOmega]; try rfl) rfl ?_); refine ⟨congrArg Ending.returned ?_, by (repeat' (first | (with_reducible exact Below.refl _ _) | (with_reducible assumption) | (with_reducible refine Below.setCell ?_ ?_ _) | (with_reducible refine Below.alloc ?_ ?_ _) | (with_reducible refine Below.drew ?_) | (with_reducible refine below_drewN ?_ _) | (with_reducible refine below_next ?_ (by with_reducible assumption)) | omega | (dsimp only; omega) | (simp only [World.size_alloc, World.size_setCell, World.size_drew, World.heap_drewN]; omega)))⟩; simp [intV, longV, IntKind.wrap_u64, wrap32_mod, wrap64_mod])
set_option maxRecDepth 100000 in
set_option maxHeartbeats 4000000 in
theorem tw_92_yes (x : Nat) (T : Int) (hT : wholeOf x = some T) (hr : 0 ≤ T ∧ T < 4294967296) (w : World) :
    Calls Tryd.prog 94 #[.int .i64 92, .float .f64 x] w fun e w' => e = .returned (.tuple #[.agg #[.int .i64 (intV T).k, .int .u64 (intV T).b, .int .i64 (intV T).l], .bool true]) ∧ Below w.heap.size w w' := by
  have hok : okT (wholeOf x) (0) (4294967296) = true := by rw [hT]; simp [okT]; exact hr
  have HIN : Hid (∀ (y : Nat) (a : Addr) (w : World), TruncOf x y → w.cell? a = some (.float .f64 y) → Calls Tryd.prog 104 #[.float .f64 0, .float .f64 4751297606875873280, .pointer (some a)] w fun e w' => e = .returned (.bool true) ∧ w = w') := Lib.hid fun y a w h hc => in_tr true h c_zero c_p32 hok a w hc
  have HCV : Hid (∀ y, TruncOf x y → ∀ w : World, (convert 148 141 (.float .f64 y)).run Tryd.prog w = .ok (.int .u32 T) w) := Lib.hid fun y h w => conv_y hT (by exact Tryd.underlying141) (by rw [show IntKind.u32.min = 0 from by decide, show IntKind.u32.max = 4294967296 - 1 from by decide]; omega) h w
  obtain ⟨r1, r2⟩ := hr
  clear hok hT
  have hA1 := cell_alloc_if
  have hA2 := frozen_alloc_if
  have hA3 := cell_set_if
  go_enter Tryd.func94, Tryd.ntmps94
  go_wp2_with (first
    | (go_at_call 103; (with_reducible refine (trunc_any _ _).mono ?_); rintro e w1 ⟨y, rfl, hy, hbl⟩; have hcv := HCV.out y hy; obtain ⟨hc, hf, hz⟩ := cif hbl; (try simp only [World.size_alloc, World.size_setCell, World.size_drew, World.heap_drewN] at hz))
    | (go_at_call 104; (with_reducible refine (HIN.out y _ _ hy ?_).mono ?_); (focus (simp [*, ↓IntWalk.iteOmega]; done)); rintro e w1 ⟨rfl, rfl⟩)
    | (go_at_call 91; with_reducible refine (intOf_any _ _).mono ?_; rintro e w' ⟨rfl, hbl⟩; obtain ⟨hc, hf, hz⟩ := cif hbl; (try simp only [World.size_alloc, World.size_setCell, World.size_drew, World.heap_drewN] at hz))
    | (go_at_call 38; with_reducible refine (longOf_any _ _).mono ?_; rintro e w' ⟨rfl, hbl⟩; obtain ⟨hc, hf, hz⟩ := cif hbl; (try simp only [World.size_alloc, World.size_setCell, World.size_drew, World.heap_drewN] at hz)))
  all_goals (((try simp only [Exit.inBlock, Exit.then]); go_light; refine bodyPost_ret (by simp [results, Tryd.results94, go_sem, *, ↓IntWalk.iteOmega]; try rfl) rfl ?_); refine ⟨congrArg Ending.returned ?_, by (repeat' (first | (with_reducible exact Below.refl _ _) | (with_reducible assumption) | (with_reducible refine Below.setCell ?_ ?_ _) | (with_reducible refine Below.alloc ?_ ?_ _) | (with_reducible refine Below.drew ?_) | (with_reducible refine below_drewN ?_ _) | (with_reducible refine below_next ?_ (by with_reducible assumption)) | omega | (dsimp only; omega) | (simp only [World.size_alloc, World.size_setCell, World.size_drew, World.heap_drewN]; omega)))⟩; simp [intV, longV, IntKind.wrap_u64, wrap32_mod, wrap64_mod])
set_option maxRecDepth 100000 in
set_option maxHeartbeats 4000000 in
theorem tw_93_yes (x : Nat) (T : Int) (hT : wholeOf x = some T) (hr : -9223372036854775808 ≤ T ∧ T < 9223372036854775808) (w : World) :
    Calls Tryd.prog 94 #[.int .i64 93, .float .f64 x] w fun e w' => e = .returned (.tuple #[.agg #[.int .i64 (longV T).k, .int .u64 (longV T).b, .int .i64 (longV T).l], .bool true]) ∧ Below w.heap.size w w' := by
  have hok : okT (wholeOf x) (-9223372036854775808) (9223372036854775808) = true := by rw [hT]; simp [okT]; exact hr
  have HIN : Hid (∀ (y : Nat) (a : Addr) (w : World), TruncOf x y → w.cell? a = some (.float .f64 y) → Calls Tryd.prog 104 #[.float .f64 14114281232179134464, .float .f64 4890909195324358656, .pointer (some a)] w fun e w' => e = .returned (.bool true) ∧ w = w') := Lib.hid fun y a w h hc => in_tr true h c_m63 c_p63 hok a w hc
  have HCV : Hid (∀ y, TruncOf x y → ∀ w : World, (convert 148 2 (.float .f64 y)).run Tryd.prog w = .ok (.int .i64 T) w) := Lib.hid fun y h w => conv_y hT (by exact Tryd.underlying2) (by rw [show IntKind.i64.min = -9223372036854775808 from by decide, show IntKind.i64.max = 9223372036854775808 - 1 from by decide]; omega) h w
  obtain ⟨r1, r2⟩ := hr
  clear hok hT
  have hA1 := cell_alloc_if
  have hA2 := frozen_alloc_if
  have hA3 := cell_set_if
  go_enter Tryd.func94, Tryd.ntmps94
  go_wp2_with (first
    | (go_at_call 103; (with_reducible refine (trunc_any _ _).mono ?_); rintro e w1 ⟨y, rfl, hy, hbl⟩; have hcv := HCV.out y hy; obtain ⟨hc, hf, hz⟩ := cif hbl; (try simp only [World.size_alloc, World.size_setCell, World.size_drew, World.heap_drewN] at hz))
    | (go_at_call 104; (with_reducible refine (HIN.out y _ _ hy ?_).mono ?_); (focus (simp [*, ↓IntWalk.iteOmega]; done)); rintro e w1 ⟨rfl, rfl⟩)
    | (go_at_call 91; with_reducible refine (intOf_any _ _).mono ?_; rintro e w' ⟨rfl, hbl⟩; obtain ⟨hc, hf, hz⟩ := cif hbl; (try simp only [World.size_alloc, World.size_setCell, World.size_drew, World.heap_drewN] at hz))
    | (go_at_call 38; with_reducible refine (longOf_any _ _).mono ?_; rintro e w' ⟨rfl, hbl⟩; obtain ⟨hc, hf, hz⟩ := cif hbl; (try simp only [World.size_alloc, World.size_setCell, World.size_drew, World.heap_drewN] at hz)))
  all_goals (((try simp only [Exit.inBlock, Exit.then]); go_light; refine bodyPost_ret (by simp [results, Tryd.results94, go_sem, *, ↓IntWalk.iteOmega]; try rfl) rfl ?_); refine ⟨congrArg Ending.returned ?_, by (repeat' (first | (with_reducible exact Below.refl _ _) | (with_reducible assumption) | (with_reducible refine Below.setCell ?_ ?_ _) | (with_reducible refine Below.alloc ?_ ?_ _) | (with_reducible refine Below.drew ?_) | (with_reducible refine below_drewN ?_ _) | (with_reducible refine below_next ?_ (by with_reducible assumption)) | omega | (dsimp only; omega) | (simp only [World.size_alloc, World.size_setCell, World.size_drew, World.heap_drewN]; omega)))⟩; simp [intV, longV, IntKind.wrap_u64, wrap32_mod, wrap64_mod])
set_option maxRecDepth 100000 in
set_option maxHeartbeats 4000000 in
theorem tw_94_yes (x : Nat) (T : Int) (hT : wholeOf x = some T) (hr : 0 ≤ T ∧ T < 18446744073709551616) (w : World) :
    Calls Tryd.prog 94 #[.int .i64 94, .float .f64 x] w fun e w' => e = .returned (.tuple #[.agg #[.int .i64 (longV T).k, .int .u64 (longV T).b, .int .i64 (longV T).l], .bool true]) ∧ Below w.heap.size w w' := by
  have hok : okT (wholeOf x) (0) (18446744073709551616) = true := by rw [hT]; simp [okT]; exact hr
  have HIN : Hid (∀ (y : Nat) (a : Addr) (w : World), TruncOf x y → w.cell? a = some (.float .f64 y) → Calls Tryd.prog 104 #[.float .f64 0, .float .f64 4895412794951729152, .pointer (some a)] w fun e w' => e = .returned (.bool true) ∧ w = w') := Lib.hid fun y a w h hc => in_tr true h c_zero c_p64 hok a w hc
  have HCV : Hid (∀ y, TruncOf x y → ∀ w : World, (convert 148 62 (.float .f64 y)).run Tryd.prog w = .ok (.int .u64 T) w) := Lib.hid fun y h w => conv_y hT (by exact Tryd.underlying62) (by rw [show IntKind.u64.min = 0 from by decide, show IntKind.u64.max = 18446744073709551616 - 1 from by decide]; omega) h w
  obtain ⟨r1, r2⟩ := hr
  clear hok hT
  have hA1 := cell_alloc_if
  have hA2 := frozen_alloc_if
  have hA3 := cell_set_if
  go_enter Tryd.func94, Tryd.ntmps94
  go_wp2_with (first
    | (go_at_call 103; (with_reducible refine (trunc_any _ _).mono ?_); rintro e w1 ⟨y, rfl, hy, hbl⟩; have hcv := HCV.out y hy; obtain ⟨hc, hf, hz⟩ := cif hbl; (try simp only [World.size_alloc, World.size_setCell, World.size_drew, World.heap_drewN] at hz))
    | (go_at_call 104; (with_reducible refine (HIN.out y _ _ hy ?_).mono ?_); (focus (simp [*, ↓IntWalk.iteOmega]; done)); rintro e w1 ⟨rfl, rfl⟩)
    | (go_at_call 91; with_reducible refine (intOf_any _ _).mono ?_; rintro e w' ⟨rfl, hbl⟩; obtain ⟨hc, hf, hz⟩ := cif hbl; (try simp only [World.size_alloc, World.size_setCell, World.size_drew, World.heap_drewN] at hz))
    | (go_at_call 38; with_reducible refine (longOf_any _ _).mono ?_; rintro e w' ⟨rfl, hbl⟩; obtain ⟨hc, hf, hz⟩ := cif hbl; (try simp only [World.size_alloc, World.size_setCell, World.size_drew, World.heap_drewN] at hz)))
  all_goals (((try simp only [Exit.inBlock, Exit.then]); go_light; refine bodyPost_ret (by simp [results, Tryd.results94, go_sem, *, ↓IntWalk.iteOmega]; try rfl) rfl ?_); refine ⟨congrArg Ending.returned ?_, by (repeat' (first | (with_reducible exact Below.refl _ _) | (with_reducible assumption) | (with_reducible refine Below.setCell ?_ ?_ _) | (with_reducible refine Below.alloc ?_ ?_ _) | (with_reducible refine Below.drew ?_) | (with_reducible refine below_drewN ?_ _) | (with_reducible refine below_next ?_ (by with_reducible assumption)) | omega | (dsimp only; omega) | (simp only [World.size_alloc, World.size_setCell, World.size_drew, World.heap_drewN]; omega)))⟩; simp [intV, longV, IntKind.wrap_u64, wrap32_mod, wrap64_mod])

set_option maxRecDepth 100000 in
set_option maxHeartbeats 4000000 in
theorem tw_91_no (x : Nat) (hok : okT (wholeOf x) (-2147483648) (2147483648) = false) (w : World) :
    Calls Tryd.prog 94 #[.int .i64 91, .float .f64 x] w fun e w' => e = .returned (.tuple #[.agg #[.int .i64 0, .int .u64 0, .int .i64 0], .bool false]) ∧ Below w.heap.size w w' := by
  have HIN : Hid (∀ (y : Nat) (a : Addr) (w : World), TruncOf x y → w.cell? a = some (.float .f64 y) → Calls Tryd.prog 104 #[.float .f64 13970166044103278592, .float .f64 4746794007248502784, .pointer (some a)] w fun e w' => e = .returned (.bool false) ∧ w = w') := Lib.hid fun y a w h hc => in_tr false h c_m31 c_p31 hok a w hc
  clear hok
  have hA1 := cell_alloc_if
  have hA2 := frozen_alloc_if
  have hA3 := cell_set_if
  go_enter Tryd.func94, Tryd.ntmps94
  go_wp2_with (first
    | (go_at_call 103; (with_reducible refine (trunc_any _ _).mono ?_); rintro e w1 ⟨y, rfl, hy, hbl⟩; obtain ⟨hc, hf, hz⟩ := cif hbl; (try simp only [World.size_alloc, World.size_setCell, World.size_drew, World.heap_drewN] at hz))
    | (go_at_call 104; (with_reducible refine (HIN.out y _ _ hy ?_).mono ?_); (focus (simp [*, ↓IntWalk.iteOmega]; done)); rintro e w1 ⟨rfl, rfl⟩))
  all_goals (((try simp only [Exit.inBlock, Exit.then]); go_light; refine bodyPost_ret (by simp [results, Tryd.results94, go_sem, *, ↓IntWalk.iteOmega]; try rfl) rfl ?_); exact ⟨rfl, by (repeat' (first | (with_reducible exact Below.refl _ _) | (with_reducible assumption) | (with_reducible refine Below.setCell ?_ ?_ _) | (with_reducible refine Below.alloc ?_ ?_ _) | (with_reducible refine Below.drew ?_) | (with_reducible refine below_drewN ?_ _) | (with_reducible refine below_next ?_ (by with_reducible assumption)) | omega | (dsimp only; omega) | (simp only [World.size_alloc, World.size_setCell, World.size_drew, World.heap_drewN]; omega)))⟩)
set_option maxRecDepth 100000 in
set_option maxHeartbeats 4000000 in
theorem tw_92_no (x : Nat) (hok : okT (wholeOf x) (0) (4294967296) = false) (w : World) :
    Calls Tryd.prog 94 #[.int .i64 92, .float .f64 x] w fun e w' => e = .returned (.tuple #[.agg #[.int .i64 0, .int .u64 0, .int .i64 0], .bool false]) ∧ Below w.heap.size w w' := by
  have HIN : Hid (∀ (y : Nat) (a : Addr) (w : World), TruncOf x y → w.cell? a = some (.float .f64 y) → Calls Tryd.prog 104 #[.float .f64 0, .float .f64 4751297606875873280, .pointer (some a)] w fun e w' => e = .returned (.bool false) ∧ w = w') := Lib.hid fun y a w h hc => in_tr false h c_zero c_p32 hok a w hc
  clear hok
  have hA1 := cell_alloc_if
  have hA2 := frozen_alloc_if
  have hA3 := cell_set_if
  go_enter Tryd.func94, Tryd.ntmps94
  go_wp2_with (first
    | (go_at_call 103; (with_reducible refine (trunc_any _ _).mono ?_); rintro e w1 ⟨y, rfl, hy, hbl⟩; obtain ⟨hc, hf, hz⟩ := cif hbl; (try simp only [World.size_alloc, World.size_setCell, World.size_drew, World.heap_drewN] at hz))
    | (go_at_call 104; (with_reducible refine (HIN.out y _ _ hy ?_).mono ?_); (focus (simp [*, ↓IntWalk.iteOmega]; done)); rintro e w1 ⟨rfl, rfl⟩))
  all_goals (((try simp only [Exit.inBlock, Exit.then]); go_light; refine bodyPost_ret (by simp [results, Tryd.results94, go_sem, *, ↓IntWalk.iteOmega]; try rfl) rfl ?_); exact ⟨rfl, by (repeat' (first | (with_reducible exact Below.refl _ _) | (with_reducible assumption) | (with_reducible refine Below.setCell ?_ ?_ _) | (with_reducible refine Below.alloc ?_ ?_ _) | (with_reducible refine Below.drew ?_) | (with_reducible refine below_drewN ?_ _) | (with_reducible refine below_next ?_ (by with_reducible assumption)) | omega | (dsimp only; omega) | (simp only [World.size_alloc, World.size_setCell, World.size_drew, World.heap_drewN]; omega)))⟩)
set_option maxRecDepth 100000 in
set_option maxHeartbeats 4000000 in
theorem tw_93_no (x : Nat) (hok : okT (wholeOf x) (-9223372036854775808) (9223372036854775808) = false) (w : World) :
    Calls Tryd.prog 94 #[.int .i64 93, .float .f64 x] w fun e w' => e = .returned (.tuple #[.agg #[.int .i64 0, .int .u64 0, .int .i64 0], .bool false]) ∧ Below w.heap.size w w' := by
  have HIN : Hid (∀ (y : Nat) (a : Addr) (w : World), TruncOf x y → w.cell? a = some (.float .f64 y) → Calls Tryd.prog 104 #[.float .f64 14114281232179134464, .float .f64 4890909195324358656, .pointer (some a)] w fun e w' => e = .returned (.bool false) ∧ w = w') := Lib.hid fun y a w h hc => in_tr false h c_m63 c_p63 hok a w hc
  clear hok
  have hA1 := cell_alloc_if
  have hA2 := frozen_alloc_if
  have hA3 := cell_set_if
  go_enter Tryd.func94, Tryd.ntmps94
  go_wp2_with (first
    | (go_at_call 103; (with_reducible refine (trunc_any _ _).mono ?_); rintro e w1 ⟨y, rfl, hy, hbl⟩; obtain ⟨hc, hf, hz⟩ := cif hbl; (try simp only [World.size_alloc, World.size_setCell, World.size_drew, World.heap_drewN] at hz))
    | (go_at_call 104; (with_reducible refine (HIN.out y _ _ hy ?_).mono ?_); (focus (simp [*, ↓IntWalk.iteOmega]; done)); rintro e w1 ⟨rfl, rfl⟩))
  all_goals (((try simp only [Exit.inBlock, Exit.then]); go_light; refine bodyPost_ret (by simp [results, Tryd.results94, go_sem, *, ↓IntWalk.iteOmega]; try rfl) rfl ?_); exact ⟨rfl, by (repeat' (first | (with_reducible exact Below.refl _ _) | (with_reducible assumption) | (with_reducible refine Below.setCell ?_ ?_ _) | (with_reducible refine Below.alloc ?_ ?_ _) | (with_reducible refine Below.drew ?_) | (with_reducible refine below_drewN ?_ _) | (with_reducible refine below_next ?_ (by with_reducible assumption)) | omega | (dsimp only; omega) | (simp only [World.size_alloc, World.size_setCell, World.size_drew, World.heap_drewN]; omega)))⟩)
set_option maxRecDepth 100000 in
set_option maxHeartbeats 4000000 in
theorem tw_94_no (x : Nat) (hok : okT (wholeOf x) (0) (18446744073709551616) = false) (w : World) :
    Calls Tryd.prog 94 #[.int .i64 94, .float .f64 x] w fun e w' => e = .returned (.tuple #[.agg #[.int .i64 0, .int .u64 0, .int .i64 0], .bool false]) ∧ Below w.heap.size w w' := by
  have HIN : Hid (∀ (y : Nat) (a : Addr) (w : World), TruncOf x y → w.cell? a = some (.float .f64 y) → Calls Tryd.prog 104 #[.float .f64 0, .float .f64 4895412794951729152, .pointer (some a)] w fun e w' => e = .returned (.bool false) ∧ w = w') := Lib.hid fun y a w h hc => in_tr false h c_zero c_p64 hok a w hc
  clear hok
  have hA1 := cell_alloc_if
  have hA2 := frozen_alloc_if
  have hA3 := cell_set_if
  go_enter Tryd.func94, Tryd.ntmps94
  go_wp2_with (first
    | (go_at_call 103; (with_reducible refine (trunc_any _ _).mono ?_); rintro e w1 ⟨y, rfl, hy, hbl⟩; obtain ⟨hc, hf, hz⟩ := cif hbl; (try simp only [World.size_alloc, World.size_setCell, World.size_drew, World.heap_drewN] at hz))
    | (go_at_call 104; (with_reducible refine (HIN.out y _ _ hy ?_).mono ?_); (focus (simp [*, ↓IntWalk.iteOmega]; done)); rintro e w1 ⟨rfl, rfl⟩))
  all_goals (((try simp only [Exit.inBlock, Exit.then]); go_light; refine bodyPost_ret (by simp [results, Tryd.results94, go_sem, *, ↓IntWalk.iteOmega]; try rfl) rfl ?_); exact ⟨rfl, by (repeat' (first | (with_reducible exact Below.refl _ _) | (with_reducible assumption) | (with_reducible refine Below.setCell ?_ ?_ _) | (with_reducible refine Below.alloc ?_ ?_ _) | (with_reducible refine Below.drew ?_) | (with_reducible refine below_drewN ?_ _) | (with_reducible refine below_next ?_ (by with_reducible assumption)) | omega | (dsimp only; omega) | (simp only [World.size_alloc, World.size_setCell, World.size_drew, World.heap_drewN]; omega)))⟩)

/-- toWhole, of each of its operations. -/
theorem toWhole_any (op : Int) (x : Nat) (ho : op = 91 ∨ op = 92 ∨ op = 93 ∨ op = 94) (w : World) :
    Calls Tryd.prog 94 #[.int .i64 op, .float .f64 x] w fun e w' => e = .returned (.tuple #[.agg #[.int .i64 (toWholeV op x).1.k, .int .u64 (toWholeV op x).1.b, .int .i64 (toWholeV op x).1.l], .bool (toWholeV op x).2]) ∧ Below w.heap.size w w' := by
  cases hT : wholeOf x with
  | none =>
    have e : toWholeV op x = (undefV, false) := by unfold toWholeV; rw [hT]
    rw [e]
    have ok : ∀ L H, okT (wholeOf x) L H = false := fun L H => by rw [hT]; rfl
    rcases ho with rfl | rfl | rfl | rfl
    · exact tw_91_no x (ok _ _) w
    · exact tw_92_no x (ok _ _) w
    · exact tw_93_no x (ok _ _) w
    · exact tw_94_no x (ok _ _) w
  | some T =>
    have ok : ∀ L H, ¬ (L ≤ T ∧ T < H) → okT (wholeOf x) L H = false := fun L H h => by rw [hT]; simp only [okT]; rw [Bool.and_eq_false_iff]; simp only [decide_eq_false_iff_not]; omega
    unfold toWholeV
    rw [hT]
    dsimp only
    rcases ho with rfl | rfl | rfl | rfl
    · by_cases h : -2147483648 ≤ T ∧ T < 2147483648
      · rw [if_pos rfl, if_pos h]; exact tw_91_yes x T hT h w
      · rw [if_pos rfl, if_neg h]; exact tw_91_no x (ok _ _ h) w
    · by_cases h : 0 ≤ T ∧ T < 4294967296
      · rw [if_neg (by omega), if_pos rfl, if_pos h]; exact tw_92_yes x T hT h w
      · rw [if_neg (by omega), if_pos rfl, if_neg h]; exact tw_92_no x (ok _ _ h) w
    · by_cases h : -9223372036854775808 ≤ T ∧ T < 9223372036854775808
      · rw [if_neg (by omega), if_neg (by omega), if_pos rfl, if_pos h]; exact tw_93_yes x T hT h w
      · rw [if_neg (by omega), if_neg (by omega), if_pos rfl, if_neg h]; exact tw_93_no x (ok _ _ h) w
    · by_cases h : 0 ≤ T ∧ T < 18446744073709551616
      · rw [if_neg (by omega), if_neg (by omega), if_neg (by omega), if_pos h]; exact tw_94_yes x T hT h w
      · rw [if_neg (by omega), if_neg (by omega), if_neg (by omega), if_neg h]; exact tw_94_no x (ok _ _ h) w

end Go.Proofs.YteeojgepgjndgaaDoor
