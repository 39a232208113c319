/-
  Numbers, strings and comparisons: what the reckoner yields is what the program yields. No program in sight.
-/
import Derived.Test.YtpilmdfnbfcmkaaGreatEvOp1
import Derived.Laws.Strings
import Derived.Lib.SmallJoins
import Derived.WideShapes
import Derived.IntWalk
namespace Go.Proofs.YtpilmdfnbfcmkaaGreat.Ev
set_option linter.unusedVariables false
set_option linter.unusedSimpArgs false

theorem ltI_eq (a b : Int) : ltI a b = decide (a < b) := by
  cases a <;> cases b <;> simp only [ltI]
  · show Nat.blt _ _ = _
    rw [Bool.eq_iff_iff, decide_eq_true_iff]; simp [Nat.blt_eq]
  · show false = _; symm; rw [decide_eq_false_iff_not]; simp only [Int.ofNat_eq_natCast]; omega
  · show true = _; symm; rw [decide_eq_true_iff]; simp only [Int.ofNat_eq_natCast]; omega
  · show Nat.blt _ _ = _
    rw [Bool.eq_iff_iff, decide_eq_true_iff]; simp only [Nat.blt_eq]; omega
theorem eqI_eq (a b : Int) : eqI a b = decide (a = b) := by
  cases a <;> cases b <;> simp only [eqI]
  · show Nat.beq _ _ = _
    rw [Bool.eq_iff_iff, decide_eq_true_iff, Nat.beq_eq]; simp only [Int.ofNat_eq_natCast]; omega
  · show false = _; symm; rw [decide_eq_false_iff_not]; simp only [Int.ofNat_eq_natCast]; omega
  · show false = _; symm; rw [decide_eq_false_iff_not]; simp only [Int.ofNat_eq_natCast]; omega
  · show Nat.beq _ _ = _
    rw [Bool.eq_iff_iff, decide_eq_true_iff, Nat.beq_eq]; simp only [Int.negSucc_inj]
theorem eqK_iff {j k : IntKind} (h : eqK j k = true) : j = k := by cases j <;> cases k <;> first | rfl | cases h
theorem wrapV_eq (k : IntKind) (n : Int) (c : Value → Ans) : wrapV k n c = c (.int k (k.wrap n)) := by
  cases n with
  | ofNat m =>
    show iteB (Nat.blt m (lim k)) (intV k (k.wrap (Int.ofNat m)) c) (intV k (Int.ofNat m) c) = _
    rw [iteB_eq, intV_eq, intV_eq]
    split
    · rename_i h
      have h' : m < lim k := by simpa [Nat.blt_eq] using h
      congr 2
      cases k <;> simp only [lim] at h'
      · exact (IntWalk.i8_in _ ⟨by simp only [Int.ofNat_eq_natCast]; omega, by simp only [Int.ofNat_eq_natCast]; omega⟩).symm
      · exact (IntWalk.i16_in _ ⟨by simp only [Int.ofNat_eq_natCast]; omega, by simp only [Int.ofNat_eq_natCast]; omega⟩).symm
      · exact (IntWalk.i32_in _ ⟨by simp only [Int.ofNat_eq_natCast]; omega, by simp only [Int.ofNat_eq_natCast]; omega⟩).symm
      · exact (IntWalk.i64_in _ ⟨by simp only [Int.ofNat_eq_natCast]; omega, by simp only [Int.ofNat_eq_natCast]; omega⟩).symm
      · exact (IntWalk.u8_in _ ⟨by simp only [Int.ofNat_eq_natCast]; omega, by simp only [Int.ofNat_eq_natCast]; omega⟩).symm
      · exact (IntWalk.u16_in _ ⟨by simp only [Int.ofNat_eq_natCast]; omega, by simp only [Int.ofNat_eq_natCast]; omega⟩).symm
      · exact (IntWalk.u32_in _ ⟨by simp only [Int.ofNat_eq_natCast]; omega, by simp only [Int.ofNat_eq_natCast]; omega⟩).symm
      · exact (IntWalk.u64_in _ ⟨by simp only [Int.ofNat_eq_natCast]; omega, by simp only [Int.ofNat_eq_natCast]; omega⟩).symm
    · rfl
  | negSucc m =>
    show iteB (and (sgn k) (Nat.blt m (lim k))) (intV k (k.wrap (Int.negSucc m)) c) (intV k (Int.negSucc m) c) = _
    rw [iteB_eq, intV_eq, intV_eq]
    split
    · rename_i h
      rw [Bool.and_eq_true] at h
      have h' : m < lim k := by simpa [Nat.blt_eq] using h.2
      have h1 := h.1
      congr 2
      cases k <;> simp only [lim] at h'
      · exact (IntWalk.i8_in _ ⟨by omega, by omega⟩).symm
      · exact (IntWalk.i16_in _ ⟨by omega, by omega⟩).symm
      · exact (IntWalk.i32_in _ ⟨by omega, by omega⟩).symm
      · exact (IntWalk.i64_in _ ⟨by omega, by omega⟩).symm
      all_goals cases h1
    · rfl
theorem eqBytes_eq : ∀ (l r : List UInt8), eqBytes l r = decide (l = r)
  | [], [] => by show true = _; simp
  | [], _ :: _ => by show false = _; simp
  | _ :: _, [] => by show false = _; simp
  | x :: l, y :: r => by
    show and (Nat.beq x.toNat y.toNat) (eqBytes l r) = _
    rw [eqBytes_eq l r, Bool.eq_iff_iff]
    simp only [Bool.and_eq_true, decide_eq_true_eq, Nat.beq_eq, List.cons.injEq, UInt8.toNat_inj]
theorem size_data (s : ByteArray) : s.size = s.data.toList.length := rfl

section
variable {P : Program} {T : Tab} {call : CallF} {env : L2} {m : Mem} {k : K} {a : Value} {mm : Mem}
theorem pureK_ok {s : Sem Value} {c : Value → Ans} (h : pureK s c = .ok a mm) : ∃ v, s = .pure v ∧ c v = .ok a mm ∧ groundB v = true := by
  unfold pureK at h
  split at h
  · rw [intV_eq] at h; exact ⟨_, rfl, h, rfl⟩
  · rw [boolV_eq] at h; exact ⟨_, rfl, h, rfl⟩
  · cases h
theorem intF_ok {op : BinOp} {t : TypeId} {j : IntKind} {x y : Int} {c : Value → Ans} (h : intF op j x y c = .ok a mm) : ∃ v, c v = .ok a mm ∧ groundB v = true ∧ Go.binOp op t (.int j x) (.int j y) = .pure v := by
  have gen : ∀ op', op = op' → genF op' j x y c = .ok a mm → ∃ v, c v = .ok a mm ∧ groundB v = true ∧ Go.binOp op t (.int j x) (.int j y) = .pure v := by
    intro op' he hg
    subst he
    obtain ⟨v, h1, h2, h3⟩ := pureK_ok hg
    refine ⟨v, h2, h3, ?_⟩
    rw [← h1]
    cases op <;> rfl
  cases op
  case add => exact ⟨_, (wrapV_eq _ _ _).symm.trans h, rfl, by simp only [Go.binOp, Op.intArith, ne_eq, not_true_eq_false, if_false]; rfl⟩
  case sub => exact ⟨_, (wrapV_eq _ _ _).symm.trans h, rfl, by simp only [Go.binOp, Op.intArith, ne_eq, not_true_eq_false, if_false]; rfl⟩
  case mul => exact ⟨_, (wrapV_eq _ _ _).symm.trans h, rfl, by simp only [Go.binOp, Op.intArith, ne_eq, not_true_eq_false, if_false]; rfl⟩
  case eql => exact ⟨_, (boolV_eq _ _).symm.trans h, rfl, by simp only [Go.binOp, Op.intCmp, ne_eq, not_true_eq_false, if_false, eqI_eq]; rfl⟩
  case neq => exact ⟨_, (boolV_eq _ _).symm.trans h, rfl, by simp only [Go.binOp, Op.intCmp, ne_eq, not_true_eq_false, if_false, eqI_eq]; rfl⟩
  case lss => exact ⟨_, (boolV_eq _ _).symm.trans h, rfl, by simp only [Go.binOp, Op.intCmp, ne_eq, not_true_eq_false, if_false, ltI_eq]; rfl⟩
  case leq => exact ⟨_, (boolV_eq _ _).symm.trans h, rfl, by simp only [Go.binOp, Op.intCmp, ne_eq, not_true_eq_false, if_false, ltI_eq]; show Sem.pure _ = Sem.pure _; congr 2; rw [Bool.eq_iff_iff]; simp⟩
  case gtr => exact ⟨_, (boolV_eq _ _).symm.trans h, rfl, by simp only [Go.binOp, Op.intCmp, ne_eq, not_true_eq_false, if_false, ltI_eq]; rfl⟩
  case geq => exact ⟨_, (boolV_eq _ _).symm.trans h, rfl, by simp only [Go.binOp, Op.intCmp, ne_eq, not_true_eq_false, if_false, ltI_eq]; show Sem.pure _ = Sem.pure _; congr 2; rw [Bool.eq_iff_iff]; simp⟩
  all_goals exact gen _ rfl h
theorem strF_ok {op : BinOp} {t : TypeId} {x y : ByteArray} {c : Value → Ans} (h : strF op x y c = .ok a mm) : ∃ v, c v = .ok a mm ∧ groundB v = true ∧ Go.binOp op t (.string x) (.string y) = .pure v := by
  unfold strF at h
  have el : ∀ s : ByteArray, s.toList = s.data.toList := ByteArray.toList_eq
  split at h
  · obtain ⟨hb, h1⟩ := iteB_yes h
    rw [appK_eq] at h1
    have hle : x.data.toList.length + y.data.toList.length ≤ 1000000 := Nat.le_of_ble_eq_true hb
    refine ⟨_, h1, rfl, ?_⟩
    show Op.stringOp .add x y = _
    unfold Op.stringOp
    rw [if_neg (by rw [size_data, size_data]; simp only [IntKind.max, IntKind.signed, IntKind.bits, if_true]; omega)]
    show Sem.pure _ = _
    rw [show x ++ y = ⟨⟨x.data.toList ++ y.data.toList⟩⟩ from Go.WideShapes.bytes_inj (by rw [Joins.data_append])]
  all_goals first | cases h | (rw [boolV_eq] at h; refine ⟨_, h, rfl, ?_⟩; simp only [Go.binOp, Op.stringOp, el, eqBytes_eq]; show Sem.pure _ = Sem.pure _; congr 2; try (rw [Bool.eq_iff_iff]; simp))
/-- a test for equality, of what has no place of its own -/
theorem part_ok (hT : TabOk P T) {t : TypeId} {cs : List Value} {off : Nat} {c : Value → Ans} (h : Ev.part T t cs off c = .ok a mm) :
    ∃ v, c v = .ok a mm ∧ ∀ (ρ : Ren) (w : World) (cs' : Array Value), LR ρ cs cs'.toList → ∃ v', VR ρ v v' ∧ (Go.part t cs' off).run P w = .ok v' w := by
  obtain ⟨d, hd, h1⟩ := ty_ok h
  rcases iteB_ok h1 with ⟨hb, h2⟩ | ⟨hb, h2⟩
  · rw [dropK_eq, takeK_eq] at h2
    refine ⟨_, h2, fun ρ w cs' hc => ⟨.agg (cs'.extract off (off + d.size)), .agg ?_, ?_⟩⟩
    · have : (cs'.extract off (off + d.size)).toList = (cs'.toList.drop off).take d.size := by
        rw [Array.toList_extract, List.extract_eq_take_drop, Nat.add_sub_cancel_left]
      rw [this]
      exact (hc.drop off).take _
    · simp only [Go.part, Sem.run_bind, hT.isAgg hd w, hb, Result.andThen_ok, if_true, hT.size hd w]
      rfl
  · obtain ⟨v, h3, h4⟩ := withO_ok h2
    rw [nth_eq] at h3
    refine ⟨v, h4, fun ρ w cs' hc => ?_⟩
    obtain ⟨v', g1, g2⟩ := hc.get h3
    refine ⟨v', g2, ?_⟩
    rw [Array.getElem?_toList] at g1
    simp only [Go.part, Sem.run_bind, hT.isAgg hd w, hb, Result.andThen_ok, Bool.false_eq_true, if_false, g1]
    rfl
theorem eqV0_ok (hT : TabOk P T) {t : TypeId} {x y : Value} {c : Bool → Ans} (h : eqV0 T t x y c = .ok a mm) :
    ∃ b, c b = .ok a mm ∧ ∀ (n : Nat) (ρ : Ren) (w : World) (x' y' : Value), VR ρ x x' → VR ρ y y' → (Op.equalIn (n + 1) t x' y').run P w = .ok b w := by
  obtain ⟨d, hd, h1⟩ := ty_ok h
  have un := fun w => hT.under hd w
  have key : ∀ (n : Nat) (b : Bool) (ρ : Ren) (w : World) (x' y' : Value), (∀ dd, d.desc = dd → (match dd, x', y' with
      | .bool, .bool p, .bool q => b = (p == q)
      | .pointer _, .pointer none, .pointer q => b = q.isNone
      | .pointer _, .pointer (some _), .pointer none => b = false
      | .interface _, .nilIface, .nilIface => b = true
      | .interface _, .nilIface, .iface _ _ => b = false
      | .interface _, .iface _ _, .nilIface => b = false
      | .interface _, .iface tx _, .iface ty _ => tx ≠ ty ∧ b = false
      | .slice _, .slice none _ _, .slice q _ _ => b = q.isNone
      | .slice _, .slice (some _) _ _, .slice none _ _ => b = false
      | .map _ _, .map none, .map q => b = q.isNone
      | .map _ _, .map (some _), .map none => b = false
      | .func _ _ _, .nilFunc, .nilFunc => b = true
      | .func _ _ _, .nilFunc, .func _ _ _ => b = false
      | .func _ _ _, .func _ _ _, .nilFunc => b = false
      | _, _, _ => False)) → (Op.equalIn (n + 1) t x' y').run P w = .ok b w := by
    intro n b ρ w x' y' hm
    have hm' := hm d.desc rfl
    unfold Op.equalIn
    simp only [Sem.run_bind, un w, Result.andThen_ok]
    split at hm' <;> first
      | (exact hm'.elim)
      | (rename_i e1; rw [e1]; subst hm'; rfl)
      | (rename_i e1; rw [e1]; obtain ⟨hne, rfl⟩ := hm'; simp only [ne_eq, hne, not_false_eq_true, if_true]; rfl)
  split at h1
  all_goals first
    | (cases h1; done)
    | (rw [forceB_eq] at h1; refine ⟨_, h1, fun n ρ w x' y' hx hy => key n _ ρ w x' y' fun dd hdd => ?_⟩)
    | (obtain ⟨hb, h2⟩ := iteB_not h1; refine ⟨_, h2, fun n ρ w x' y' hx hy => key n _ ρ w x' y' fun dd hdd => ?_⟩)
    | (refine ⟨_, h1, fun n ρ w x' y' hx hy => key n _ ρ w x' y' fun dd hdd => ?_⟩)
  all_goals (rename_i e1; rw [e1] at hdd; subst hdd; cases hx; cases hy)
  all_goals first
    | rfl
    | (exact ⟨fun e => (by rw [e, Nat.beq_refl] at hb; exact absurd hb (by simp)), rfl⟩)
theorem bytes_beq' (s t : ByteArray) : (s == t) = decide (s.data.toList = t.data.toList) := by
  obtain ⟨⟨x⟩⟩ := s; obtain ⟨⟨y⟩⟩ := t
  show (Array.mk x == Array.mk y) = _
  rw [Bool.eq_iff_iff]; simp
def eqBody (n : Nat) (xs ys : Array Value) (f : Field) (s : Option Bool × Unit) : Sem (ForInStep (Option Bool × Unit)) :=
  if f.name ≠ "_" then do
    let a ← Go.part f.type xs f.offset
    let b ← Go.part f.type ys f.offset
    let r ← Op.equalIn n f.type a b
    if (!r) = true then pure (ForInStep.done (some false, ())) else pure (ForInStep.yield (none, ()))
  else pure (ForInStep.yield (none, ()))
theorem eqFs_ok (hT : TabOk P T) {n : Nat} {cmp : TypeId → Value → Value → (Bool → Ans) → Ans} {xs ys : List Value}
    (hc : ∀ t x y c, cmp t x y c = .ok a mm → ∃ b, c b = .ok a mm ∧ ∀ (ρ : Ren) (w : World) (x' y' : Value), VR ρ x x' → VR ρ y y' → (Op.equalIn n t x' y').run P w = .ok b w) :
    ∀ (fs : List Field) (c : Bool → Ans), eqFs T xs ys cmp fs c = .ok a mm → ∃ b, c b = .ok a mm ∧ ∀ (ρ : Ren) (w : World) (xs' ys' : Array Value), LR ρ xs xs'.toList → LR ρ ys ys'.toList →
      (forIn fs ((none : Option Bool), ()) (eqBody n xs' ys')).run P w = .ok (if b = true then (none, ()) else (some false, ())) w
  | [], c, h => ⟨true, h, fun ρ w xs' ys' _ _ => by simp [List.forIn_nil]⟩
  | f :: fs, c, h => by
    obtain ⟨hn, h1⟩ := iteB_not (show iteB (f.name == "_") (Ev.part T f.type xs f.offset (fun a => Ev.part T f.type ys f.offset (fun b => cmp f.type a b (fun r => iteB r (c false) (eqFs T xs ys cmp fs c))))) (.no 161) = .ok a mm from h)
    have hne : f.name ≠ "_" := by simpa using hn
    obtain ⟨u, h2, h3⟩ := part_ok hT h1
    obtain ⟨v, h4, h5⟩ := part_ok hT h2
    obtain ⟨r, h6, h7⟩ := hc _ _ _ _ h4
    rcases iteB_ok h6 with ⟨rfl, h8⟩ | ⟨rfl, h8⟩
    · obtain ⟨b, h9, h10⟩ := eqFs_ok hT hc fs c h8
      refine ⟨b, h9, fun ρ w xs' ys' hx hy => ?_⟩
      obtain ⟨u', g1, g2⟩ := h3 ρ w xs' hx
      obtain ⟨v', g3, g4⟩ := h5 ρ w ys' hy
      have g5 := h7 ρ w u' v' g1 g3
      have g6 := h10 ρ w xs' ys' hx hy
      rw [List.forIn_cons]
      simp only [eqBody, hne, ne_eq, not_false_eq_true, if_true, Sem.run_bind, g2, g4, g5, Result.andThen_ok, Bool.not_true, Bool.false_eq_true, if_false, Sem.run_pure]
      exact g6
    · refine ⟨false, h8, fun ρ w xs' ys' hx hy => ?_⟩
      obtain ⟨u', g1, g2⟩ := h3 ρ w xs' hx
      obtain ⟨v', g3, g4⟩ := h5 ρ w ys' hy
      have g5 := h7 ρ w u' v' g1 g3
      rw [List.forIn_cons]
      simp only [eqBody, hne, ne_eq, not_false_eq_true, if_true, Sem.run_bind, g2, g4, g5, Result.andThen_ok, Bool.not_false, Sem.run_pure, Bool.false_eq_true, if_false]
theorem eqV1_ok (hT : TabOk P T) : ∀ (k n : Nat), k ≤ n → ∀ (t : TypeId) (x y : Value) (c : Bool → Ans), eqV1 T k t x y c = .ok a mm →
    ∃ b, c b = .ok a mm ∧ ∀ (ρ : Ren) (w : World) (x' y' : Value), VR ρ x x' → VR ρ y y' → (Op.equalIn n t x' y').run P w = .ok b w
  | 0, n, hk, t, x, y, c, h => by cases h
  | k + 1, 0, hk, t, x, y, c, h => by omega
  | k + 1, n + 1, hk, t, x, y, c, h => by
    obtain ⟨d, hd, h1⟩ := ty_ok (show eqStep T (eqV1 T k) t x y c = .ok a mm from h)
    clear h
    have un := fun w => hT.under hd w
    split at h1
    · rename_i fs xs ys hde
      obtain ⟨hf, h2⟩ := iteB_yes h1
      obtain ⟨b, h3, h4⟩ := eqFs_ok hT (eqV1_ok hT k n (by omega)) fs.toList c h2
      refine ⟨b, h3, fun ρ w x' y' hx hy => ?_⟩
      cases hx with
      | agg hx =>
        cases hy with
        | agg hy =>
          rename_i xs' ys'
          have g := h4 ρ w xs' ys' hx hy
          unfold eqBody at g
          rw [Array.forIn_toList] at g
          unfold Op.equalIn
          simp only [Sem.run_bind, un w, hde, Result.andThen_ok]
          have hp : Sem.run P program w = .ok P w := rfl
          simp only [hp, Result.andThen_ok, (hT.flt t d hd hf).1, Bool.false_eq_true, if_false, Sem.run_bind]
          rw [g]
          cases b <;> rfl
    · rename_i e j p j' q hde
      obtain ⟨hj, h2⟩ := iteB_yes h1
      obtain rfl := eqK_iff hj
      rw [forceB_eq, eqI_eq] at h2
      refine ⟨_, h2, fun ρ w x' y' hx hy => ?_⟩
      cases hx; cases hy
      unfold Op.equalIn
      simp only [Sem.run_bind, un w, hde, Result.andThen_ok, if_true]
      show Result.ok (p == q) w = _
      rw [Bool.beq_eq_decide_eq]
    · rename_i p q hde
      rw [forceB_eq, eqBytes_eq] at h1
      refine ⟨_, h1, fun ρ w x' y' hx hy => ?_⟩
      cases hx; cases hy
      unfold Op.equalIn
      simp only [Sem.run_bind, un w, hde, Result.andThen_ok]
      show Result.ok (p == q) w = _
      rw [bytes_beq']
    · obtain ⟨b, h2, h3⟩ := eqV0_ok hT h1
      exact ⟨b, h2, fun ρ w x' y' => h3 n ρ w x' y'⟩
theorem eqV_ok (hT : TabOk P T) {t : TypeId} {x y : Value} {c : Bool → Ans} (h : eqV T t x y c = .ok a mm) :
    ∃ b, c b = .ok a mm ∧ ∀ (ρ : Ren) (w : World) (x' y' : Value), VR ρ x x' → VR ρ y y' → (Op.equal t x' y').run P w = .ok b w := eqV1_ok hT 20 10000 (by decide) t x y c h
theorem eqOp_ok (hT : TabOk P T) {op : BinOp} {t : TypeId} {x y : Value} {c : Value → Ans} (h : eqOp T op t x y c = .ok a mm) :
    ∃ b, c (.bool b) = .ok a mm ∧ ((op = .eql ∧ ∀ (ρ : Ren) (w : World) (x' y' : Value), VR ρ x x' → VR ρ y y' → (Op.equal t x' y').run P w = .ok b w) ∨
      (op = .neq ∧ ∀ (ρ : Ren) (w : World) (x' y' : Value), VR ρ x x' → VR ρ y y' → (Op.equal t x' y').run P w = .ok (!b) w)) := by
  unfold eqOp at h
  split at h
  · obtain ⟨b, h1, h2⟩ := eqV_ok hT h
    rw [boolV_eq] at h1
    exact ⟨b, h1, .inl ⟨rfl, h2⟩⟩
  · obtain ⟨b, h1, h2⟩ := eqV_ok hT h
    rw [boolV_eq] at h1
    refine ⟨_, h1, .inr ⟨rfl, fun ρ w x' y' hx hy => ?_⟩⟩
    rw [h2 ρ w x' y' hx hy]
    cases b <;> rfl
  · cases h
/-- which values are compared by their type -/
def plainV : Value → Bool
  | .int _ _ | .string _ | .float _ _ | .complex _ _ _ | .agg _ => true
  | _ => false
theorem bin_eql {op : BinOp} {t : TypeId} {x y : Value} {w : World} {b : Bool} (hx : plainV x = false) (h : (op = .eql ∧ (Op.equal t x y).run P w = .ok b w) ∨ (op = .neq ∧ (Op.equal t x y).run P w = .ok (!b) w)) :
    (Go.binOp op t x y).run P w = .ok (.bool b) w := by
  have h' : (Go.binOp op t x y).run P w = (match op with | .eql => (do pure (.bool (← Op.equal t x y)) : Sem Value) | _ => (do pure (.bool (!(← Op.equal t x y))) : Sem Value)).run P w ∧ (op = .eql ∨ op = .neq) := by
    rcases h with ⟨rfl, _⟩ | ⟨rfl, _⟩
    · refine ⟨?_, .inl rfl⟩
      cases x <;> first | (cases hx; done) | rfl
    · refine ⟨?_, .inr rfl⟩
      cases x <;> first | (cases hx; done) | rfl
  rw [h'.1]
  rcases h with ⟨rfl, h⟩ | ⟨rfl, h⟩
  · simp only [Sem.run_bind, h, Result.andThen_ok]; rfl
  · simp only [Sem.run_bind, h, Result.andThen_ok, Bool.not_not]; rfl
theorem VR.plain {ρ : Ren} {x x' : Value} (h : VR ρ x x') : plainV x' = plainV x := by cases h <;> rfl
def isAggV : Value → Bool
  | .agg _ => true
  | _ => false
def isNilI : Value → Bool
  | .nilIface => true
  | _ => false
theorem guard_ok {op : BinOp} {t : TypeId} {x y : Operand} {p q : Value} {w : World} (h : plainV p = false ∨ isAggV p = false) (hn : isNilI p = true → isNilI q = true → isConst x = true ∨ isConst y = true) :
    (Go.eqGuard op t x y p q).run P w = .ok () w := by
  have hp : isAggV p = false := by
    rcases h with h | h
    · cases p <;> first | rfl | cases h
    · exact h
  cases op <;> first
    | rfl
    | (cases p <;> cases q <;> first
        | rfl
        | (cases hp; done)
        | (rcases hn rfl rfl with hx | hx
           · cases x <;> first | (cases hx; done) | rfl
           · cases y <;> first | (cases hx; done) | (cases x <;> rfl)))
theorem eqV_plain {t : TypeId} {x y : Value} {c : Bool → Ans} (h : eqV T t x y c = .ok a mm) (hx : plainV x = true) :
    (∃ j n j' n', x = .int j n ∧ y = .int j' n') ∨ (∃ s s', x = .string s ∧ y = .string s') ∨ (∃ xs ys d, x = .agg xs ∧ y = .agg ys ∧ T.tys.find t = some d ∧ d.flat = true) := by
  obtain ⟨d, hd, h1⟩ := ty_ok (show eqStep T (eqV1 T 19) t x y c = .ok a mm from h)
  clear h
  split at h1
  · exact .inr (.inr ⟨_, _, d, rfl, rfl, hd, (iteB_yes h1).1⟩)
  · exact .inl ⟨_, _, _, _, rfl, rfl⟩
  · exact .inr (.inl ⟨_, _, rfl, rfl⟩)
  · exfalso
    obtain ⟨d', _, h6⟩ := ty_ok h1
    split at h6 <;> first | (cases h6; done) | (cases hx; done)
theorem guard_core {w : World} {u : Sem Unit} (f : Program → Program → Bool) (h : f P P = false) : Sem.run P (do
    if !(f (← program) (← program)) then return
    u) w = .ok () w := by
  have hp : Sem.run P program w = .ok P w := rfl
  simp only [Sem.run_bind, hp, Result.andThen_ok, h, Bool.not_false, if_true, Sem.run_pure]
theorem agg_guard {op : BinOp} {t : TypeId} {x y : Operand} {xs ys : Array Value} {w : World} (h : P.eqGuardType P.depth t = false) : (Go.eqGuard op t x y (.agg xs) (.agg ys)).run P w = .ok () w := by
  have hc : ∀ u : Sem Unit, Sem.run P (do
    if !(← program).eqGuardType (← program).depth t then return
    u) w = .ok () w := fun u => guard_core (fun p q => p.eqGuardType q.depth t) h
  generalize P.eqGuardType P.depth t = z at h
  cases op
  case eql => exact hc _
  case neq => exact hc _
  all_goals rfl
theorem agg_eql {op : BinOp} {t : TypeId} {xs ys : Array Value} {w : World} {b : Bool} (h : (op = .eql ∧ (Op.equal t (.agg xs) (.agg ys)).run P w = .ok b w) ∨ (op = .neq ∧ (Op.equal t (.agg xs) (.agg ys)).run P w = .ok (!b) w)) :
    (Go.binOp op t (.agg xs) (.agg ys)).run P w = .ok (.bool b) w := by
  rcases h with ⟨rfl, h⟩ | ⟨rfl, h⟩
  · show (do pure (.bool (← Op.equal t (.agg xs) (.agg ys))) : Sem Value).run P w = _
    simp only [Sem.run_bind, h, Result.andThen_ok]; rfl
  · show (do pure (.bool (!(← Op.equal t (.agg xs) (.agg ys)))) : Sem Value).run P w = _
    simp only [Sem.run_bind, h, Result.andThen_ok, Bool.not_not]; rfl
theorem bin_ok (hT : TabOk P T) {op : BinOp} {t : TypeId} {x y : Operand} {t2 : TypeId} (h : binOp' op t x y t2 T call env m k = .ok a mm) : ∃ v, k v m = .ok a mm ∧ PureS P (.binOp op t x y t2) env v := by
  obtain ⟨p, h1, h2⟩ := evalO_ok h
  obtain ⟨q, h3, h4⟩ := evalO_ok h2
  have fin : ∀ v, k v m = .ok a mm → (∀ (ρ : Ren) (w : World) (p' q' : Value), VR ρ p p' → VR ρ q q' → ∃ v', VR ρ v v' ∧ (Go.eqGuard op t x y p' q').run P w = .ok () w ∧ (Go.binOp op t p' q').run P w = .ok v' w) →
      ∃ v, k v m = .ok a mm ∧ PureS P (.binOp op t x y t2) env v := fun v hk hh => ⟨v, hk, fun ρ w o c ho hS => by
    obtain ⟨v', g1, g2, g3⟩ := hh ρ w _ _ (hS x p (by simp [Op.operands]) h1) (hS y q (by simp [Op.operands]) h3)
    refine ⟨v', g1, ?_⟩
    unfold execOp
    rw [ho]
    simp only [Sem.run_bind, g2, Result.andThen_ok, g3]
    rfl⟩
  unfold binF at h4
  split at h4
  · rename_i j n j' n'
    rcases iteB_ok h4 with ⟨hj, h5⟩ | ⟨hj, h5⟩
    · obtain rfl := eqK_iff hj
      obtain ⟨v, g1, g2, g3⟩ := intF_ok (t := t) h5
      refine fin v g1 fun ρ w p' q' hp hq => ?_
      cases hp; cases hq
      exact ⟨v, .ground g2, guard_ok (.inr rfl) (fun hh => by cases hh), by rw [g3]; rfl⟩
    · have sh : ∀ op', op = op' → (op' = .shl ∨ op' = .shr) → binF.genF2 op' j j' n n' (fun v => k v m) = .ok a mm → ∃ v, k v m = .ok a mm ∧ PureS P (.binOp op t x y t2) env v := by
        intro op' he hs hg
        subst he
        obtain ⟨v, g1, g2, g3⟩ := pureK_ok hg
        refine fin v g2 fun ρ w p' q' hp hq => ?_
        cases hp; cases hq
        refine ⟨v, .ground g3, guard_ok (.inr rfl) (fun hh => by cases hh), ?_⟩
        have e : Go.binOp op t (.int j n) (.int j' n') = Go.binOp op 0 (.int j n) (.int j' n') := by rcases hs with rfl | rfl <;> rfl
        rw [e, g1]; rfl
      split at h5
      · exact sh _ rfl (.inl rfl) h5
      · exact sh _ rfl (.inr rfl) h5
      · cases h5
  · obtain ⟨v, g1, g2, g3⟩ := strF_ok (t := t) h4
    refine fin v g1 fun ρ w p' q' hp hq => ?_
    cases hp; cases hq
    exact ⟨v, .ground g2, guard_ok (.inr rfl) (fun hh => by cases hh), by rw [g3]; rfl⟩
  · obtain ⟨hc, h5⟩ := iteB_yes h4
    obtain ⟨b, g1, g2⟩ := eqOp_ok hT h5
    refine fin _ g1 fun ρ w p' q' hp hq => ?_
    have hp0 := hp; have hq0 := hq
    cases hp; cases hq
    refine ⟨_, .bool b, guard_ok (.inl rfl) (fun _ _ => by rw [Bool.or_eq_true] at hc; exact hc), bin_eql rfl ?_⟩
    exact g2.imp (fun hh => ⟨hh.1, hh.2 ρ w _ _ hp0 hq0⟩) (fun hh => ⟨hh.1, hh.2 ρ w _ _ hp0 hq0⟩)
  · rename_i hn1 hn2 hn3
    by_cases hpl : plainV p = false
    · obtain ⟨b, g1, g2⟩ := eqOp_ok hT h4
      refine fin _ g1 fun ρ w p' q' hp hq => ?_
      refine ⟨_, .bool b, guard_ok (.inl (by rw [hp.plain]; exact hpl)) (fun e1 e2 => ?_), bin_eql (by rw [hp.plain]; exact hpl) ?_⟩
      · exfalso
        cases hp <;> cases e1
        cases hq <;> cases e2
        exact hn3 rfl rfl
      · exact g2.imp (fun hh => ⟨hh.1, hh.2 ρ w _ _ hp hq⟩) (fun hh => ⟨hh.1, hh.2 ρ w _ _ hp hq⟩)
    · obtain ⟨b, g1, g2⟩ := eqOp_ok hT h4
      have hpl' : plainV p = true := by simpa using hpl
      have : ∃ cc, eqV T t p q cc = .ok a mm := by
        unfold eqOp at h4
        split at h4
        · exact ⟨_, h4⟩
        · exact ⟨_, h4⟩
        · cases h4
      obtain ⟨cc, hcc⟩ := this
      rcases eqV_plain hcc hpl' with ⟨_, _, _, _, rfl, rfl⟩ | ⟨_, _, rfl, rfl⟩ | ⟨xs, ys, d, rfl, rfl, hd, hf⟩
      · exact (hn1 _ _ _ _ rfl rfl).elim
      · exact (hn2 _ _ rfl rfl).elim
      · refine fin _ g1 fun ρ w p' q' hp hq => ?_
        have hp0 := hp; have hq0 := hq
        cases hp; cases hq
        refine ⟨_, .bool b, agg_guard (hT.flt t d hd hf).2, agg_eql ?_⟩
        exact g2.imp (fun hh => ⟨hh.1, hh.2 ρ w _ _ hp0 hq0⟩) (fun hh => ⟨hh.1, hh.2 ρ w _ _ hp0 hq0⟩)
theorem un_ok {op : UnOp} {t : TypeId} {x : Operand} (h : unOp' op t x T call env m k = .ok a mm) : ∃ v, k v m = .ok a mm ∧ PureS P (.unOp op t x) env v := by
  obtain ⟨p, h1, h2⟩ := evalO_ok h
  have fin : ∀ v, groundB v = true → k v m = .ok a mm → (∀ (ρ : Ren) (p' : Value), VR ρ p p' → Op.unary op p' = .pure v) → ∃ v, k v m = .ok a mm ∧ PureS P (.unOp op t x) env v := fun v hg hk hh => ⟨v, hk, fun ρ w o c ho hS => by
    have g := hh ρ _ (hS x p (by simp [Op.operands]) h1)
    refine ⟨v, .ground hg, ?_⟩
    unfold execOp
    rw [ho]
    simp only [g]
    rfl⟩
  unfold unF at h2
  split at h2
  · rw [boolV_eq] at h2
    exact fin _ rfl h2 fun ρ p' hp => by cases hp; rfl
  · obtain ⟨v, g1, g2, g3⟩ := pureK_ok h2
    exact fin v g3 g2 fun ρ p' hp => by cases hp; exact g1
  · cases h2
end
end Go.Proofs.YtpilmdfnbfcmkaaGreat.Ev
