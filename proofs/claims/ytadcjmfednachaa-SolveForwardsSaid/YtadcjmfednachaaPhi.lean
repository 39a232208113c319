/-
  A region that draws its order: its head makes memory alone, in any order; what each operation brings about lasts; the tail waits for the head. No program in sight.
-/
import Derived.Test.YtadcjmfednachaaRegion
namespace Go.Proofs.Ytadcjmfednachaa
open Go.RowKit
set_option linter.unusedVariables false
set_option linter.unusedSimpArgs false

def cntU (listed : Array Bool) : Nat → Nat
  | 0 => 0
  | k + 1 => cntU listed k + if listed.getD k false = true then 0 else 1
theorem cntU_set_ge {listed : Array Bool} {i : Nat} : ∀ n, n ≤ i → cntU (listed.setIfInBounds i true) n = cntU listed n
  | 0, _ => rfl
  | k + 1, h => by
    unfold cntU
    rw [cntU_set_ge k (by omega), getD_set_ne false (by omega)]
theorem cntU_set {listed : Array Bool} {i : Nat} (hi : listed.getD i true = false) : ∀ n, i < n → cntU (listed.setIfInBounds i true) n + 1 = cntU listed n
  | 0, h => absurd h (by omega)
  | k + 1, h => by
    have hs : i < listed.size := by
      rcases Nat.lt_or_ge i listed.size with h' | h'
      · exact h'
      · simp [h'] at hi
    unfold cntU
    by_cases e : i = k
    · subst e
      rw [cntU_set_ge i (Nat.le_refl _)]
      have h1 : (listed.setIfInBounds i true).getD i false = true := by simp [hs]
      have h2 : listed.getD i false = false := by simp [hs] at hi ⊢; exact hi
      rw [if_pos h1, if_neg (by rw [h2]; simp)]
    · have := cntU_set hi k (by omega)
      rw [getD_set_ne false e]
      omega
theorem cntU_zero {listed : Array Bool} : ∀ n, cntU listed n = 0 → ∀ i, i < n → listed.getD i false = true
  | 0, _, i, h => absurd h (by omega)
  | k + 1, h, i, hi => by
    unfold cntU at h
    by_cases c : listed.getD k false = true
    · by_cases e : i = k
      · rw [e]; exact c
      · exact cntU_zero k (by omega) i (by omega)
    · rw [if_neg c] at h; omega
/-- The least head that isn't listed. -/
theorem cntU_least {listed : Array Bool} : ∀ n, 0 < cntU listed n → ∃ i, i < n ∧ listed.getD i false = false ∧ ∀ j, j < i → listed.getD j false = true
  | 0, h => by unfold cntU at h; omega
  | k + 1, h => by
    by_cases c : 0 < cntU listed k
    · obtain ⟨i, h1, h2⟩ := cntU_least k c
      exact ⟨i, by omega, h2⟩
    · have c0 : cntU listed k = 0 := by omega
      unfold cntU at h
      by_cases d : listed.getD k false = true
      · rw [if_pos d] at h; omega
      · exact ⟨k, by omega, by simpa using d, cntU_zero k c0⟩
section
variable {P : Program} {ops : Array Oper} {md : Region.Mode}
/-- No operation of the head writes this slot. -/
def freeS (ops : Array Oper) (n k : Nat) : Bool := (List.range n).all fun i => match ops[i]? with | some o => o.dst != some k | none => true
/-- Operation i waits for j, which writes slot d. -/
def depS (md : Region.Mode) (ops : Array Oper) (n i j d : Nat) : Bool := decide (j < n) && Region.waitsFor md ops i j && match ops[j]? with | some o => o.dst == some d | none => false
theorem freeS_spec {n k : Nat} (h : freeS ops n k = true) : ∀ (i : Nat) (o : Oper), i < n → ops[i]? = some o → o.dst ≠ some k := by
  intro i o hi ho
  simp only [freeS, List.all_eq_true, List.mem_range] at h
  have := h i hi
  rw [ho] at this
  exact bne_iff_ne.1 this
structure PhiJ (md : Region.Mode) (ops : Array Oper) (n : Nat) (φ : Nat → Value → Nat → Nat → World → Prop) (a0 : Act) (w0 : World) (I : Nat → Nat × Nat) (listed : Array Bool) (a : Act) (w : World) : Prop where
  closed : Closed md ops listed
  size : listed.size = ops.size
  tail : ∀ t, n ≤ t → t < ops.size → listed.getD t true = false
  asz : a.tmps.size = a0.tmps.size
  adf : a.defers = a0.defers
  same : ∀ k, freeS ops n k = true → a.tmps[k]? = a0.tmps[k]?
  below : Below w0.heap.size w0 w
  phi : ∀ (i : Nat) (o : Oper) (d : Tmp), i < n → listed.getD i false = true → ops[i]? = some o → o.dst = some d → φ i (a.tmps.getD d undef) (I i).1 (I i).2 w
  ivl : ∀ i, i < n → listed.getD i false = true → w0.heap.size ≤ (I i).1 ∧ (I i).1 ≤ (I i).2 ∧ (I i).2 ≤ w.heap.size
  apart : ∀ i j, i < n → j < n → i ≠ j → listed.getD i false = true → listed.getD j false = true → (I i).2 ≤ (I j).1 ∨ (I j).2 ≤ (I i).1
  order : ∀ i j, i < n → j < n → listed.getD j false = true → Region.waitsFor md ops j i = true → (I i).2 ≤ (I j).1
/-- An operation of the head. -/
def StepOne (P : Program) (md : Region.Mode) (ops : Array Oper) (n : Nat) (φ : Nat → Value → Nat → Nat → World → Prop) (a0 : Act) (w0 : World) (Q : Exit → Act → World → Prop) (i : Nat) (o : Oper) : Prop :=
  o.guard = none ∧ ∀ (a : Act) (w : World) (K : Act → World → Prop), a.tmps.size = a0.tmps.size → a.defers = a0.defers → (∀ k, freeS ops n k = true → a.tmps[k]? = a0.tmps[k]?) → Below w0.heap.size w0 w →
    (∀ j d, depS md ops n i j d = true → ∃ lo hi, φ j (a.tmps.getD d undef) lo hi w) →
    Hid (∀ v w', Below w.heap.size w w' → φ i v w.heap.size w'.heap.size w' → K (a.put o.dst v) w') → Oper.wp P o a w K Q
def tailW (md : Region.Mode) (ops : Array Oper) (n : Nat) : Bool := (List.range ops.size).all fun t => decide (t < n) || (List.range n).all fun i => waitsT md ops ops.size t i
theorem getD_put {a : Act} {d e : Tmp} {v : Value} (hd : d < a.tmps.size) : (a.put (some d) v).tmps.getD e undef = if d = e then v else a.tmps.getD e undef := by
  show (a.tmps.setIfInBounds d v).getD e undef = _
  by_cases h : d = e
  · subst h; simp [hd]
  · rw [if_neg h]; simp [Array.getElem?_setIfInBounds_ne h]
theorem szB_spec {n sz i : Nat} {o : Oper} (h : szB ops n sz = true) (hi : i < n) (ho : ops[i]? = some o) : ∃ d, o.dst = some d ∧ d < sz ∧ ∀ (j : Nat) (oj : Oper), j < n → ops[j]? = some oj → j ≠ i → oj.dst ≠ some d := by
  simp only [szB, List.all_eq_true, List.mem_range] at h
  have h1 := h i hi
  rw [ho] at h1
  simp only [Bool.and_eq_true] at h1
  cases hd : o.dst with
  | none => rw [hd] at h1; simp at h1
  | some d =>
    rw [hd] at h1
    refine ⟨d, rfl, by simpa using h1.1, fun j oj hj hoj hne e => ?_⟩
    rcases Nat.lt_or_gt_of_ne hne with hlt | hgt
    · have h2 := h j hj
      rw [hoj] at h2
      simp only [Bool.and_eq_true, List.all_eq_true, List.mem_range] at h2
      have h3 := h2.2 i hi
      rw [ho] at h3
      simp [hd, e] at h3
      omega
    · have h3 := h1.2
      simp only [List.all_eq_true, List.mem_range] at h3
      have h4 := h3 j hj
      rw [hoj] at h4
      simp [e] at h4
      omega
theorem wpAny_phi {Q : Exit → Act → World → Prop} {n : Nat} {φ : Nat → Value → Nat → Nat → World → Prop} {a0 : Act} {w0 : World} (hn : n ≤ ops.size) (hT : tailB md ops n = true) (hb : backB md ops = true) (hW : tailW md ops n = true) (hS : szB ops n a0.tmps.size = true)
    (stable : ∀ i v lo hi w w', hi ≤ w.heap.size → φ i v lo hi w → Below w.heap.size w w' → φ i v lo hi w') (step : ∀ i o, i < n → ops[i]? = some o → StepOne P md ops n φ a0 w0 Q i o)
    (rest : ∀ I listed a w, PhiJ md ops n φ a0 w0 I listed a w → (∀ i, i < n → listed.getD i false = true) → wpList P ops Q (ops.toList.drop n) a w) :
    ∀ (m : Nat) (listed : Array Bool) (a : Act) (w : World) (I : Nat → Nat × Nat), cntU listed n = m → PhiJ md ops n φ a0 w0 I listed a w → wpAny P md ops Q (m + (ops.size - n)) listed a w := by
  intro m
  induction m with
  | zero =>
    intro listed a w I hm J
    have hall := cntU_zero n hm
    have := wpAny_tail hT hb (ops.size - n) n 0 listed a w (by omega) (Nat.le_refl _) J.size hall J.tail (rest I listed a w J hall)
    rwa [Nat.zero_add] at this ⊢
  | succ m ih =>
    intro listed a w I hm J
    obtain ⟨i0, hi0, hu0, hl0⟩ := cntU_least (listed := listed) n (by omega)
    rw [show m + 1 + (ops.size - n) = m + (ops.size - n) + 1 by omega]
    refine ⟨fun h0 => ?_, fun i hi => ?_⟩
    · have hu : listed.getD i0 true = false := by
        have hs : i0 < listed.size := by rw [J.size]; omega
        simp [hs] at hu0 ⊢; exact hu0
      have := ready_of_least hb (k := i0) (by omega) J.size hu hl0
      rw [h0] at this; cases this
    · have hin : i < n := by
        rcases Nat.lt_or_ge i n with h' | h'
        · exact h'
        · refine absurd hi (not_ready_of_waits J.closed ⟨ops.size, ?_⟩ hu0)
          have hi' : i < ops.size := by
            obtain ⟨_, o, ho, _⟩ := mem_ready.1 hi
            exact (Array.getElem?_eq_some_iff.1 ho).1
          simp only [tailW, List.all_eq_true, List.mem_range, Bool.or_eq_true, decide_eq_true_eq] at hW
          exact (hW i hi').resolve_left (by omega) i0 hi0
      obtain ⟨hui, o, ho, hdep⟩ := mem_ready.1 hi
      obtain ⟨hg, hst⟩ := step i o hin ho
      obtain ⟨d, hd, hdz, hdn⟩ := szB_spec hS hin ho
      refine wpOp_step ho fun K' hK' => ?_
      rw [if_pos (by simp [Region.wanted, hg])]
      refine hst a w K' J.asz J.adf J.same J.below (fun j dj hj => ?_) (Lib.hid fun v w' hbw hv => hK' _ _ ?_)
      · simp only [depS, Bool.and_eq_true, decide_eq_true_eq] at hj
        obtain ⟨⟨hjn, hjw⟩, hjd⟩ := hj
        cases hoj : ops[j]? with
        | none => rw [hoj] at hjd; cases hjd
        | some oj =>
          rw [hoj] at hjd
          obtain ⟨o', ho', e, he, hbd, rfl⟩ := Region.waitsFor_spec hjw
          obtain rfl : o' = o := by rw [ho] at ho'; exact (Option.some.inj ho').symm
          exact ⟨_, _, J.phi e.on oj dj hjn (hdep e he hbd) hoj (by simpa using hjd)⟩
      · have hsz : w.heap.size ≤ w'.heap.size := hbw.size
        have hsi : i < listed.size := by rw [J.size]; exact (Array.getElem?_eq_some_iff.1 ho).1
        have hset : ∀ j, (listed.setIfInBounds i true).getD j false = true → j = i ∨ listed.getD j false = true := fun j hj => getD_set_cases hj
        refine ih _ _ _ (fun j => if j = i then (w.heap.size, w'.heap.size) else I j) (by have := cntU_set hui n hin; omega) ⟨J.closed.set hi, by simpa using J.size, fun t h1 h2 => ?_, ?_, ?_, fun k hk => ?_, J.below.trans (hbw.mono J.below.size), fun j oj dj hj hlj hoj hdj => ?_, fun j hj hlj => ?_, fun j k hj hk hne hlj hlk => ?_, fun j k hj hk hlk hwk => ?_⟩
        · rw [getD_set_ne true (by omega)]; exact J.tail t h1 h2
        · rw [put_size]; exact J.asz
        · rw [put_defers]; exact J.adf
        · rw [hd, put_get (fun e => freeS_spec hk i o hin ho (by rw [hd, e]))]
          exact J.same k hk
        · rw [hd, getD_put (by rw [J.asz]; exact hdz)]
          by_cases e : j = i
          · subst e
            obtain rfl : oj = o := by rw [ho] at hoj; exact (Option.some.inj hoj).symm
            rw [hd] at hdj
            rw [if_pos (Option.some.inj hdj), if_pos rfl]
            exact hv
          · have hlj' := (hset j hlj).resolve_left e
            rw [if_neg (fun h => hdn j oj hj hoj e (by rw [hdj, h])), if_neg e]
            exact stable j _ _ _ w w' (J.ivl j hj hlj').2.2 (J.phi j oj dj hj hlj' hoj hdj) hbw
        · by_cases e : j = i
          · rw [if_pos e]; exact ⟨J.below.size, hsz, Nat.le_refl _⟩
          · rw [if_neg e]
            obtain ⟨h1, h2, h3⟩ := J.ivl j hj ((hset j hlj).resolve_left e)
            exact ⟨h1, h2, by omega⟩
        · by_cases e : j = i
          · have e2 : k ≠ i := fun h => hne (e.trans h.symm)
            rw [if_pos e, if_neg e2]
            exact .inr (J.ivl k hk ((hset k hlk).resolve_left e2)).2.2
          · rw [if_neg e]
            by_cases e2 : k = i
            · rw [if_pos e2]; exact .inl (J.ivl j hj ((hset j hlj).resolve_left e)).2.2
            · rw [if_neg e2]; exact J.apart j k hj hk hne ((hset j hlj).resolve_left e) ((hset k hlk).resolve_left e2)
        · by_cases e2 : k = i
          · rw [if_pos e2]
            obtain ⟨o', ho', ed, he, hbd, rfl⟩ := Region.waitsFor_spec hwk
            obtain rfl : o' = o := by rw [e2, ho] at ho'; exact (Option.some.inj ho').symm
            have hl := hdep ed he hbd
            have hne : ed.on ≠ i := by
              intro h
              rw [h] at hl
              have : listed.getD i false = false := by simp [hsi] at hui ⊢; exact hui
              rw [this] at hl; cases hl
            rw [if_neg hne]
            exact (J.ivl _ hj hl).2.2
          · have hlk' := (hset k hlk).resolve_left e2
            have hlj : listed.getD j false = true := waitsFor_listed J.closed hwk hlk'
            have hne : j ≠ i := by
              intro h
              rw [h] at hlj
              have : listed.getD i false = false := by simp [hsi] at hui ⊢; exact hui
              rw [this] at hlj; cases hlj
            rw [if_neg hne, if_neg e2]
            exact J.order j k hj hk hlk' hwk
end
def phiB (l : List Oper) (n sz : Nat) : Bool := decide (n ≤ l.length) && tailB .any l.toArray n && backB .any l.toArray && tailW .any l.toArray n && szB l.toArray n sz
def StepAll (P : Program) (ops : Array Oper) (n : Nat) (φ : Nat → Value → Nat → Nat → World → Prop) (a0 : Act) (w0 : World) (Q : Exit → Act → World → Prop) : List Oper → Nat → Prop
  | [], _ => True
  | o :: r, k => StepOne P .any ops n φ a0 w0 Q k o ∧ StepAll P ops n φ a0 w0 Q r (k + 1)
theorem StepAll.at_ {P : Program} {ops : Array Oper} {n : Nat} {φ : Nat → Value → Nat → Nat → World → Prop} {a0 : Act} {w0 : World} {Q : Exit → Act → World → Prop} : ∀ (r : List Oper) (k : Nat), StepAll P ops n φ a0 w0 Q r k → ∀ (i : Nat) (o : Oper), r[i]? = some o → StepOne P .any ops n φ a0 w0 Q (k + i) o
  | [], _, _, i, o, h => by simp at h
  | o' :: r, k, h, 0, o, ho => by
    simp at ho
    subst ho
    exact h.1
  | o' :: r, k, h, i + 1, o, ho => by
    have := StepAll.at_ r (k + 1) h.2 i o (by simpa using ho)
    rwa [show k + 1 + i = k + (i + 1) by omega] at this
/-- **EACH OPERATION OF THE HEAD ONCE.** -/
theorem wp_region_phi {P : Program} {id : Nat} {Q : Exit → Act → World → Prop} {a0 : Act} {w0 : World} {l : List Oper} (n : Nat) (φ : Nat → Value → Nat → Nat → World → Prop) (hm : P.follows .mixedOrders = true) (hB : phiB l n a0.tmps.size = true)
    (stable : ∀ i v lo hi w w', hi ≤ w.heap.size → φ i v lo hi w → Below w.heap.size w w' → φ i v lo hi w') (step : StepAll P l.toArray n φ a0 w0 Q (l.take n) 0)
    (rest : ∀ (I : Nat → Nat × Nat) (a : Act) (w : World), a.tmps.size = a0.tmps.size → a.defers = a0.defers → (∀ k, freeS l.toArray n k = true → a.tmps[k]? = a0.tmps[k]?) → Below w0.heap.size w0 w →
      (∀ (i : Nat) (o : Oper) (d : Tmp), i < n → l[i]? = some o → o.dst = some d → φ i (a.tmps.getD d undef) (I i).1 (I i).2 w) → (∀ i, i < n → w0.heap.size ≤ (I i).1 ∧ (I i).1 ≤ (I i).2 ∧ (I i).2 ≤ w.heap.size) →
      (∀ i j, i < n → j < n → i ≠ j → (I i).2 ≤ (I j).1 ∨ (I j).2 ≤ (I i).1) → (∀ i j, i < n → j < n → Region.waitsFor .any l.toArray j i = true → (I i).2 ≤ (I j).1) → wpList P l.toArray Q (l.drop n) a w) :
    (Code.region id l.toArray true).wp P Q a0 w0 := by
  simp only [phiB, Bool.and_eq_true, decide_eq_true_eq] at hB
  obtain ⟨⟨⟨⟨hn, hT⟩, hb⟩, hW⟩, hS⟩ := hB
  refine wp_region_any hm ?_
  have h := wpAny_phi (P := P) (Q := Q) (n := n) (φ := φ) (a0 := a0) (w0 := w0) (ops := l.toArray) (md := .any) (by simpa using hn) hT hb hW hS stable (fun i o hi ho => by
      have := StepAll.at_ (l.take n) 0 step i o (by rw [List.getElem?_take_of_lt hi]; simpa using ho)
      rwa [Nat.zero_add] at this)
    (fun I listed a w J hall => by
      have := rest I a w J.asz J.adf J.same J.below (fun i o d hi ho hd => J.phi i o d hi (hall i hi) (by simpa using ho) hd) (fun i hi => J.ivl i hi (hall i hi)) (fun i j hi hj hne => J.apart i j hi hj hne (hall i hi) (hall j hj)) (fun i j hi hj hw => J.order i j hi hj (hall j hj) hw)
      simpa using this)
    n (Array.replicate l.toArray.size false) a0 { w0 with drawn := w0.drawn + 1 } (fun _ => (0, 0)) (by
      have : ∀ k, k ≤ l.toArray.size → cntU (Array.replicate l.toArray.size false) k = k := by
        intro k
        induction k with
        | zero => intro _; rfl
        | succ k ih =>
          intro hk
          unfold cntU
          rw [ih (by omega), getD_replicate_false, if_neg (by simp)]
      exact this n (by simpa using hn))
    ⟨fun j o _ hl => (by rw [getD_replicate_false] at hl; cases hl), by simp, fun t _ ht => by simp [show t < l.length by simpa using ht], rfl, rfl, fun _ _ => rfl, (Below.refl _ _).drew, fun i o d _ hl => (by rw [getD_replicate_false] at hl; cases hl), fun i _ hl => (by rw [getD_replicate_false] at hl; cases hl), fun i j _ _ _ hl => (by rw [getD_replicate_false] at hl; cases hl), fun i j _ _ hl => (by rw [getD_replicate_false] at hl; cases hl)⟩
  rwa [show n + (l.toArray.size - n) = l.toArray.size by simp; omega] at h
theorem len_succ {α : Type} {xs : List α} {n : Nat} (h : xs.length = n + 1) : ∃ x ys, xs = x :: ys ∧ ys.length = n := by
  cases xs with
  | nil => simp at h
  | cons x ys => exact ⟨x, ys, rfl, by simpa using h⟩
end Go.Proofs.Ytadcjmfednachaa
