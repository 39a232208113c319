/-
  A region that draws its order, whose head reads, calls and makes new variables, and whose tail (stores and what follows them) waits for all that is ahead: one walk in the text's order serves every order. No program in sight.
-/
import Derived.Test.YteepjngkbjbheaaDoorIf
import Derived.StillTail
namespace Go.Proofs.YteepjngkbjbheaaDoor
open Go.RowKit
set_option linter.unusedVariables false
set_option linter.unusedSimpArgs false

section
variable {P : Program} {ops : Array Oper} {w0 : World} {md : Region.Mode}

def isAl (o : Oper) : Bool := match o.op with | .alloc _ => true | _ => false

/-- Operation o in frame a yields v in whatever world that extends w0, and leaves a world that extends the one it got; a new variable's address is left out. -/
def Gives (P : Program) (ops : Array Oper) (w0 : World) (o : Oper) (v : Value) (a : Act) : Prop :=
  (Region.wanted o (yielded ops a.tmps) = true ∧ isAl o = false ∧ ∀ w, Ext w0 w → o.quietAt P a (Ext w) w v) ∨
  (Region.wanted o (yielded ops a.tmps) = true ∧ isAl o = true ∧ v = undef) ∨
  (Region.wanted o (yielded ops a.tmps) = false ∧ v = undef)

theorem Gives.of_same {o : Oper} {v : Value} {a a' : Act} (h : Gives P ops w0 o v a) (he : execOp a'.eval o = execOp a.eval o) (hw : Region.wanted o (yielded ops a'.tmps) = Region.wanted o (yielded ops a.tmps)) :
    Gives P ops w0 o v a' := by
  unfold Gives Oper.quietAt at *
  rw [he, hw]
  exact h

def gOp (P : Program) (ops : Array Oper) (w0 : World) (i : Nat) (K : Act → Prop) (a : Act) : Prop :=
  ∃ o, ops[i]? = some o ∧ ∃ v, Gives P ops w0 o v a ∧ K (a.put o.dst v)

def gAny (P : Program) (md : Region.Mode) (ops : Array Oper) (w0 : World) (n : Nat) (Q : Act → Prop) : Nat → Array Bool → Act → Prop
  | 0, listed, a => (∀ i ∈ Region.ready md ops listed, n ≤ i) ∧ Q a
  | fuel + 1, listed, a => ((∀ i ∈ Region.ready md ops listed, n ≤ i) → Q a) ∧ ∀ i ∈ Region.ready md ops listed, i < n → gOp P ops w0 i (gAny P md ops w0 n Q fuel (listed.setIfInBounds i true)) a

theorem gAny_first {n : Nat} {Q : Act → Prop} {i : Nat} {oi : Oper} {v : Value} (hi : ops[i]? = some oi) (hin : i < n) (hsel : ∀ (j : Nat) (o : Oper) cs b, ops[j]? = some o → o.op ≠ .select cs b) :
    ∀ (fuel : Nat) (listed : Array Bool) (a : Act),
      (∀ j oj, ops[j]? = some oj → j ≠ i → listed.getD j true = false → (∀ e ∈ oj.after, Region.binds md e = true → e.on ≠ i) → oi.apart ops oj = true) →
      i ∈ Region.ready md ops listed → Gives P ops w0 oi v a →
      gAny P md ops w0 n Q fuel (listed.setIfInBounds i true) (a.put oi.dst v) → gAny P md ops w0 n Q (fuel + 1) listed a := by
  intro fuel
  induction fuel with
  | zero =>
    intro listed a _ hr hy H
    refine ⟨fun h => absurd (h i hr) (by omega), fun j hj hjn => ?_⟩
    by_cases hji : j = i
    · subst hji; exact ⟨oi, hi, v, hy, H⟩
    · exact absurd (H.1 j (ready_mono hj hji)) (by omega)
  | succ fuel ih =>
    intro listed a hfree hr hy H
    refine ⟨fun h => absurd (h i hr) (by omega), fun j hj hjn => ?_⟩
    by_cases hji : j = i
    · subst hji; exact ⟨oi, hi, v, hy, H⟩
    · obtain ⟨oj, hoj, u, hu, hK⟩ := H.2 j (ready_mono hj hji) hjn
      obtain ⟨hjun, oj', hoj', hall⟩ := mem_ready.1 hj
      obtain rfl : oj' = oj := by rw [hoj] at hoj'; exact (Option.some.inj hoj').symm
      have hnot : ∀ e ∈ oj'.after, Region.binds md e = true → e.on ≠ i := fun e he hb heq => by
        have h1 := hall e he hb
        have h0 := (mem_ready.1 hr).1
        rw [heq] at h1
        rcases Nat.lt_or_ge i listed.size with h' | h'
        · simp [h'] at h0 h1; rw [h0] at h1; cases h1
        · simp [Array.getElem?_eq_none h'] at h1
      obtain ⟨h1, h2, h3⟩ := Oper.apart_spec (hfree j oj' hoj hji hjun hnot)
      refine ⟨oj', hoj, u, hu.of_same (execOp_put (ops := ops) oj' (fun cs b => hsel j oj' cs b hoj) a oi.dst v h1).symm (wanted_put oj' a oi.dst v h1).symm, ?_⟩
      refine ih (listed.setIfInBounds j true) (a.put oj'.dst u) (fun k ok hk hki hun hno => ?_) (ready_mono hr (Ne.symm hji))
        (hy.of_same (execOp_put (ops := ops) oi (fun cs b => hsel i oi cs b hi) a oj'.dst u h3) (wanted_put oi a oj'.dst u h3)) ?_
      · refine hfree k ok hk hki ?_ hno
        by_cases hjk : j = k
        · subst hjk; exact hjun
        · rw [getD_set_ne true hjk] at hun; exact hun
      · rw [Array.setIfInBounds_comm _ _ hji, ← Act.put_comm a v u h2]
        exact hK

/-- The walk in the text's order. -/
def gLex (P : Program) (ops : Array Oper) (w0 : World) (Q : Act → Prop) : List Oper → Act → Prop
  | [], a => Q a
  | o :: rest, a => ∃ v, Gives P ops w0 o v a ∧ gLex P ops w0 Q rest (a.put o.dst v)

def lexH (md : Region.Mode) (ops : Array Oper) (n : Nat) : Nat → Nat → Array Bool → Bool
  | 0, _, listed => (Region.ready md ops listed).all fun i => decide (n ≤ i)
  | fuel + 1, k, listed => (Region.ready md ops listed).contains k && decide (k < n) && Region.free md ops listed k && lexH md ops n fuel (k + 1) (listed.setIfInBounds k true)

theorem gAny_lex {n : Nat} {Q : Act → Prop} (hs : Region.noSelect ops = true) : ∀ (l : List Oper) (k : Nat) (listed : Array Bool) (a : Act), (∀ j, j < l.length → l[j]? = ops[k + j]?) →
    lexH md ops n l.length k listed = true → gLex P ops w0 Q l a → gAny P md ops w0 n Q l.length listed a
  | [], _, _, _, _, hB, h => ⟨fun i hi => by simp only [List.length_nil, lexH, List.all_eq_true, decide_eq_true_eq] at hB; exact hB i hi, h⟩
  | o :: l, k, listed, a, hl, hB, h => by
    have h0 : ops[k]? = some o := by simpa using (hl 0 (by simp)).symm
    simp only [List.length_cons, lexH, Bool.and_eq_true, decide_eq_true_eq] at hB
    obtain ⟨⟨⟨hr, hkn⟩, hf⟩, hB'⟩ := hB
    obtain ⟨v, hv, hK⟩ := h
    exact gAny_first h0 hkn (Region.noSelect_spec hs) l.length listed a (Region.free_spec h0 hf) (by simpa using hr) hv
      (gAny_lex hs l (k + 1) _ _ (fun j hj => by have := hl (j + 1) (by simp; omega); simpa [Nat.add_assoc, Nat.add_comm 1 j] using this) hB' hK)

/-! ### the tail -/
/-- t waits for i, by others too. -/
def waitsT (md : Region.Mode) (ops : Array Oper) : Nat → Nat → Nat → Bool
  | 0, t, i => Region.waitsFor md ops t i
  | f + 1, t, i => Region.waitsFor md ops t i || (List.range t).any fun j => Region.waitsFor md ops t j && waitsT md ops f j i
/-- What is listed has all listed that it waits for. -/
def Closed (md : Region.Mode) (ops : Array Oper) (listed : Array Bool) : Prop :=
  ∀ (j : Nat) (o : Oper), ops[j]? = some o → listed.getD j false = true → ∀ e ∈ o.after, Region.binds md e = true → listed.getD e.on false = true
theorem waitsFor_listed {t i : Nat} {listed : Array Bool} (hc : Closed md ops listed) (hw : Region.waitsFor md ops t i = true) (ht : listed.getD t false = true) : listed.getD i false = true := by
  obtain ⟨o, ho, e, he, hb, rfl⟩ := Region.waitsFor_spec hw
  exact hc t o ho ht e he hb
theorem waitsT_listed {listed : Array Bool} (hc : Closed md ops listed) : ∀ (f t i : Nat), waitsT md ops f t i = true → listed.getD t false = true → listed.getD i false = true
  | 0, t, i, hw, ht => waitsFor_listed hc hw ht
  | f + 1, t, i, hw, ht => by
    simp only [waitsT, Bool.or_eq_true, List.any_eq_true, Bool.and_eq_true] at hw
    rcases hw with hw | ⟨j, _, h1, h2⟩
    · exact waitsFor_listed hc hw ht
    · exact waitsT_listed hc f j i h2 (waitsFor_listed hc h1 ht)
theorem Closed.set {i : Nat} {listed : Array Bool} (hc : Closed md ops listed) (hr : i ∈ Region.ready md ops listed) : Closed md ops (listed.setIfInBounds i true) := by
  intro j o ho hl e he hb
  obtain ⟨_, o', ho', hall⟩ := mem_ready.1 hr
  by_cases hji : j = i
  · subst hji
    obtain rfl : o' = o := by rw [ho] at ho'; exact (Option.some.inj ho').symm
    exact getD_set_true (hall e he hb)
  · rw [getD_set_ne false (Ne.symm hji)] at hl
    exact getD_set_true (hc j o ho hl e he hb)
/-- A copy, or a part of a tuple: what it yields does not hang on the world. -/
def isLazy (o : Oper) : Bool := match o.op with | .move _ | .assign _ | .extract _ _ => true | _ => false
theorem lazy_run {o : Oper} (h : isLazy o = true) (ρ : Operand → Value) {w : World} {u : Value} {w1 : World} (hr : (execOp ρ o).run P w = .ok (.value u) w1) (w' : World) : (execOp ρ o).run P w' = .ok (.value u) w' := by
  obtain ⟨dst, op, ty, pos, after, guard⟩ := o
  cases op <;> simp [isLazy] at h
  case move x => simp [execOp] at hr ⊢; exact hr.1
  case assign x => simp [execOp] at hr ⊢; exact hr.1
  case extract t ix =>
    simp only [execOp, Instr.extract] at hr ⊢
    generalize ρ t = x at hr ⊢
    cases x with
    | tuple vs =>
      cases hv : vs[ix]? with
      | some v => simp [hv] at hr ⊢; exact hr.1
      | none => simp [hv, stuck] at hr
    | _ => simp [stuck] at hr
theorem lazy_not {o : Oper} (h : isLazy o = true) : isAl o = false := by
  obtain ⟨dst, op, ty, pos, after, guard⟩ := o
  cases op <;> simp [isLazy] at h <;> rfl
theorem lazy_next {o : Oper} (h : isLazy o = true) (ρ : Operand → Value) {w : World} {nx : Next} {w1 : World} (hr : (execOp ρ o).run P w = .ok nx w1) : ∃ u, nx = .value u := by
  obtain ⟨dst, op, ty, pos, after, guard⟩ := o
  cases op <;> simp [isLazy] at h
  case move x => simp [execOp] at hr; exact ⟨_, hr.1.symm⟩
  case assign x => simp [execOp] at hr; exact ⟨_, hr.1.symm⟩
  case extract t ix =>
    simp only [execOp, Instr.extract] at hr
    generalize ρ t = x at hr
    cases x with
    | tuple vs =>
      cases hv : vs[ix]? with
      | some v => simp [hv] at hr; exact ⟨_, hr.1.symm⟩
      | none => simp [hv, stuck] at hr
    | _ => simp [stuck] at hr
def lazyB (md : Region.Mode) (ops : Array Oper) (n i : Nat) : Bool := decide (i < n) && match ops[i]? with
  | some o => isLazy o && (List.range ops.size).all fun j => j == i || Region.waitsFor md ops j i || Region.waitsFor md ops i j || (match ops[j]? with | some oj => o.apart ops oj | none => true)
  | none => false
theorem lazyB_spec {n i : Nat} (h : lazyB md ops n i = true) : i < n ∧ ∃ o, ops[i]? = some o ∧ isLazy o = true ∧ ∀ j oj, ops[j]? = some oj → j ≠ i → Region.waitsFor md ops j i = false → Region.waitsFor md ops i j = false → o.apart ops oj = true := by
  simp only [lazyB, Bool.and_eq_true, decide_eq_true_eq] at h
  obtain ⟨h1, h2⟩ := h
  cases ho : ops[i]? with
  | none => rw [ho] at h2; cases h2
  | some o =>
    rw [ho] at h2
    simp only [Bool.and_eq_true, List.all_eq_true, List.mem_range] at h2
    refine ⟨h1, o, rfl, h2.1, fun j oj hj hne e1 e2 => ?_⟩
    have h3 := h2.2 j (Array.getElem?_eq_some_iff.1 hj).1
    simpa [hj, hne, e1, e2] using h3
def tailB (md : Region.Mode) (ops : Array Oper) (n : Nat) : Bool :=
  (List.range ops.size).all fun t => decide (t < n) || (List.range t).all fun i => waitsT md ops 3 t i || lazyB md ops n i || waitsT md ops 8 t i
def backB (md : Region.Mode) (ops : Array Oper) : Bool :=
  (List.range ops.size).all fun t => match ops[t]? with | some o => o.after.all fun e => !Region.binds md e || decide (e.on < t) | none => true

theorem tailB_spec {n t i : Nat} (h : tailB md ops n = true) (ht : t < ops.size) (hn : n ≤ t) (hi : i < t) : (∃ f, waitsT md ops f t i = true) ∨ lazyB md ops n i = true := by
  simp only [tailB, List.all_eq_true, List.mem_range, Bool.or_eq_true, decide_eq_true_eq] at h
  rcases h t ht with h | h
  · omega
  · rcases h i hi with (h1 | h1) | h1
    · exact .inl ⟨_, h1⟩
    · exact .inr h1
    · exact .inl ⟨_, h1⟩
theorem backB_spec {t : Nat} {o : Oper} (h : backB md ops = true) (ho : ops[t]? = some o) (e : Edge) (he : e ∈ o.after) (hb : Region.binds md e = true) : e.on < t := by
  have ht : t < ops.size := (Array.getElem?_eq_some_iff.1 ho).1
  simp only [backB, List.all_eq_true, List.mem_range] at h
  have h1 := h t ht
  rw [ho] at h1
  have h2 := Array.all_eq_true_iff_forall_mem.1 h1 e he
  simpa [hb] using h2
/-- What waits for something that isn't listed isn't ready. -/
theorem not_ready_of_waits {t i : Nat} {listed : Array Bool} (hc : Closed md ops listed) (hw : ∃ f, waitsT md ops f t i = true) (hi : listed.getD i false = false) : t ∉ Region.ready md ops listed := by
  intro hr
  obtain ⟨f, hw⟩ := hw
  obtain ⟨_, o, ho, hall⟩ := mem_ready.1 hr
  have direct : ∀ j, Region.waitsFor md ops t j = true → listed.getD j false = true := fun j hj => by
    obtain ⟨o', ho', e, he, hb, rfl⟩ := Region.waitsFor_spec hj
    obtain rfl : o' = o := by rw [ho] at ho'; exact (Option.some.inj ho').symm
    exact hall e he hb
  have : listed.getD i false = true := by
    cases f with
    | zero => exact direct i hw
    | succ f =>
      simp only [waitsT, Bool.or_eq_true, List.any_eq_true, Bool.and_eq_true] at hw
      rcases hw with hw | ⟨j, _, h1, h2⟩
      · exact direct i hw
      · exact waitsT_listed hc f j i h2 (direct j h1)
  rw [hi] at this
  cases this
/-- The least that isn't listed is ready. -/
theorem ready_of_least {k : Nat} {listed : Array Bool} (hb : backB md ops = true) (hk : k < ops.size) (hsz : listed.size = ops.size) (hun : listed.getD k true = false) (hl : ∀ i, i < k → listed.getD i false = true) : k ∈ Region.ready md ops listed := by
  refine mem_ready.2 ⟨hun, ops[k], by simp [hk], fun e he hbd => ?_⟩
  exact hl _ (backB_spec hb (t := k) (o := ops[k]) (by simp [hk]) e he hbd)

theorem wpAny_tail {Q : Exit → Act → World → Prop} {n : Nat} (hT : tailB md ops n = true) (hb : backB md ops = true) :
    ∀ (r k : Nat) (extra : Nat) (listed : Array Bool) (a : Act) (w : World), k + r = ops.size → n ≤ k → listed.size = ops.size →
      (∀ i, i < k → listed.getD i false = true) → (∀ i, k ≤ i → i < ops.size → listed.getD i true = false) →
      wpList P ops Q (ops.toList.drop k) a w → wpAny P md ops Q (extra + r) listed a w
  | 0, k, extra, listed, a, w, hk, hn, hsz, hl, hu, h => by
    have hnil : Region.ready md ops listed = [] := by
      refine List.eq_nil_iff_forall_not_mem.2 fun i hi => ?_
      obtain ⟨h0, o, ho, _⟩ := mem_ready.1 hi
      have hi' : i < ops.size := (Array.getElem?_eq_some_iff.1 ho).1
      have := hl i (by omega)
      rcases Nat.lt_or_ge i listed.size with h' | h'
      · simp [h'] at h0 this; rw [h0] at this; cases this
      · omega
    have hq : Q .normal a w := by
      have : ops.toList.drop k = [] := by rw [List.drop_eq_nil_iff]; simp; omega
      rw [this] at h
      exact h
    cases extra with
    | zero => exact ⟨hnil, hq⟩
    | succ e => exact ⟨fun _ => hq, fun i hi => by rw [hnil] at hi; cases hi⟩
  | r + 1, k, extra, listed, a, w, hk, hn, hsz, hl, hu, h => by
    have hk' : k < ops.size := by omega
    have hr : k ∈ Region.ready md ops listed := ready_of_least hb hk' hsz (hu k (Nat.le_refl _) hk') hl
    have hd : ops.toList.drop k = ops[k] :: ops.toList.drop (k + 1) := by
      rw [List.drop_eq_getElem_cons (by simpa using hk')]
      simp
    rw [hd] at h
    have hcl : Closed md ops listed := fun j o ho hlj e he hbd => by
      have hj' : j < ops.size := (Array.getElem?_eq_some_iff.1 ho).1
      have hjk : j < k := by
        rcases Nat.lt_or_ge j k with h' | h'
        · exact h'
        · have := hu j h' hj'
          simp [show j < listed.size by omega] at this hlj
          rw [this] at hlj; cases hlj
      exact hl _ (Nat.lt_trans (backB_spec hb ho e he hbd) hjk)
    refine ⟨fun h0 => (by rw [h0] at hr; cases hr), fun i hi => ?_⟩
    obtain ⟨h0, o, ho, _⟩ := mem_ready.1 hi
    have hi' : i < ops.size := (Array.getElem?_eq_some_iff.1 ho).1
    have hik : i = k := by
      rcases Nat.lt_trichotomy i k with h' | h' | h'
      · have := hl i h'
        simp [show i < listed.size by omega] at h0 this
        rw [h0] at this; cases this
      · exact h'
      · exact absurd hi (not_ready_of_waits hcl ((tailB_spec hT hi' (by omega) h').resolve_right (fun hl => by have := (lazyB_spec hl).1; omega)) (by
          have := hu k (Nat.le_refl _) hk'
          simp [show k < listed.size by omega] at this ⊢
          exact this))
    subst hik
    have hoi : ops[i]? = some ops[i] := by simp [hk']
    have next : ∀ a' w', wpList P ops Q (ops.toList.drop (i + 1)) a' w' → wpAny P md ops Q (extra + r) (listed.setIfInBounds i true) a' w' := fun a' w' h' =>
      wpAny_tail hT hb r (i + 1) extra _ a' w' (by omega) (by omega) (by simpa using hsz)
        (fun j hj => by
          by_cases hji : j = i
          · subst hji; simp [show j < listed.size by omega]
          · exact getD_set_true (hl j (by omega)))
        (fun j hj hj' => by rw [getD_set_ne true (by omega)]; exact hu j (by omega) hj') h'
    unfold wpOp
    rw [hoi]
    dsimp only
    unfold wpList at h
    split
    · rename_i hw
      rw [if_pos hw] at h
      exact h.imp (Oper.wp_mono next) id
    · rename_i hw
      rw [if_neg hw] at h
      exact next _ _ h

/-! ### the head, carried out -/
def alB (ops : Array Oper) (n : Nat) : Bool :=
  (List.range n).all fun i => match ops[i]? with
    | some o => !isAl o || (o.guard.isNone && o.dst.isSome && (List.range n).all fun j => match ops[j]? with
        | some oj => !(oj.looksAt ops).contains (o.dst.getD 0) && (j == i || oj.dst != some (o.dst.getD 0))
        | none => true)
    | none => true
def szB (ops : Array Oper) (n sz : Nat) : Bool :=
  (List.range n).all fun i => match ops[i]? with
    | some o => (match o.dst with | some d => decide (d < sz) | none => false) && (List.range n).all fun j => decide (j ≤ i) || (match ops[j]? with | some oj => oj.dst != o.dst | none => true)
    | none => true

theorem alB_spec {n i : Nat} {o : Oper} (h : alB ops n = true) (hi : i < n) (ho : ops[i]? = some o) (ha : isAl o = true) :
    o.guard = none ∧ ∃ d, o.dst = some d ∧ ∀ j oj, j < n → ops[j]? = some oj → d ∉ oj.looksAt ops ∧ (j ≠ i → oj.dst ≠ some d) := by
  simp only [alB, List.all_eq_true, List.mem_range] at h
  have h1 := h i hi
  rw [ho] at h1
  simp only [ha, Bool.not_true, Bool.false_or, Bool.and_eq_true, Option.isNone_iff_eq_none, List.all_eq_true, List.mem_range] at h1
  obtain ⟨⟨hg, hd⟩, hall⟩ := h1
  obtain ⟨d, hd⟩ := Option.isSome_iff_exists.1 hd
  refine ⟨hg, d, hd, fun j oj hj hoj => ?_⟩
  have h2 := hall j hj
  rw [hoj] at h2
  simp only [hd, Option.getD_some, Bool.and_eq_true, Bool.not_eq_true', Bool.or_eq_true, beq_iff_eq] at h2
  refine ⟨fun hm => ?_, fun hne => ?_⟩
  · have := h2.1
    rw [List.contains_iff_mem.2 hm] at this
    cases this
  · rcases h2.2 with h3 | h3
    · exact absurd h3 hne
    · exact bne_iff_ne.1 h3

structure Joined (ops : Array Oper) (w0 : World) (n : Nat) (z : Nat → Obj) (β : Nat → Nat) (listed : Array Bool) (a' a : Act) (w : World) : Prop where
  ext : Ext w0 w
  closed : Closed .any ops listed
  size : listed.size = ops.size
  tail : ∀ t, n ≤ t → t < ops.size → listed.getD t true = false
  defers : a.defers = a'.defers
  tmps : a.tmps.size = a'.tmps.size
  same : ∀ t, (∀ i o, i < n → ops[i]? = some o → isAl o = true → o.dst ≠ some t) → a.tmps[t]? = a'.tmps[t]?
  al : ∀ i o d, i < n → ops[i]? = some o → isAl o = true → o.dst = some d → listed.getD i false = true →
    a.tmps[d]? = some (.pointer (some ⟨β i, 0, none⟩)) ∧ w0.heap.size ≤ β i ∧ β i < w.heap.size ∧ w.heap[β i]? = some (z i)
  ne : ∀ i j oi oj, i < n → j < n → ops[i]? = some oi → ops[j]? = some oj → isAl oi = true → isAl oj = true → listed.getD i false = true → listed.getD j false = true → i ≠ j → β i ≠ β j

theorem Joined.looks {n : Nat} {z : Nat → Obj} {β : Nat → Nat} {listed : Array Bool} {a' a : Act} {w : World} (hA : alB ops n = true) (J : Joined ops w0 n z β listed a' a w) {i : Nat} {o : Oper} (hi : i < n) (ho : ops[i]? = some o)
    (t : Tmp) (ht : t ∈ o.looksAt ops) : a.tmps[t]? = a'.tmps[t]? :=
  J.same t fun j oj hj hoj ha he => by
    obtain ⟨_, d, hd, hall⟩ := alB_spec hA hj hoj ha
    rw [hd] at he
    obtain rfl := Option.some.inj he
    exact (hall i o hi ho).1 ht

theorem Joined.exec {n : Nat} {z : Nat → Obj} {β : Nat → Nat} {listed : Array Bool} {a' a : Act} {w : World} (hA : alB ops n = true) (hs : Region.noSelect ops = true) (J : Joined ops w0 n z β listed a' a w) {i : Nat} {o : Oper} (hi : i < n) (ho : ops[i]? = some o) :
    execOp a.eval o = execOp a'.eval o ∧ Region.wanted o (yielded ops a.tmps) = Region.wanted o (yielded ops a'.tmps) := by
  have hl := fun t ht => J.looks hA hi ho t ht
  refine ⟨execOp_congr o (fun cs b => Region.noSelect_spec hs i o cs b ho) fun x hx => ?_, ?_⟩
  · cases x with
    | tmp t =>
      have := hl t (List.mem_append_left _ (List.mem_filterMap.2 ⟨.tmp t, by simpa using hx, rfl⟩))
      simp only [Act.eval, Array.getD_eq_getD_getElem?, this]
    | _ => rfl
  · unfold Region.wanted
    cases hg : o.guard with
    | none => rfl
    | some gw =>
      obtain ⟨g, b⟩ := gw
      have : yielded ops a.tmps g = yielded ops a'.tmps g := by
        unfold yielded
        cases hd : (ops[g]?).bind (·.dst) with
        | none => rfl
        | some d =>
          have hm : d ∈ o.looksAt ops := List.mem_append_right _ (by simp [hg, hd])
          simp only [Option.bind_some, hl d hm]
      simp only [this]

theorem put_get {a : Act} {d t : Tmp} {v : Value} (h : d ≠ t) : (a.put (some d) v).tmps[t]? = a.tmps[t]? := by
  simp [Act.put, Array.getElem?_setIfInBounds_ne h]
theorem put_size (a : Act) (x : Option Tmp) (v : Value) : (a.put x v).tmps.size = a.tmps.size := by
  cases x <;> simp [Act.put]
theorem put_defers (a : Act) (x : Option Tmp) (v : Value) : (a.put x v).defers = a.defers := by
  cases x <;> rfl
theorem put_both {a a' : Act} (hs : a.tmps.size = a'.tmps.size) (x : Option Tmp) (v : Value) (t : Tmp) (h : a.tmps[t]? = a'.tmps[t]?) : (a.put x v).tmps[t]? = (a'.put x v).tmps[t]? := by
  cases x with
  | none => exact h
  | some d =>
    by_cases hd : d = t
    · subst hd
      simp only [Act.put, Array.getElem?_setIfInBounds_self, hs]
    · rw [put_get hd, put_get hd]; exact h

theorem getD_set_cases {listed : Array Bool} {i j : Nat} (h : (listed.setIfInBounds i true).getD j false = true) : j = i ∨ listed.getD j false = true := by
  by_cases hij : j = i
  · exact .inl hij
  · exact .inr (by rwa [getD_set_ne false (Ne.symm hij)] at h)

/-- One operation of the head that is no new variable. -/
theorem Joined.step {n : Nat} {z : Nat → Obj} {β : Nat → Nat} {listed : Array Bool} {a' a : Act} {w w2 : World} (hA : alB ops n = true) (J : Joined ops w0 n z β listed a' a w) {i : Nat} {o : Oper} (hi : i < n) (ho : ops[i]? = some o) (hal : isAl o = false) (hr : i ∈ Region.ready .any ops listed) (v : Value)
    (hw : Ext w w2) : Joined ops w0 n z β (listed.setIfInBounds i true) (a'.put o.dst v) (a.put o.dst v) w2 where
  ext := J.ext.next hw
  closed := J.closed.set hr
  size := by simpa using J.size
  tail t h1 h2 := by rw [getD_set_ne true (by omega)]; exact J.tail t h1 h2
  defers := by rw [put_defers, put_defers]; exact J.defers
  tmps := by rw [put_size, put_size]; exact J.tmps
  same t ht := put_both J.tmps _ _ t (J.same t ht)
  al j oj d hj hoj ha hd hl := by
    have hji : j ≠ i := fun e => by subst e; rw [ho] at hoj; obtain rfl := Option.some.inj hoj; rw [hal] at ha; cases ha
    have hl' := (getD_set_cases hl).resolve_left hji
    obtain ⟨h1, h2, h3, h4⟩ := J.al j oj d hj hoj ha hd hl'
    obtain ⟨_, d', hd', hall⟩ := alB_spec hA hj hoj ha
    obtain rfl : d' = d := by rw [hd] at hd'; exact (Option.some.inj hd').symm
    refine ⟨?_, h2, Nat.lt_of_lt_of_le h3 hw.of.size, (hw.of.block _ h3).trans h4⟩
    have hne := (hall i o hi ho).2 (Ne.symm hji)
    cases hod : o.dst with
    | none => exact h1
    | some e =>
      rw [hod] at hne
      rw [put_get (fun e' => hne (by rw [e']))]
      exact h1
  ne j k oj ok hj hk hoj hok haj hak hlj hlk hne := by
    have h1 : j ≠ i := fun e => by subst e; rw [ho] at hoj; obtain rfl := Option.some.inj hoj; rw [hal] at haj; cases haj
    have h2 : k ≠ i := fun e => by subst e; rw [ho] at hok; obtain rfl := Option.some.inj hok; rw [hal] at hak; cases hak
    exact J.ne j k oj ok hj hk hoj hok haj hak ((getD_set_cases hlj).resolve_left h1) ((getD_set_cases hlk).resolve_left h2) hne

/-- A new variable. -/
theorem Joined.fresh {n : Nat} {z : Nat → Obj} {β : Nat → Nat} {listed : Array Bool} {a' a : Act} {w : World} (hA : alB ops n = true) (J : Joined ops w0 n z β listed a' a w) {i : Nat} {o : Oper} (hi : i < n) (ho : ops[i]? = some o) (hal : isAl o = true) (hr : i ∈ Region.ready .any ops listed)
    (hun : listed.getD i true = false) (hd0 : ∀ d, o.dst = some d → d < a.tmps.size) :
    Joined ops w0 n z (fun k => if k = i then w.heap.size else β k) (listed.setIfInBounds i true) (a'.put o.dst undef) (a.put o.dst (.pointer (some ⟨w.heap.size, 0, none⟩))) (w.alloc (z i)) where
  ext := J.ext.next ((Below.refl _ _).alloc (Nat.le_refl _) _)
  closed := J.closed.set hr
  size := by simpa using J.size
  tail t h1 h2 := by rw [getD_set_ne true (by omega)]; exact J.tail t h1 h2
  defers := by rw [put_defers, put_defers]; exact J.defers
  tmps := by rw [put_size, put_size]; exact J.tmps
  same t ht := by
    obtain ⟨_, d, hd, _⟩ := alB_spec hA hi ho hal
    have := ht i o hi ho hal
    rw [hd] at this ⊢
    rw [put_get (fun e => this (by rw [e])), put_get (fun e => this (by rw [e]))]
    exact J.same t ht
  al j oj d hj hoj ha hd hl := by
    by_cases hji : j = i
    · subst hji
      obtain rfl : oj = o := by rw [ho] at hoj; exact (Option.some.inj hoj).symm
      refine ⟨?_, by simp only [if_true]; exact J.ext.of.size, by simp, ?_⟩
      · rw [hd]
        simp [Act.put, hd0 d hd]
      · simp only [if_true]
        show (w.heap.push _)[w.heap.size]? = _
        simp
    · have hl' := (getD_set_cases hl).resolve_left hji
      obtain ⟨h1, h2, h3, h4⟩ := J.al j oj d hj hoj ha hd hl'
      obtain ⟨_, d', hd', hall⟩ := alB_spec hA hj hoj ha
      obtain rfl : d' = d := by rw [hd] at hd'; exact (Option.some.inj hd').symm
      have hne := (hall i o hi ho).2 (Ne.symm hji)
      simp only [if_neg hji]
      refine ⟨?_, h2, by simp; omega, (Below.heap_alloc _ _ _ h3).trans h4⟩
      cases hod : o.dst with
      | none => exact h1
      | some e =>
        rw [hod] at hne
        rw [put_get (fun e' => hne (by rw [e']))]
        exact h1
  ne j k oj ok hj hk hoj hok haj hak hlj hlk hne := by
    have hlt : ∀ j oj, j < n → ops[j]? = some oj → isAl oj = true → j ≠ i → (listed.setIfInBounds i true).getD j false = true → β j < w.heap.size := fun j oj hj hoj ha hji hl => by
      obtain ⟨_, d, hd, _⟩ := alB_spec hA hj hoj ha
      exact (J.al j oj d hj hoj ha hd ((getD_set_cases hl).resolve_left hji)).2.2.1
    by_cases h1 : j = i
    · have h2 : k ≠ i := fun e => hne (h1.trans e.symm)
      have := hlt k ok hk hok hak h2 hlk
      simp only [if_pos h1, if_neg h2]
      omega
    · by_cases h2 : k = i
      · have := hlt j oj hj hoj haj h1 hlj
        simp only [if_pos h2, if_neg h1]
        omega
      · simp only [if_neg h1, if_neg h2]
        exact J.ne j k oj ok hj hk hoj hok haj hak ((getD_set_cases hlj).resolve_left h1) ((getD_set_cases hlk).resolve_left h2) hne

theorem head_all {n : Nat} {listed : Array Bool} (hb : backB md ops = true) (hsz : listed.size = ops.size) (h : ∀ i ∈ Region.ready md ops listed, n ≤ i) : ∀ i, i < n → i < ops.size → listed.getD i false = true := by
  intro i
  induction i using Nat.strongRecOn with
  | _ i ih =>
    intro hi hi'
    cases hu : listed.getD i false with
    | true => rfl
    | false =>
      have hu' : listed.getD i true = false := by
        simp [show i < listed.size by omega] at hu ⊢
        exact hu
      exact absurd (h i (ready_of_least hb hi' hsz hu' fun j hj => ih j hj (by omega) (by omega))) (by omega)

theorem gAny_sound {Q : Exit → Act → World → Prop} {Qh : Act → Prop} {n : Nat} {z : Nat → Obj} (hQ : ∀ (c : List PanicEntry) (a : Act) (d : Option Tmp) (v : Value) (w : World), Q (.panic c) (a.put d v) w → Q (.panic c) a w) (hn : n ≤ ops.size) (hs : Region.noSelect ops = true) (hT : tailB .any ops n = true) (hb : backB .any ops = true) (hA : alB ops n = true)
    (hz : ∀ i o, i < n → ops[i]? = some o → isAl o = true → ∀ (ρ : Operand → Value) (w : World), (execOp ρ o).run P w = .ok (.value (.pointer (some ⟨w.heap.size, 0, none⟩))) (w.alloc (z i)))
    (sz : Nat) (hd0 : ∀ i o d, i < n → ops[i]? = some o → o.dst = some d → d < sz)
    (hend : ∀ β listed a' a w, Qh a' → Joined ops w0 n z β listed a' a w → (∀ i, i < n → listed.getD i false = true) → wpList P ops Q (ops.toList.drop n) a w) :
    ∀ (fuel extra : Nat) (listed : Array Bool) (a' a : Act) (w : World) (β : Nat → Nat), a.tmps.size = sz → gAny P .any ops w0 n Qh fuel listed a' → Joined ops w0 n z β listed a' a w →
      wpAny P .any ops Q (extra + (fuel + (ops.size - n))) listed a w := by
  have done : ∀ (extra : Nat) (listed : Array Bool) (a' a : Act) (w : World) (β : Nat → Nat), (∀ i ∈ Region.ready .any ops listed, n ≤ i) → Qh a' → Joined ops w0 n z β listed a' a w →
      wpAny P .any ops Q (extra + (ops.size - n)) listed a w := fun extra listed a' a w β hno hq J => by
    have hall := head_all hb J.size hno
    have hall' : ∀ i, i < n → listed.getD i false = true := fun i hi => hall i hi (by omega)
    exact wpAny_tail hT hb (ops.size - n) n extra listed a w (by omega) (Nat.le_refl _) J.size hall' J.tail (hend β listed a' a w hq J hall')
  intro fuel
  induction fuel with
  | zero =>
    intro extra listed a' a w β _ h J
    rw [Nat.zero_add]
    exact done extra listed a' a w β h.1 h.2 J
  | succ fuel ih =>
    intro extra listed a' a w β hsz h J
    by_cases hno : ∀ i ∈ Region.ready .any ops listed, n ≤ i
    · have := done (extra + (fuel + 1)) listed a' a w β hno (h.1 hno) J
      rwa [show extra + (fuel + 1) + (ops.size - n) = extra + (fuel + 1 + (ops.size - n)) by omega] at this
    · obtain ⟨i0, hi0, hi0n⟩ : ∃ i0, i0 ∈ Region.ready .any ops listed ∧ i0 < n := by
        refine Classical.byContradiction fun hc => hno fun i hi => ?_
        rcases Nat.lt_or_ge i n with h' | h'
        · exact absurd ⟨i, hi, h'⟩ hc
        · exact h'
      rw [show extra + (fuel + 1 + (ops.size - n)) = (extra + (fuel + (ops.size - n))) + 1 by omega]
      by_cases hlz : ∃ i ∈ Region.ready .any ops listed, lazyB .any ops n i = true
      · obtain ⟨i, hi, hl⟩ := hlz
        obtain ⟨hin, o, ho, hoz, hap⟩ := lazyB_spec hl
        obtain ⟨o', ho', v, hv, hK⟩ := h.2 i hi hin
        obtain rfl : o' = o := by rw [ho] at ho'; exact (Option.some.inj ho').symm
        obtain ⟨he, hw⟩ := J.exec hA hs hin ho
        have hal := lazy_not hoz
        obtain ⟨hun, o2, ho2, hall⟩ := mem_ready.1 hi
        obtain rfl : o2 = o' := by rw [ho] at ho2; exact (Option.some.inj ho2).symm
        have hy : Yields P ops o2 v a := by
          unfold Yields
          rw [hw, he]
          rcases hv with ⟨h1, _, h3⟩ | ⟨_, h2, _⟩ | ⟨h1, h2⟩
          · refine .inl ⟨h1, fun w' => ?_⟩
            have h4 := h3 w J.ext
            unfold Oper.quietAt at h4
            cases hr : (execOp a'.eval o2).run P w with
            | ok nx w1 =>
              rw [hr] at h4
              obtain ⟨u, rfl⟩ := lazy_next hoz _ hr
              obtain ⟨_, rfl⟩ := h4
              exact lazy_run hoz _ hr w'
            | halt x w1 => rw [hr] at h4; exact h4.elim
          · rw [hal] at h2; cases h2
          · exact .inr ⟨h1, h2⟩
        refine wpAny_first ho (Region.noSelect_spec hs) (fun c a w => hQ c a _ _ w) (extra + (fuel + (ops.size - n))) listed a w (fun j oj hj hji hjun hno => ?_) hi hy
          (ih extra _ _ _ w β (by rw [put_size]; exact hsz) hK (J.step hA hin ho hal hi v (Below.refl _ _)))
        refine hap j oj hj hji ?_ ?_
        · cases hx : Region.waitsFor .any ops j i with
          | false => rfl
          | true =>
            obtain ⟨oj', hj', e, he', hb', hon⟩ := Region.waitsFor_spec hx
            obtain rfl : oj' = oj := by rw [hj] at hj'; exact (Option.some.inj hj').symm
            exact absurd hon (hno e he' hb')
        · cases hx : Region.waitsFor .any ops i j with
          | false => rfl
          | true =>
            obtain ⟨oi', hi', e, he', hb', hon⟩ := Region.waitsFor_spec hx
            obtain rfl : oi' = o2 := by rw [ho] at hi'; exact (Option.some.inj hi').symm
            have h5 := hall e he' hb'
            rw [hon] at h5
            have hjlt : j < listed.size := by rw [J.size]; exact (Array.getElem?_eq_some_iff.1 hj).1
            simp [hjlt] at h5 hjun
            rw [h5] at hjun; cases hjun
      refine ⟨fun h0 => (by rw [h0] at hi0; cases hi0), fun i hi => ?_⟩
      obtain ⟨hun, o, ho, _⟩ := mem_ready.1 hi
      have hi' : i < ops.size := (Array.getElem?_eq_some_iff.1 ho).1
      have hin : i < n := by
        rcases Nat.lt_or_ge i n with h' | h'
        · exact h'
        · have hu0 := (mem_ready.1 hi0).1
          exact absurd hi (not_ready_of_waits J.closed ((tailB_spec (i := i0) hT hi' h' (by omega)).resolve_right (fun hl => hlz ⟨i0, hi0, hl⟩)) (by
            have : i0 < listed.size := by rw [J.size]; omega
            simp [this] at hu0 ⊢
            exact hu0))
      obtain ⟨o', ho', v, hv, hK⟩ := h.2 i hi hin
      obtain rfl : o' = o := by rw [ho] at ho'; exact (Option.some.inj ho').symm
      obtain ⟨he, hw⟩ := J.exec hA hs hin ho
      have next : ∀ β a2 w2, a2.tmps.size = sz → Joined ops w0 n z β (listed.setIfInBounds i true) (a'.put o'.dst v) a2 w2 → wpAny P .any ops Q (extra + (fuel + (ops.size - n))) (listed.setIfInBounds i true) a2 w2 := fun β a2 w2 hs2 J2 =>
        ih extra _ _ a2 w2 β hs2 hK J2
      unfold wpOp
      rw [ho]
      dsimp only
      rw [hw]
      rcases hv with ⟨h1, h2, h3⟩ | ⟨h1, h2, rfl⟩ | ⟨h1, rfl⟩
      · rw [if_pos h1]
        left
        have h4 := h3 w J.ext
        unfold Oper.quietAt at h4
        unfold Oper.wp
        rw [he]
        generalize (execOp a'.eval o').run P w = r at *
        cases r with
        | ok nx w' =>
          cases nx <;> simp only [Oper.quietUpon] at h4 <;> simp only [Oper.upon]
          case value u =>
            obtain ⟨e1, e2⟩ := h4
            rw [e1, e2]
            exact next β _ _ (by rw [put_size]; exact hsz) (J.step hA hin ho h2 hi v (Below.refl _ _))
          case skip =>
            obtain ⟨e1, e2⟩ := h4
            rw [e1, ← e2]
            exact next β _ _ (by rw [put_size]; exact hsz) (J.step hA hin ho h2 hi v (Below.refl _ _))
          case enter f args =>
            obtain ⟨e1, hc⟩ := h4
            rw [e1]
            exact hc.mono fun e w'' ⟨he', hw''⟩ => by subst he'; exact next β _ _ (by rw [put_size]; exact hsz) (J.step hA hin ho h2 hi v hw'')
        | halt x w' => simp only [Oper.quietUpon] at h4
      · rw [if_pos h1]
        left
        unfold Oper.wp
        rw [hz i o' hin ho h2]
        simp only [Oper.upon]
        exact next _ _ _ (by rw [put_size]; exact hsz) (J.fresh hA hin ho h2 hi hun fun d hd => by rw [hsz]; exact hd0 i o' d hin ho hd)
      · rw [if_neg (by rw [h1]; simp)]
        have h2 : isAl o' = false := by
          cases hx : isAl o' with
          | false => rfl
          | true =>
            have := (alB_spec hA hin ho hx).1
            simp [Region.wanted, this] at h1
        exact next β _ _ (by rw [put_size]; exact hsz) (J.step hA hin ho h2 hi undef (Below.refl _ _))

/-! ### the walk in the text's order, by the kit's own quiet walk: a new variable's slot is left undefined -/
def deAl : Oper → Oper
  | ⟨dst, .alloc _, ty, pos, after, guard⟩ => ⟨dst, .move (.const undef), ty, pos, after, guard⟩
  | o => o
theorem deAl_dst (o : Oper) : (deAl o).dst = o.dst := by unfold deAl; split <;> rfl
theorem deAl_guard (o : Oper) : (deAl o).guard = o.guard := by unfold deAl; split <;> rfl
theorem deAl_not {o : Oper} (h : isAl o = false) : deAl o = o := by
  unfold deAl
  split
  · simp [isAl] at h
  · rfl
theorem deAl_run {o : Oper} (h : isAl o = true) (ρ : Operand → Value) (w : World) : ρ (.const undef) = undef → (execOp ρ (deAl o)).run P w = .ok (.value undef) w := by
  intro hρ
  obtain ⟨dst, op, ty, pos, after, guard⟩ := o
  cases op <;> simp [isAl] at h
  simp only [deAl]
  simp [execOp, hρ]

theorem yielded_deAl (l : List Oper) (tmps : Array Value) (j : Nat) : yielded (l.map deAl).toArray tmps j = yielded l.toArray tmps j := by
  unfold yielded
  have : (((l.map deAl).toArray)[j]?).bind (·.dst) = ((l.toArray)[j]?).bind (·.dst) := by
    simp only [List.getElem?_toArray, List.getElem?_map]
    cases l[j]? with
    | none => rfl
    | some o => simp [deAl_dst]
  rw [this]
theorem wanted_deAl (l : List Oper) (o : Oper) (tmps : Array Value) : Region.wanted (deAl o) (yielded (l.map deAl).toArray tmps) = Region.wanted o (yielded l.toArray tmps) := by
  have h : yielded (l.map deAl).toArray tmps = yielded l.toArray tmps := funext (yielded_deAl l tmps)
  unfold Region.wanted
  rw [deAl_guard, h]

theorem quiet_slot {C : World → Prop} {af : Act} {d : Tmp} : ∀ (r : List Oper) (a : Act), wpQuiet P ops C (· = af) r a → (∀ o ∈ r, o.dst ≠ some d) → af.tmps.getD d undef = a.tmps.getD d undef
  | [], a, h, _ => by
    have h : a = af := h
    rw [h]
  | o :: r, a, h, hd => by
    have hne := hd o (by simp)
    have key : ∀ v, (a.put o.dst v).tmps.getD d undef = a.tmps.getD d undef := fun v => by
      cases ho : o.dst with
      | none => rfl
      | some e =>
        rw [ho] at hne
        have hed : e ≠ d := fun e' => hne (by rw [e'])
        simp only [Array.getD_eq_getD_getElem?, put_get hed]
    unfold wpQuiet at h
    split at h
    · obtain ⟨v, _, h2⟩ := h
      rw [quiet_slot r _ h2 (fun o' ho' => hd o' (by simp [ho']))]
      exact key v
    · rw [quiet_slot r _ h (fun o' ho' => hd o' (by simp [ho']))]
      exact key undef

theorem put_slot {a : Act} {d : Tmp} {v : Value} (h : d < a.tmps.size) : (a.put (some d) v).tmps.getD d undef = v := by
  simp [Act.put, Array.getD_eq_getD_getElem?, h]

def dstsB (sz : Nat) : List Oper → Bool
  | [] => true
  | o :: r => (match o.dst with | some d => decide (d < sz) && r.all (fun o' => o'.dst != some d) | none => false) && dstsB sz r

theorem lexQ {l : List Oper} {af : Act} : ∀ (r : List Oper) (a : Act), dstsB a.tmps.size r = true → (∀ m, Ext w0 m → wpQuiet P (l.map deAl).toArray (Ext m) (· = af) (r.map deAl) a) → gLex P l.toArray w0 (· = af) r a
  | [], a, _, h => h w0 (Below.refl _ _)
  | o :: r, a, hB, h => by
    simp only [dstsB, Bool.and_eq_true] at hB
    obtain ⟨hd, hB⟩ := hB
    cases ho : o.dst with
    | none => rw [ho] at hd; cases hd
    | some d =>
      rw [ho] at hd
      simp only [Bool.and_eq_true, decide_eq_true_eq, List.all_eq_true, bne_iff_ne] at hd
      obtain ⟨hd1, hd2⟩ := hd
      have hlater : ∀ o' ∈ r.map deAl, o'.dst ≠ some d := fun o' ho' => by
        obtain ⟨o'', ho'', rfl⟩ := List.mem_map.1 ho'
        rw [deAl_dst]
        exact hd2 o'' ho''
      have hput : ∀ v, dstsB (a.put o.dst v).tmps.size r = true := fun v => by rw [put_size]; exact hB
      by_cases hw : Region.wanted o (yielded l.toArray a.tmps) = true
      · have h' : ∀ m, Ext w0 m → ∃ v, (∀ w, Ext m w → (deAl o).quietAt P a (Ext m) w v) ∧ wpQuiet P (l.map deAl).toArray (Ext m) (· = af) (r.map deAl) (a.put o.dst v) := fun m hm => by
          have h1 := h m hm
          simp only [List.map_cons] at h1
          unfold wpQuiet at h1
          rw [wanted_deAl, if_pos hw] at h1
          obtain ⟨v, h2, h3⟩ := h1
          rw [deAl_dst] at h3
          exact ⟨v, h2, h3⟩
        cases hal : isAl o with
        | true =>
          refine ⟨undef, .inr (.inl ⟨hw, hal, rfl⟩), lexQ r _ (hput _) fun m hm => ?_⟩
          obtain ⟨v, h2, h3⟩ := h' m hm
          have h4 := h2 m (Below.refl _ _)
          unfold Oper.quietAt at h4
          rw [deAl_run hal _ _ rfl] at h4
          obtain ⟨_, rfl⟩ := h4
          exact h3
        | false =>
          have hv : ∀ m (hm : Ext w0 m) v, wpQuiet P (l.map deAl).toArray (Ext m) (· = af) (r.map deAl) (a.put o.dst v) → v = af.tmps.getD d undef := fun m hm v h3 => by
            rw [quiet_slot _ _ h3 hlater, ho, put_slot hd1]
          refine ⟨af.tmps.getD d undef, .inl ⟨hw, hal, fun w hw' => ?_⟩, lexQ r _ (hput _) fun m hm => ?_⟩
          · obtain ⟨v, h2, h3⟩ := h' w hw'
            have h4 := h2 w (Below.refl _ _)
            rw [hv w hw' v h3, deAl_not hal] at h4
            exact h4
          · obtain ⟨v, h2, h3⟩ := h' m hm
            have := hv m hm v h3
            rw [this] at h3
            exact h3
      · refine ⟨undef, .inr (.inr ⟨by simpa using hw, rfl⟩), lexQ r _ (hput _) fun m hm => ?_⟩
        have h1 := h m hm
        simp only [List.map_cons] at h1
        unfold wpQuiet at h1
        rw [wanted_deAl, if_neg hw, deAl_dst] at h1
        exact h1

/-! ### the end of the head: the new variables' addresses come in -/
def gEnd (w0 : World) (z : Nat → Obj) (F : Act → World → Prop) (w : World) : List (Nat × Tmp) → List Nat → Act → Prop
  | [], _, a => F a w
  | (i, d) :: r, used, a => ∀ b, w0.heap.size ≤ b → b < w.heap.size → w.heap[b]? = some (z i) → (∀ c ∈ used, b ≠ c) → gEnd w0 z F w r (b :: used) (a.put (some d) (.pointer (some ⟨b, 0, none⟩)))

def puts (β : Nat → Nat) : List (Nat × Tmp) → Act → Act
  | [], a => a
  | (i, d) :: r, a => puts β r (a.put (some d) (.pointer (some ⟨β i, 0, none⟩)))

theorem gEnd_puts {z : Nat → Obj} {F : Act → World → Prop} {w : World} {β : Nat → Nat} : ∀ (r : List (Nat × Tmp)) (used : List Nat) (a : Act), gEnd w0 z F w r used a →
    (∀ x ∈ r, w0.heap.size ≤ β x.1 ∧ β x.1 < w.heap.size ∧ w.heap[β x.1]? = some (z x.1)) → (∀ x ∈ r, ∀ c ∈ used, β x.1 ≠ c) → r.Pairwise (fun x y => β x.1 ≠ β y.1) → F (puts β r a) w
  | [], _, a, h, _, _, _ => h
  | (i, d) :: r, used, a, h, hf, hu, hp => by
    obtain ⟨h1, h2, h3⟩ := hf (i, d) (by simp)
    rw [List.pairwise_cons] at hp
    refine gEnd_puts r (β i :: used) _ (h (β i) h1 h2 h3 (hu (i, d) (by simp))) (fun x hx => hf x (by simp [hx])) (fun x hx c hc => ?_) hp.2
    rcases List.mem_cons.1 hc with rfl | hc
    · exact (hp.1 x hx).symm
    · exact hu x (by simp [hx]) c hc

theorem puts_tmps {β : Nat → Nat} {a : Act} : ∀ (r : List (Nat × Tmp)) (a' : Act), a.tmps.size = a'.tmps.size → (∀ x ∈ r, a.tmps[x.2]? = some (.pointer (some ⟨β x.1, 0, none⟩))) →
    (∀ t, (∀ x ∈ r, x.2 ≠ t) → a'.tmps[t]? = a.tmps[t]?) → (puts β r a').tmps = a.tmps
  | [], a', _, _, h => Array.ext_getElem? fun t => h t (by simp)
  | (i, d) :: r, a', hs, hr, h => by
    refine puts_tmps r _ (by rw [put_size]; exact hs) (fun x hx => hr x (by simp [hx])) fun t ht => ?_
    have hd := hr (i, d) (by simp)
    by_cases htd : d = t
    · subst htd
      have hlt : d < a'.tmps.size := by
        rw [← hs]
        rcases Nat.lt_or_ge d a.tmps.size with h' | h'
        · exact h'
        · rw [Array.getElem?_eq_none h'] at hd; cases hd
      rw [hd]
      simp [Act.put, hlt]
    · rw [put_get htd]
      refine h t fun x hx => ?_
      rcases List.mem_cons.1 hx with rfl | hx
      · exact htd
      · exact ht x hx
theorem puts_defers {β : Nat → Nat} : ∀ (r : List (Nat × Tmp)) (a' : Act), (puts β r a').defers = a'.defers
  | [], _ => rfl
  | (i, d) :: r, a' => by rw [puts, puts_defers r, put_defers]

def als (l : List Oper) : Nat → Nat → List (Nat × Tmp)
  | _, 0 => []
  | k, n + 1 => match l[k]? with
    | some o => if isAl o then (k, o.dst.getD 0) :: als l (k + 1) n else als l (k + 1) n
    | none => als l (k + 1) n
theorem als_spec {l : List Oper} : ∀ (n k : Nat) (x : Nat × Tmp), x ∈ als l k n → k ≤ x.1 ∧ x.1 < k + n ∧ ∃ o, l[x.1]? = some o ∧ isAl o = true ∧ x.2 = o.dst.getD 0
  | 0, k, x, h => by cases h
  | n + 1, k, x, h => by
    unfold als at h
    cases hk : l[k]? with
    | none =>
      rw [hk] at h
      obtain ⟨h1, h2, h3⟩ := als_spec n (k + 1) x h
      exact ⟨by omega, by omega, h3⟩
    | some o =>
      rw [hk] at h
      dsimp only at h
      split at h
      · rcases List.mem_cons.1 h with rfl | h
        · exact ⟨Nat.le_refl _, by simp, o, hk, ‹_›, rfl⟩
        · obtain ⟨h1, h2, h3⟩ := als_spec n (k + 1) x h
          exact ⟨by omega, by omega, h3⟩
      · obtain ⟨h1, h2, h3⟩ := als_spec n (k + 1) x h
        exact ⟨by omega, by omega, h3⟩
theorem als_mem {l : List Oper} {o : Oper} : ∀ (n k i : Nat), k ≤ i → i < k + n → l[i]? = some o → isAl o = true → (i, o.dst.getD 0) ∈ als l k n
  | 0, k, i, h1, h2, _, _ => by omega
  | n + 1, k, i, h1, h2, ho, ha => by
    unfold als
    by_cases hki : k = i
    · subst hki
      rw [ho]
      simp [ha]
    · have := als_mem n (k + 1) i (by omega) (by omega) ho ha
      cases hk : l[k]? with
      | none => exact this
      | some o' =>
        dsimp only
        split
        · exact List.mem_cons_of_mem _ this
        · exact this
theorem als_pair {l : List Oper} : ∀ (n k : Nat), (als l k n).Pairwise (fun x y => x.1 ≠ y.1)
  | 0, k => List.Pairwise.nil
  | n + 1, k => by
    unfold als
    cases hk : l[k]? with
    | none => exact als_pair n (k + 1)
    | some o =>
      dsimp only
      split
      · refine List.Pairwise.cons (fun y hy => ?_) (als_pair n (k + 1))
        have := (als_spec n (k + 1) y hy).1
        dsimp only
        omega
      · exact als_pair n (k + 1)

def regB (l : List Oper) (n : Nat) : Bool :=
  decide (n ≤ l.length) && Region.noSelect l.toArray && tailB .any l.toArray n && backB .any l.toArray && alB l.toArray n && lexH .any l.toArray n n 0 (Array.replicate l.toArray.size false)

/-- **ONE WALK IN THE TEXT's ORDER SERVES EVERY ORDER.** The head: n operations. 'z i': what a new variable (operation number i) holds. -/
theorem wp_region_grow {id : Nat} {Q : Exit → Act → World → Prop} {a : Act} {w : World} {l : List Oper} (n : Nat) (z : Nat → Obj) (hQ : ∀ (c : List PanicEntry) (a : Act) (d : Option Tmp) (v : Value) (w : World), Q (.panic c) (a.put d v) w → Q (.panic c) a w) (hm : P.follows .mixedOrders = true) (hB : regB l n = true) (hsz : dstsB a.tmps.size (l.take n) = true)
    (hz : ∀ i o, i < n → l[i]? = some o → isAl o = true → ∀ (ρ : Operand → Value) (w : World), (execOp ρ o).run P w = .ok (.value (.pointer (some ⟨w.heap.size, 0, none⟩))) (w.alloc (z i)))
    (h : ∃ af, (∀ m, Ext w m → wpQuiet P (l.map deAl).toArray (Ext m) (· = af) ((l.take n).map deAl) a) ∧
      ∀ w', Ext w w' → gEnd w z (fun a' w' => wpList P l.toArray Q (l.drop n) a' w') w' (als l 0 n) [] af) : (Code.region id l.toArray true).wp P Q a w := by
  simp only [regB, Bool.and_eq_true, decide_eq_true_eq] at hB
  obtain ⟨⟨⟨⟨⟨hn, hs⟩, hT⟩, hb⟩, hA⟩, hL⟩ := hB
  obtain ⟨af, hq, hend⟩ := h
  have hlen : (l.take n).length = n := by simp; omega
  have hx := gAny_lex (P := P) (w0 := w) (Q := (· = af)) hs (l.take n) 0 (Array.replicate l.toArray.size false) a (fun j hj => by
    rw [hlen] at hj
    simp [List.getElem?_take, hj]) (by rw [hlen]; exact hL) (lexQ (l := l) (l.take n) a hsz hq)
  rw [hlen] at hx
  have hget : ∀ i o, l.toArray[i]? = some o → l[i]? = some o := fun i o h => by rw [List.getElem?_toArray] at h; exact h
  refine wp_region_any hm ?_
  have hd0 : ∀ (r : List Oper) (i : Nat) (o : Oper) (d : Tmp) (sz : Nat), dstsB sz r = true → r[i]? = some o → o.dst = some d → d < sz := by
    intro r
    induction r with
    | nil => intro i o d sz _ h; simp at h
    | cons o' r ih =>
      intro i o d sz hB hi hd
      simp only [dstsB, Bool.and_eq_true] at hB
      cases i with
      | zero =>
        simp at hi
        subst hi
        rw [hd] at hB
        simp only [Bool.and_eq_true, decide_eq_true_eq] at hB
        exact hB.1.1
      | succ i => exact ih i o d sz hB.2 (by simpa using hi) hd
  have hfin := gAny_sound (P := P) (Q := Q) (Qh := (· = af)) (z := z) (w0 := w) hQ (by simpa using hn) hs hT hb hA
    (fun i o hi ho ha ρ w => hz i o hi (hget i o ho) ha ρ w) a.tmps.size (fun i o d hi ho hd => hd0 (l.take n) i o d _ hsz (by simp [List.getElem?_take, hi, hget i o ho]) hd)
    (fun β listed a' a2 w2 hq2 J hall => by
      subst hq2
      have h1 := hend w2 J.ext
      have hal : ∀ x ∈ als l 0 n, ∃ o, l[x.1]? = some o ∧ isAl o = true ∧ o.dst = some x.2 ∧ x.1 < n := fun x hx => by
        obtain ⟨_, h2, o, h3, h4, h5⟩ := als_spec n 0 x hx
        obtain ⟨_, d, hd, _⟩ := alB_spec (i := x.1) hA (by omega) (by simpa using h3) h4
        refine ⟨o, h3, h4, ?_, by omega⟩
        rw [h5, hd]; rfl
      have h2 := gEnd_puts (β := β) (als l 0 n) [] a' h1 (fun x hx => by
        obtain ⟨o, h3, h4, h5, h6⟩ := hal x hx
        exact (J.al x.1 o x.2 h6 (by simpa using h3) h4 h5 (hall _ h6)).2) (fun x _ c hc => by cases hc) ((als_pair n 0).imp_of_mem fun {x y} hx hy hne => by
          obtain ⟨o, h3, h4, h5, h6⟩ := hal x hx
          obtain ⟨o', h3', h4', h5', h6'⟩ := hal y hy
          exact J.ne x.1 y.1 o o' h6 h6' (by simpa using h3) (by simpa using h3') h4 h4' (hall _ h6) (hall _ h6') hne)
      have h3 : puts β (als l 0 n) a' = a2 := by
        have e1 := puts_tmps (β := β) (a := a2) (als l 0 n) a' J.tmps (fun x hx => by
          obtain ⟨o, h3, h4, h5, h6⟩ := hal x hx
          exact (J.al x.1 o x.2 h6 (by simpa using h3) h4 h5 (hall _ h6)).1) (fun t ht => (J.same t fun i o hi ho ha hd => by
            have := als_mem n 0 i (Nat.zero_le _) (by omega) (hget i o ho) ha
            refine ht _ this ?_
            rw [hd]; rfl).symm)
        have e2 := puts_defers (β := β) (als l 0 n) a'
        rw [← J.defers] at e2
        cases hp : puts β (als l 0 n) a'
        cases a2
        rw [hp] at e1 e2
        simp_all
      rw [h3] at h2
      simpa using h2) n 0 (Array.replicate l.toArray.size false) a a { w with drawn := w.drawn + 1 } (fun _ => 0) rfl hx
    { ext := (Below.refl _ _).drew, closed := fun j o _ hl => (by rw [getD_replicate_false] at hl; cases hl), size := by simp, tail := fun t _ ht => by simp [show t < l.length by simpa using ht], defers := rfl, tmps := rfl, same := fun _ _ => rfl,
      al := fun i o d hi ho ha hd hl => (by rw [getD_replicate_false] at hl; cases hl), ne := fun i j oi oj hi hj _ _ _ _ hl _ _ => (by rw [getD_replicate_false] at hl; cases hl) }
  rw [show 0 + (n + (l.toArray.size - n)) = l.toArray.size by simp; omega] at hfin
  exact hfin

theorem Ext.past {w m W : World} (hm : Ext w m) (hW : Ext m W) : Ext w W := Ext.next hm hW.of

def noAlB (l : List Oper) (n : Nat) : Bool := (l.take n).all fun o => !isAl o
def oneAlB (l : List Oper) (n : Nat) (T : TypeId) : Bool := (l.take n).all fun o => match o.op with | .alloc t => t == T | _ => true

/-- .. where the head makes no new variable. -/
theorem wp_region_tail {id : Nat} {Q : Exit → Act → World → Prop} {a : Act} {w : World} {l : List Oper} (n : Nat) (hQ : ∀ (c : List PanicEntry) (a : Act) (d : Option Tmp) (v : Value) (w : World), Q (.panic c) (a.put d v) w → Q (.panic c) a w) (hm : P.follows .mixedOrders = true) (hB : regB l n = true) (hsz : dstsB a.tmps.size (l.take n) = true) (hno : noAlB l n = true)
    (h : ∃ af, (∀ m, Ext w m → wpQuiet P (l.map deAl).toArray (Ext m) (· = af) ((l.take n).map deAl) a) ∧
      ∀ w', Ext w w' → gEnd w (fun _ => .cells #[] 0) (fun a' w' => wpList P l.toArray Q (l.drop n) a' w') w' (als l 0 n) [] af) : (Code.region id l.toArray true).wp P Q a w :=
  wp_region_grow n (fun _ => .cells #[] 0) hQ hm hB hsz (fun i o hi ho ha => by
    simp only [noAlB, List.all_eq_true] at hno
    have := hno o (List.mem_of_getElem? (i := i) (by simp [List.getElem?_take, hi, ho]))
    rw [ha] at this
    cases this) h

/-- .. where all of its new variables are of one type. -/
theorem wp_region_new {id : Nat} {Q : Exit → Act → World → Prop} {a : Act} {w : World} {l : List Oper} (n : Nat) (T : TypeId) (z : Obj) (hQ : ∀ (c : List PanicEntry) (a : Act) (d : Option Tmp) (v : Value) (w : World), Q (.panic c) (a.put d v) w → Q (.panic c) a w) (hm : P.follows .mixedOrders = true) (hB : regB l n = true) (hsz : dstsB a.tmps.size (l.take n) = true) (hone : oneAlB l n T = true)
    (hz : ∀ (o : Oper) (ρ : Operand → Value) (w : World), o.op = .alloc T → (execOp ρ o).run P w = .ok (.value (.pointer (some ⟨w.heap.size, 0, none⟩))) (w.alloc z))
    (h : ∃ af, (∀ m, Ext w m → wpQuiet P (l.map deAl).toArray (Ext m) (· = af) ((l.take n).map deAl) a) ∧
      ∀ w', Ext w w' → gEnd w (fun _ => z) (fun a' w' => wpList P l.toArray Q (l.drop n) a' w') w' (als l 0 n) [] af) : (Code.region id l.toArray true).wp P Q a w :=
  wp_region_grow n (fun _ => z) hQ hm hB hsz (fun i o hi ho ha ρ w => by
    simp only [oneAlB, List.all_eq_true] at hone
    have := hone o (List.mem_of_getElem? (i := i) (by simp [List.getElem?_take, hi, ho]))
    refine hz o ρ w ?_
    obtain ⟨dst, op, ty, pos, after, guard⟩ := o
    cases op <;> simp [isAl] at ha
    simp at this
    simp [this]) h

/-- The cells of a block that is known whole. -/
theorem cells_of_block {w : World} {b : Nat} {c : Array Value} {t : TypeId} (h : w.heap[b]? = some (.cells c t)) : (∀ o, w.cell? ⟨b, o, none⟩ = c[o]?) ∧ (∀ o, w.frozen? ⟨b, o, none⟩ = false) :=
  ⟨fun o => by simp [World.cell?, h], fun o => by simp [World.frozen?, h]⟩
theorem else_of_block {w : World} {b : Nat} {c : Array Value} {t : TypeId} (h : w.heap[b]? = some (.cells c t)) : (∀ o, cellElse w b o = c[o]?) ∧ (∀ o, frozenElse w b o = false) :=
  cells_of_block h

end
end Go.Proofs.YteepjngkbjbheaaDoor
