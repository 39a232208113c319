/-
  Regions that draw their order: one operation more. No program in sight.
-/
import Derived.Test.YtpilmdfnbfcmkaaGreatEvDraw
namespace Go.Proofs.YtpilmdfnbfcmkaaGreat.Ev
set_option linter.unusedVariables false
set_option linter.unusedSimpArgs false

section
variable {P : Program} {N : Nat} {all : List Oper} {B : Nat → Nat → Bool} {listed : Array Bool}
theorem EXF.refl' {f : Nat → Option Bk} {lo hi : Nat} {ρ : Ren} {w : World} : EXF f lo hi ρ w f ρ w := ⟨fun _ _ h => h, fun _ _ h => .inl h, Nat.le_refl _, fun _ _ _ => rfl, fun _ h => .inl h, fun _ bk h => .inl ⟨bk, h⟩, .refl w⟩
theorem EXF.subR {f f' f'' : Nat → Option Bk} {lo hi : Nat} {ρ ρ' : Ren} {w w' : World} (h : EXF f lo hi ρ w f' ρ' w') (hs : ∀ L b, f'' L = some b → f' L = some b) : EXF f lo hi ρ w f'' ρ' w' :=
  ⟨h.sub, h.dom, h.size, h.frame, fun b ⟨L, bk, r, h1, h2, h3, h4⟩ => h.img b ⟨L, bk, r, hs _ _ h1, h2, h3, h4⟩, fun L bk hl => h.lab L bk (hs _ _ hl), h.same⟩
theorem EXF.trans' {f f1 f2 : Nat → Option Bk} {lo lo1 hi : Nat} {ρ ρ1 ρ2 : Ren} {w w1 w2 : World} (h1 : EXF f lo hi ρ w f1 ρ1 w1) (h2 : EXF f1 lo1 hi ρ1 w1 f2 ρ2 w2) (n1 : lo ≤ lo1) : EXF f lo hi ρ w f2 ρ2 w2 := by
  refine ⟨fun L r h => h2.sub _ _ (h1.sub _ _ h), fun L r h => ?_, Nat.le_trans h1.size h2.size, fun b hb hi => ?_, fun b hi => ?_, fun L bk hl => ?_, h1.same.trans h2.same⟩
  · rcases h2.dom L r h with h | h
    · exact h1.dom L r h
    · exact .inr ⟨Nat.le_trans n1 h.1, h.2⟩
  · rw [h2.frame b (Nat.lt_of_lt_of_le hb h1.size) (fun hh => ?_), h1.frame b hb hi]
    rcases h1.img b hh with h | h
    · exact hi h
    · omega
  · rcases h2.img b hi with h | h
    · exact h1.img b h
    · exact .inr (Nat.le_trans h1.size h)
  · rcases h2.lab L bk hl with ⟨bk0, h⟩ | h
    · exact h1.lab L bk0 h
    · exact .inr ⟨Nat.le_trans n1 h.1, h.2⟩
theorem Plan.mono {rs : List Rec} {e e' : L2} {m m' : Mem} (h : Plan P N all B rs e m e' m') : rs.Pairwise (fun r q => r.m'.next ≤ q.m.next) := by
  induction rs generalizing e m with
  | nil => exact .nil
  | cons r rs ih => exact List.pairwise_cons.2 ⟨fun q hq => (h.tail.bnd.2 q hq).1, ih h.tail⟩
/-- two records of one plan -/
theorem Plan.two {rs : List Rec} {e e' : L2} {m m' : Mem} (h : Plan P N all B rs e m e' m') {r q : Rec} (hr : r ∈ rs) (hq : q ∈ rs) :
    r = q ∨ (r.i ≠ q.i ∧ (∀ t, q.o.dst = some t → r.o.dst ≠ some t) ∧ (r.m.next < r.m'.next → q.m.next < q.m'.next → r.m.next ≠ q.m.next)) := by
  induction rs generalizing e m with
  | nil => cases hr
  | cons x rs ih =>
    obtain ⟨_, _, hok, hord⟩ := h.head
    have hmono := (List.pairwise_cons.1 h.mono).1
    cases hr with
    | head =>
      cases hq with
      | head => exact .inl rfl
      | tail _ hq =>
        have := hmono q hq
        exact .inr ⟨(hord q hq).ne, fun t ht hd => (hord q hq).dst t hd ht, fun _ _ => by omega⟩
    | tail _ hr =>
      cases hq with
      | head =>
        have := hmono r hr
        exact .inr ⟨Ne.symm (hord r hr).ne, fun t ht => (hord r hr).dst t ht, fun _ _ => by omega⟩
      | tail _ hq => exact ih h.tail hr hq
theorem set_same {i : Nat} (h : i < listed.size) : (listed.setIfInBounds i true).getD i false = true := by simp [h]
theorem set_true {i j : Nat} (h : (listed.setIfInBounds i true).getD j false = true) : j = i ∨ listed.getD j false = true := by
  by_cases hij : i = j
  · exact .inl hij.symm
  · rw [getD_set_ne false hij] at h; exact .inr h
open Classical in
/-- the early blocks behind one operation more -/
theorem early_set {rs : List Rec} {q : Rec} {L : Nat} (hlt : q.i < listed.size) (hl : listed.getD q.i false = false)
    (two : ∀ r ∈ rs, r = q ∨ (r.i ≠ q.i ∧ (r.m.next < r.m'.next → q.m.next < q.m'.next → r.m.next ≠ q.m.next))) :
    early (listed.setIfInBounds q.i true) rs L = if q ∈ rs ∧ L = q.m.next ∧ L < q.m'.next then q.m'.heap.find L else early listed rs L := by
  induction rs with
  | nil => simp [early]
  | cons r rs ih =>
    have ih' := ih fun x hx => two x (.tail _ hx)
    conv => lhs; unfold early
    conv => rhs; rhs; unfold early
    rcases two r (.head _) with rfl | ⟨h1, h2⟩
    · by_cases hc : L = r.m.next ∧ L < r.m'.next
      · rw [if_pos ⟨set_same hlt, hc.1.symm, hc.2⟩, if_pos ⟨List.mem_cons_self, hc⟩]
      · rw [if_neg (fun h => hc ⟨h.2.1.symm, h.2.2⟩), if_neg (fun h => hc h.2), if_neg (fun h => by rw [hl] at h; cases h.1), ih', if_neg (fun h => hc h.2)]
    · rw [getD_set_ne false (Ne.symm h1)]
      by_cases hc : listed.getD r.i false = true ∧ r.m.next = L ∧ L < r.m'.next
      · rw [if_pos hc, if_neg (fun h => ?_), if_pos hc]
        exact h2 (by rw [hc.2.1]; exact hc.2.2) (by rw [← h.2.1]; exact h.2.2) (by rw [hc.2.1]; exact h.2.1)
      · rw [if_neg hc, if_neg hc, ih']
        have hne : r ≠ q := fun e => h1 (by rw [e])
        have hmem : q ∈ r :: rs ↔ q ∈ rs := by simp [Ne.symm hne]
        simp only [hmem]
open Classical in
theorem seen_set {rs : List Rec} {q : Rec} {e : L2} {t : Nat} (hlt : q.i < listed.size) (hl : listed.getD q.i false = false)
    (two : ∀ r ∈ rs, r = q ∨ (r.i ≠ q.i ∧ ∀ t, q.o.dst = some t → r.o.dst ≠ some t)) :
    seenE (listed.setIfInBounds q.i true) rs e t = if q ∈ rs ∧ q.o.dst = some t then some q.v else seenE listed rs e t := by
  induction rs with
  | nil => simp [seenE]
  | cons r rs ih =>
    have ih' := ih fun x hx => two x (.tail _ hx)
    conv => lhs; unfold seenE
    conv => rhs; rhs; unfold seenE
    rcases two r (.head _) with rfl | ⟨h1, h2⟩
    · by_cases hc : r.o.dst = some t
      · rw [if_pos ⟨set_same hlt, hc⟩, if_pos ⟨List.mem_cons_self, hc⟩]
      · rw [if_neg (fun h => hc h.2), if_neg (fun h => hc h.2), if_neg (fun h => hc h.2), ih', if_neg (fun h => hc h.2)]
    · rw [getD_set_ne false (Ne.symm h1)]
      by_cases hc : listed.getD r.i false = true ∧ r.o.dst = some t
      · rw [if_pos hc, if_neg (fun h => h2 t h.2 hc.2), if_pos hc]
      · rw [if_neg hc, if_neg hc, ih']
        have hne : r ≠ q := fun e => h1 (by rw [e])
        have hmem : q ∈ r :: rs ↔ q ∈ rs := by simp [Ne.symm hne]
        simp only [hmem]
theorem eval_of {ρ : Ren} {env : L2} {ac : Act} {o : Oper} (h : ∀ t ∈ tmpsOf all o, ∀ v, findT env t = some v → ∃ v', ac.tmps[t]? = some v' ∧ VR ρ v v') : Sees ρ env ac o.op := by
  intro x v hx hl
  cases x with
  | tmp t =>
    have ht : t ∈ tmpsOf all o := by
      unfold tmpsOf
      exact List.mem_append_left _ (List.mem_filterMap.2 ⟨.tmp t, by simpa using hx, rfl⟩)
    obtain ⟨v', h1, h2⟩ := h t ht v hl
    have : ac.eval (.tmp t) = v' := by simp [Act.eval, h1]
    rw [this]; exact h2
  | const c =>
    have hx' : (if groundB c = true then some c else none) = some v := hl
    split at hx'
    · rename_i hc
      cases hx'
      exact VR.ground hc
    · cases hx'
  | global g => cases hl
  | func f => cases hl; exact .func _ .nil .nil
/-- frames: what was put -/
theorem put_val {ρ : Ren} {ac : Act} {d : Option Tmp} {v v' : Value} {f g : Nat → Option Value} (hlow : ∀ t, d = some t → t < ac.tmps.size) (hv : VR ρ v v')
    (h : ∀ t v, f t = some v → ∃ v', ac.tmps[t]? = some v' ∧ VR ρ v v') (hg : ∀ t, g t = if d = some t then some v else f t) : ∀ t u, g t = some u → ∃ u', (ac.put d v').tmps[t]? = some u' ∧ VR ρ u u' := by
  intro t u hu
  rw [hg] at hu
  split at hu
  · rename_i hd
    cases hu
    subst hd
    refine ⟨v', ?_, hv⟩
    simp [Act.put, hlow t rfl]
  · rename_i hd
    obtain ⟨u', h1, h2⟩ := h t u hu
    refine ⟨u', ?_, h2⟩
    cases d with
    | none => exact h1
    | some d =>
      have : d ≠ t := fun e => hd (by rw [e])
      simp [Act.put, Array.getElem?_setIfInBounds_ne this, h1]
/-- what is known of waiting -/
structure Waits (all : List Oper) (B : Nat → Nat → Bool) : Prop where
  dom : ∀ i j, B j i = true → i < all.length
  irr : ∀ i, B i i = false
  after : ∀ j o e, all[j]? = some o → e ∈ o.after → Region.binds .any e = true → B j e.on = true
  trans : ∀ j o i, all[j]? = some o → B j i = true → ∃ e ∈ o.after, Region.binds .any e = true ∧ (e.on = i ∨ B e.on i = true)
/-- behind one operation that was ready, all but the memory and the frame -/
theorem down_set {j : Nat} (hlt : j < listed.size) (down : ∀ i j, B j i = true → listed.getD j false = true → listed.getD i false = true) (hready : ∀ i, B j i = true → listed.getD i false = true) :
    ∀ i k, B k i = true → (listed.setIfInBounds j true).getD k false = true → (listed.setIfInBounds j true).getD i false = true := by
  intro i k hb hk
  rcases set_true hk with rfl | hk
  · exact getD_set_true (hready i hb)
  · exact getD_set_true (down i k hb hk)
/-- an operation that is no act may come up early -/
theorem Inv.light {rs : List Rec} {e e' : L2} {m m' : Mem} {ρ : Ren} {ac : Act} {w : World} {q : Rec} {K : Act → World → Prop} {Q : Exit → Act → World → Prop}
    (hI : Inv B all N rs e m m'.next listed ρ ac w) (h : Plan P N all B rs e m e' m') (hq : q ∈ rs) (hc : clsOf q.o.op = 0 ∨ clsOf q.o.op = 1)
    (hl : listed.getD q.i false = false) (hready : ∀ i, B q.i i = true → listed.getD i false = true)
    (hK : ∀ ρ' ac' w', Inv B all N rs e m m'.next (listed.setIfInBounds q.i true) ρ' ac' w' →
      EXF (withE listed rs m.heap.find) m.next m'.next ρ w (withE (listed.setIfInBounds q.i true) rs m.heap.find) ρ' w' → K ac' w') : wpOp P all.toArray Q q.i K ac w := by
  have hok := h.ok q hq
  have hbq := h.bnd.2 q hq
  have hlt : q.i < listed.size := by rw [hI.sz]; exact (List.getElem?_eq_some_iff.1 hok.at_).1
  have two := fun r (hr : r ∈ rs) => h.two hr hq
  obtain ⟨pre, post, hrs⟩ := List.append_of_mem hq
  have sees : ∀ t ∈ tmpsOf all q.o, ∀ v, findT q.env t = some v → ∃ v', ac.tmps[t]? = some v' ∧ VR ρ v v' := fun t ht v hv => hI.val t v (by rw [← seen_at h hrs hready hl hI.down t ht]; exact hv)
  have hS := eval_of sees
  have hwant := hok.want ρ ac sees
  have hearly := fun L => early_set (L := L) hlt hl fun r hr => (two r hr).imp id fun g => ⟨g.1, g.2.2⟩
  have hseen := fun t => seen_set (e := e) (t := t) hlt hl fun r hr => (two r hr).imp id fun g => ⟨g.1, g.2.1⟩
  have hseen' : ∀ t, seenE (listed.setIfInBounds q.i true) rs e t = if q.o.dst = some t then some q.v else seenE listed rs e t := fun t => by
    rw [hseen]
    by_cases hd : q.o.dst = some t
    · rw [if_pos ⟨hq, hd⟩, if_pos hd]
    · rw [if_neg (fun g => hd g.2), if_neg hd]
  have hlow : ∀ t, q.o.dst = some t → t < ac.tmps.size := fun t ht => Nat.lt_of_lt_of_le (hok.low t ht) hI.size
  have mk : ∀ (ρ' : Ren) (v' : Value) (w' : World), VR ρ' q.v v' → (∀ L r, ρ L = some r → ρ' L = some r) → RelF (withE (listed.setIfInBounds q.i true) rs m.heap.find) ρ' w' →
      (∀ L, m.next ≤ L → L < m'.next → ρ' L ≠ none → ρ L ≠ none ∨ (L = q.m.next ∧ L < q.m'.next)) → Inv B all N rs e m m'.next (listed.setIfInBounds q.i true) ρ' (ac.put q.o.dst v') w' := by
    intro ρ' v' w' hv hsub hR hlab
    refine ⟨hR, hI.free, fun L h1 h2 h3 => ?_, by rw [put_size]; exact hI.size, by rw [put_dfr]; exact hI.dfr, ?_, fun i hi hr => getD_set_true (hI.out i hi hr), fun r hr hlr => ?_, down_set hlt hI.down hready, by simp [hI.sz]⟩
    · rcases hlab L h1 h2 h3 with h4 | h4
      · obtain ⟨r, g1, g2, g3⟩ := hI.lab L h1 h2 h4
        exact ⟨r, g1, getD_set_true g2, g3⟩
      · exact ⟨q, hq, set_same hlt, h4.1.symm, h4.2⟩
    · exact put_val hlow hv (fun t v hv => (hI.val t v hv).imp fun v' hh => ⟨hh.1, hh.2.mono hsub⟩) hseen'
    · rcases set_true hlr with hh | hh
      · rcases two r hr with rfl | g
        · rcases hc with hc | hc <;> rw [hc] <;> decide
        · exact absurd hh g.1
      · exact hI.act r hr hh
  have calm : q.m' = q.m → ∀ v', VR ρ q.v v' → K (ac.put q.o.dst v') w := by
    intro hm v' hv
    have he : withE (listed.setIfInBounds q.i true) rs m.heap.find = withE listed rs m.heap.find := by
      funext L
      unfold withE
      rw [hearly, if_neg (fun g => by have := g.2.1; have := g.2.2; rw [hm] at this; omega)]
    refine hK ρ _ w (mk ρ v' w hv (fun _ _ h => h) (by rw [he]; exact hI.rel) (fun L _ _ h => .inl h)) ?_
    rw [he]
    exact EXF.refl'
  unfold wpOp
  have hat : all.toArray[q.i]? = some q.o := by simpa using hok.at_
  rw [hat]
  simp only [hwant]
  cases hw : q.w with
  | false =>
    simp only [Bool.false_eq_true, if_false]
    obtain ⟨h1, h2⟩ := hok.no hw
    exact calm h2 undef (by rw [h1]; exact undef_ok ρ)
  | true =>
    simp only [if_true]
    refine .inl ?_
    have hdone := hok.done hw
    rcases hc with hc0 | hc1
    · rcases hdone.light hc0 with ⟨h1, h2⟩ | ⟨b, h1, h2, h3⟩
      · obtain ⟨v', g1, g2⟩ := h2 ρ w q.o ac rfl hS
        exact wp_value g2 (calm h1 v' g1)
      · have hfree : ρ q.m.next = none := by
          by_cases hn : ρ q.m.next = none
          · exact hn
          · exfalso
            obtain ⟨r, g1, g2, g3, g4⟩ := hI.lab q.m.next hbq.1 (by omega) hn
            rcases two r g1 with rfl | g
            · rw [hl] at g2; cases g2
            · exact g.2.2 (by omega) (by omega) g3
        obtain ⟨v', w', r, g1, g2, g3, g4⟩ := h1 ρ w q.o ac rfl hS hfree
        refine wp_value g4 ?_
        have hX : ∀ L b', withE (listed.setIfInBounds q.i true) rs m.heap.find L = some b' → (L = q.m.next ∧ b' = b) ∨ (L ≠ q.m.next ∧ withE listed rs m.heap.find L = some b') := by
          intro L b' hb
          unfold withE at hb ⊢
          rw [hearly] at hb
          by_cases hL : L = q.m.next
          · rw [if_pos ⟨hq, hL, by omega⟩, h3, if_pos hL] at hb
            cases hb
            exact .inl ⟨hL, rfl⟩
          · rw [if_neg (fun g => hL g.2.1)] at hb
            exact .inr ⟨hL, hb⟩
        have key : RelF (withE (listed.setIfInBounds q.i true) rs m.heap.find) (ρ.put q.m.next r) w' ∧ EXF (withE listed rs m.heap.find) m.next m'.next ρ w (withE (listed.setIfInBounds q.i true) rs m.heap.find) (ρ.put q.m.next r) w' := by
          refine stepRF hI.rel q.m.next b r (Ren.put_sub hfree) (Ren.put_dom hbq.1 (by omega)) hX (.inr ⟨hbq.1, by omega⟩) Ren.put_same g2 ?_ ?_ ?_ (by rcases g3 with ⟨obj, ext, rfl, rfl⟩ | ⟨rfl, _⟩ <;> exact ⟨rfl, rfl, rfl⟩)
          · rcases g3 with ⟨obj, ext, rfl, rfl⟩ | ⟨rfl, _⟩
            · simp
            · exact Nat.le_refl _
          · intro x hx _
            rcases g3 with ⟨obj, ext, rfl, rfl⟩ | ⟨rfl, _⟩
            · simp only [Array.getElem?_push]
              rw [if_neg (by omega)]
            · rfl
          · intro hn
            rcases g3 with ⟨obj, ext, rfl, rfl⟩ | ⟨rfl, g3⟩
            · exact .inl (Nat.le_refl _)
            · exact absurd hn g3
        refine hK _ _ _ (mk _ v' w' g1 (Ren.put_sub hfree) key.1 fun L _ _ hn => ?_) key.2
        by_cases hL : L = q.m.next
        · exact .inr ⟨hL, by omega⟩
        · left
          unfold Ren.put at hn
          rw [if_neg hL] at hn
          exact hn
    · obtain ⟨hm, hrd⟩ := hdone.reads hc1
      have see : ∀ (pre post : List Rec) (z : Rec), rs = pre ++ z :: post → (∀ r ∈ pre, clsOf r.o.op = 0 ∨ clsOf r.o.op = 1) → SeeF z.m.heap.find ρ w := by
        intro pre post z hz hpre L b r hb hr
        exact hI.rel.see L b r (see_at h hz hpre hI.free hI.lab L b hb (by rw [hr]; simp)) hr
      have hread : ∃ z : Mem, ReadS P q.o.op q.env z q.v ∧ SeeF z.heap.find ρ w := by
        by_cases hp : ∀ r ∈ pre, clsOf r.o.op = 0 ∨ clsOf r.o.op = 1
        · exact ⟨q.m, hrd, see pre post q hrs hp⟩
        · have : ∃ p1 z p2, pre = p1 ++ z :: p2 ∧ clsOf z.o.op = 3 ∧ ∀ r ∈ p1, clsOf r.o.op = 0 ∨ clsOf r.o.op = 1 := by
            clear see mk calm hearly hseen hseen' sees
            have hcls : ∀ r ∈ pre, clsOf r.o.op = 0 ∨ clsOf r.o.op = 1 ∨ clsOf r.o.op = 3 := fun r hr => h.cls r (by rw [hrs]; exact List.mem_append_left _ hr)
            clear hrs
            induction pre with
            | nil => exact (hp fun r hr => by cases hr).elim
            | cons x pre ih =>
              rcases hcls x (.head _) with hx | hx | hx
              · obtain ⟨p1, z, p2, e1, e2, e3⟩ := ih (fun g => hp fun r hr => by cases hr with | head => exact .inl hx | tail _ hr => exact g r hr) (fun r hr => hcls r (.tail _ hr))
                exact ⟨x :: p1, z, p2, by rw [e1]; rfl, e2, fun r hr => by cases hr with | head => exact .inl hx | tail _ hr => exact e3 r hr⟩
              · obtain ⟨p1, z, p2, e1, e2, e3⟩ := ih (fun g => hp fun r hr => by cases hr with | head => exact .inr hx | tail _ hr => exact g r hr) (fun r hr => hcls r (.tail _ hr))
                exact ⟨x :: p1, z, p2, by rw [e1]; rfl, e2, fun r hr => by cases hr with | head => exact .inr hx | tail _ hr => exact e3 r hr⟩
              · exact ⟨[], x, pre, rfl, hx, fun r hr => by cases hr⟩
          obtain ⟨p1, z, p2, e1, e2, e3⟩ := this
          have hz : rs = p1 ++ z :: (p2 ++ q :: post) := by rw [hrs, e1]; simp
          have hord : Ord P all B z q := by
            have := h.pw
            rw [hz] at this
            have := (List.pairwise_append.1 this).2.1
            exact (List.pairwise_cons.1 this).1 q (by simp)
          refine ⟨z.m, hord.rd e2 hc1 ?_ hw, see p1 _ z hz e3⟩
          cases hb : B q.i z.i with
          | false => rfl
          | true => exact absurd e2 (hI.act z (by rw [hz]; simp) (hready _ hb))
      obtain ⟨z, g1, g2⟩ := hread
      obtain ⟨v', g3, g4⟩ := g1 ρ w q.o ac rfl g2 hS
      exact wp_value g4 (calm hm v' g3)
end
end Go.Proofs.YtpilmdfnbfcmkaaGreat.Ev
