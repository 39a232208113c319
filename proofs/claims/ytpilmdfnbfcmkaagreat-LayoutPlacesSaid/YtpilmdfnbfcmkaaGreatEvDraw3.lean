/-
  Regions that draw their order: acts, and all orders. No program in sight.
-/
import Derived.Test.YtpilmdfnbfcmkaaGreatEvDraw2
namespace Go.Proofs.YtpilmdfnbfcmkaaGreat.Ev
set_option linter.unusedVariables false
set_option linter.unusedSimpArgs false

section
variable {P : Program} {N : Nat} {all : List Oper} {B : Nat → Nat → Bool} {listed : Array Bool}
/-- what stands at the front is done already -/
theorem Inv.front {rs : List Rec} {e e' : L2} {m m' : Mem} {ρ : Ren} {ac : Act} {w : World} {r : Rec}
    (hI : Inv B all N (r :: rs) e m m'.next listed ρ ac w) (h : Plan P N all B (r :: rs) e m e' m') (hl : listed.getD r.i false = true) :
    Inv B all N rs r.env' r.m' m'.next listed ρ ac w ∧ (∀ L b, withE listed rs r.m'.heap.find L = some b → withE listed (r :: rs) m.heap.find L = some b) := by
  obtain ⟨he, hm, hok, hord⟩ := h.head
  have hnx := hok.nx
  have hmn : r.m.next = m.next := by rw [hm]
  have hc : clsOf r.o.op = 0 ∨ clsOf r.o.op = 1 := by
    rcases h.cls r (.head _) with g | g | g
    · exact .inl g
    · exact .inr g
    · exact absurd g (hI.act r (.head _) hl)
  have sub : ∀ L b, withE listed rs r.m'.heap.find L = some b → withE listed (r :: rs) m.heap.find L = some b := fun L b hb => withE_front h hc (fun _ _ => hl) hb
  refine ⟨⟨hI.rel.sub sub, fun L h1 h2 => ?_, fun L h1 h2 h3 => ?_, hI.size, hI.dfr, fun t v hv => ?_, fun i hi hr => ?_, fun q hq => hI.act q (.tail _ hq), hI.down, hI.sz⟩, sub⟩
  · rcases hok.mem hc with g | ⟨g1, _, b2, _, g2⟩
    · rw [g, hm]; rw [g, hm] at h1; exact hI.free L h1 h2
    · rw [g2, if_neg (by omega), hm]; exact hI.free L (by omega) h2
  · obtain ⟨x, g1, g2, g3, g4⟩ := hI.lab L (by omega) h2 h3
    cases g1 with
    | head => omega
    | tail _ g1 => exact ⟨x, g1, g2, g3, g4⟩
  · exact hI.val t v (by rw [← seen_front h fun _ => hl]; exact hv)
  · by_cases hi' : r.i = i
    · rw [← hi']; exact hl
    · exact hI.out i hi fun q hq => by cases hq with | head => exact hi' | tail _ hq => exact hr q hq
/-- an act comes up when all that was reckoned before it is done -/
theorem Inv.acts {rs : List Rec} {e e' : L2} {m m' : Mem} {ρ : Ren} {ac : Act} {w : World} {q : Rec} {K : Act → World → Prop} {Q : Exit → Act → World → Prop}
    (hI : Inv B all N (q :: rs) e m m'.next listed ρ ac w) (h : Plan P N all B (q :: rs) e m e' m')
    (hl : listed.getD q.i false = false) (hready : ∀ i, B q.i i = true → listed.getD i false = true)
    (hK : ∀ ρ' ac' w', Inv B all N rs q.env' q.m' m'.next (listed.setIfInBounds q.i true) ρ' ac' w' →
      EXF (withE listed (q :: rs) m.heap.find) m.next m'.next ρ w (withE (listed.setIfInBounds q.i true) rs q.m'.heap.find) ρ' w' → K ac' w') : wpOp P all.toArray Q q.i K ac w := by
  obtain ⟨he, hm, hok, hord⟩ := h.head
  have hnx := hok.nx
  have hmn : q.m.next = m.next := by rw [hm]
  have hbnd := h.tail.bnd
  have hlt : q.i < listed.size := by rw [hI.sz]; exact (List.getElem?_eq_some_iff.1 hok.at_).1
  have two := fun r (hr : r ∈ q :: rs) => h.two hr (List.mem_cons_self (a := q) (l := rs))
  have sees : ∀ t ∈ tmpsOf all q.o, ∀ v, findT q.env t = some v → ∃ v', ac.tmps[t]? = some v' ∧ VR ρ v v' := fun t ht v hv => hI.val t v (by rw [← seen_at (pre := []) h rfl hready hl hI.down t ht]; exact hv)
  have hS := eval_of sees
  have hwant := hok.want ρ ac sees
  have hseen' : ∀ t, seenE (listed.setIfInBounds q.i true) (q :: rs) e t = if q.o.dst = some t then some q.v else seenE listed (q :: rs) e t := fun t => by
    rw [seen_set (e := e) (t := t) hlt hl fun r hr => (two r hr).imp id fun g => ⟨g.1, g.2.1⟩]
    by_cases hd : q.o.dst = some t
    · rw [if_pos ⟨List.mem_cons_self, hd⟩, if_pos hd]
    · rw [if_neg (fun g => hd g.2), if_neg hd]
  have hlow : ∀ t, q.o.dst = some t → t < ac.tmps.size := fun t ht => Nat.lt_of_lt_of_le (hok.low t ht) hI.size
  have e1 : ∀ L, early (listed.setIfInBounds q.i true) rs L = early listed rs L := by
    have hne : ∀ r ∈ rs, q.i ≠ r.i := fun r hr => (hord r hr).ne
    clear hI hK two sees hS hwant hseen' hlow h hbnd hord
    intro L
    induction rs with
    | nil => rfl
    | cons r rs ih =>
      unfold early
      rw [getD_set_ne false (hne r (.head _)), ih fun x hx => hne x (.tail _ hx)]
  have e2 : ∀ L, early listed (q :: rs) L = early listed rs L := fun L => by
    conv => lhs; unfold early
    rw [if_neg (fun g => by rw [hl] at g; cases g.1)]
  have inM : ∀ L b, q.m.heap.find L = some b → withE listed (q :: rs) m.heap.find L = some b := by
    intro L b hb
    rw [hm] at hb
    have hn : early listed (q :: rs) L = none := by
      cases hx : early listed (q :: rs) L with
      | none => rfl
      | some b' =>
        obtain ⟨r, h1, h2, h3, h4, _⟩ := early_some hx
        have := h.bnd.2 r h1
        rw [hI.free L (by omega) (by omega)] at hb
        cases hb
    rw [withE_eq hn]
    exact hb
  have mk : ∀ (ρ' : Ren) (v' : Value) (w' : World), VR ρ' q.v v' → RelF q.m'.heap.find ρ' w' → EX q.m ρ w q.m' ρ' w' →
      Inv B all N rs q.env' q.m' m'.next (listed.setIfInBounds q.i true) ρ' (ac.put q.o.dst v') w' ∧
      EXF (withE listed (q :: rs) m.heap.find) m.next m'.next ρ w (withE (listed.setIfInBounds q.i true) rs q.m'.heap.find) ρ' w' := by
    intro ρ' v' w' hv hR hX
    -- early blocks stay
    have er : ∀ L b, early listed rs L = some b → ∃ r, ρ L = some r ∧ BR ρ w r b ∧ q.m.heap.find L = none ∧ withE listed (q :: rs) m.heap.find L = some b := by
      intro L b hb
      have hw : withE listed (q :: rs) m.heap.find L = some b := withE_some (by rw [e2]; exact hb)
      obtain ⟨r, g1, g2⟩ := hI.rel.blk L b hw
      refine ⟨r, g1, g2, ?_, hw⟩
      obtain ⟨x, k1, k2, k3, k4, _⟩ := early_some hb
      have := hbnd.2 x k1
      rw [hm]
      exact hI.free L (by omega) (by omega)
    have far : ∀ L b r, early listed rs L = some b → notTail b → ρ L = some r → r.blk < w.heap.size ∧ ¬ InImg q.m.heap.find ρ r.blk := by
      intro L b r hb hn hr
      obtain ⟨_, _, _, g3, g4⟩ := er L b hb
      refine ⟨InImg.lt hI.rel ⟨L, b, r, g4, hn, hr, rfl⟩, ?_⟩
      rintro ⟨L2, b2, r2, k1, k2, k3, k4⟩
      have := hI.rel.inj L2 L b2 b r2 r (inM _ _ k1) g4 k2 hn k3 hr k4
      subst this
      rw [g3] at k1; cases k1
    have cases_ : ∀ L b, withE (listed.setIfInBounds q.i true) rs q.m'.heap.find L = some b → early listed rs L = some b ∨ q.m'.heap.find L = some b := by
      intro L b hb
      unfold withE at hb
      rw [e1] at hb
      cases hx : early listed rs L with
      | some b' => rw [hx] at hb; cases hb; exact .inl rfl
      | none => rw [hx] at hb; exact .inr hb
    have imgM : ∀ b, InImg q.m.heap.find ρ b → InImg (withE listed (q :: rs) m.heap.find) ρ b := fun b ⟨L, bk, r, g1, g2, g3, g4⟩ => ⟨L, bk, r, inM _ _ g1, g2, g3, g4⟩
    have hRel : RelF (withE (listed.setIfInBounds q.i true) rs q.m'.heap.find) ρ' w' := by
      refine ⟨fun L b hb => ?_, fun L L' b b' r r' hb hb' hn hn' hr hr' hbb => ?_⟩
      · rcases cases_ L b hb with g | g
        · obtain ⟨r, g1, g2, _⟩ := er L b g
          exact ⟨r, hX.sub _ _ g1, g2.keep hX.sub fun hn => hX.frame _ (far L b r g hn g1).1 (far L b r g hn g1).2⟩
        · exact hR.blk L b g
      · have mixed : ∀ L L' b b' r r', early listed rs L = some b → q.m'.heap.find L' = some b' → notTail b → notTail b' → ρ' L = some r → ρ' L' = some r' → r.blk = r'.blk → False := by
          intro L L' b b' r r' g g' hn hn' hr hr' hbb
          obtain ⟨r0, k1, k2, _⟩ := er L b g
          have := hX.sub _ _ k1
          rw [hr] at this; cases this
          obtain ⟨k3, k4⟩ := far L b r g hn k1
          rcases hX.img r.blk ⟨L', b', r', g', hn', hr', hbb.symm⟩ with k | k
          · exact k4 k
          · omega
        rcases cases_ L b hb with g | g
        · rcases cases_ L' b' hb' with g' | g'
          · obtain ⟨r0, k1, _, _, k2⟩ := er L b g
            obtain ⟨r0', k1', _, _, k2'⟩ := er L' b' g'
            have t1 := hX.sub _ _ k1
            rw [hr] at t1; cases t1
            have t2 := hX.sub _ _ k1'
            rw [hr'] at t2; cases t2
            exact hI.rel.inj L L' b b' r r' k2 k2' hn hn' k1 k1' hbb
          · exact (mixed L L' b b' r r' g g' hn hn' hr hr' hbb).elim
        · rcases cases_ L' b' hb' with g' | g'
          · exact (mixed L' L b' b r' r g' g hn' hn hr' hr hbb.symm).elim
          · exact hR.inj L L' b b' r r' g g' hn hn' hr hr' hbb
    refine ⟨⟨hRel, fun L h1 h2 => ?_, fun L h1 h2 h3 => ?_, by rw [put_size]; exact hI.size, by rw [put_dfr]; exact hI.dfr, ?_, fun i hi hr => ?_, fun r hr hlr => ?_, down_set hlt hI.down hready, by simp [hI.sz]⟩,
      ⟨hX.sub, fun L r hr => ?_, hX.size, fun b hb hi => hX.frame b hb fun g => hi (imgM b g), fun b hb => ?_, fun L bk hl2 => ?_, hX.same⟩⟩
    · cases hx : q.m'.heap.find L with
      | none => rfl
      | some b =>
        rcases hX.lab L b hx with ⟨b0, g⟩ | g
        · rw [hm, hI.free L (by omega) h2] at g; cases g
        · omega
    · obtain ⟨r, hr⟩ := Option.ne_none_iff_exists'.1 h3
      rcases hX.dom L r hr with g | g
      · obtain ⟨x, g1, g2, g3, g4⟩ := hI.lab L (by omega) h2 (by rw [g]; simp)
        cases g1 with
        | head => omega
        | tail _ g1 => exact ⟨x, g1, getD_set_true g2, g3, g4⟩
      · omega
    · intro t v hv2
      have h3 : seenE (listed.setIfInBounds q.i true) rs q.env' t = seenE (listed.setIfInBounds q.i true) (q :: rs) e t := seen_front h fun _ => set_same hlt
      exact put_val hlow hv (fun t v hv => (hI.val t v hv).imp fun v' hh => ⟨hh.1, hh.2.mono hX.sub⟩) hseen' t v (by rw [← h3]; exact hv2)
    · by_cases hi' : q.i = i
      · rw [← hi']; exact set_same hlt
      · exact getD_set_true (hI.out i hi fun x hx => by cases hx with | head => exact hi' | tail _ hx => exact hr x hx)
    · have hne := (hord r hr).ne
      rw [getD_set_ne false hne] at hlr
      exact hI.act r (.tail _ hr) hlr
    · rcases hX.dom L r hr with g | g
      · exact .inl g
      · exact .inr ⟨by omega, by omega⟩
    · obtain ⟨L, bk, r, g1, g2, g3, rfl⟩ := hb
      rcases cases_ L bk g1 with g | g
      · obtain ⟨r0, k1, _, _, k2⟩ := er L bk g
        have t1 := hX.sub _ _ k1
        rw [g3] at t1; cases t1
        exact .inl ⟨L, bk, r, k2, g2, k1, rfl⟩
      · exact (hX.img _ ⟨L, bk, r, g, g2, g3, rfl⟩).imp (imgM _) id
    · rcases cases_ L bk hl2 with g | g
      · obtain ⟨r0, _, _, _, k2⟩ := er L bk g
        exact .inl ⟨bk, k2⟩
      · rcases hX.lab L bk g with ⟨b0, g⟩ | g
        · exact .inl ⟨b0, inM _ _ g⟩
        · exact .inr ⟨by omega, by omega⟩
  unfold wpOp
  have hat : all.toArray[q.i]? = some q.o := by simpa using hok.at_
  rw [hat]
  simp only [hwant]
  have hR0 : RelF q.m.heap.find ρ w := hI.rel.sub inM
  cases hw : q.w with
  | false =>
    simp only [Bool.false_eq_true, if_false]
    obtain ⟨h1, h2⟩ := hok.no hw
    obtain ⟨g1, g2⟩ := mk ρ undef w (by rw [h1]; exact undef_ok ρ) (by rw [h2]; exact hR0) (by rw [h2]; exact EX.refl _ _ _)
    exact hK _ _ _ g1 g2
  | true =>
    simp only [if_true]
    refine .inl ?_
    refine (hok.done hw).ops.run ρ w q.o ac K Q rfl hR0 (fun L h1 h2 => ?_) hS fun ρ' v' w' hv hR hX => ?_
    · by_cases hn : ρ L = none
      · exact hn
      · exfalso
        obtain ⟨r, g1, g2, g3, g4⟩ := hI.lab L (by omega) (by omega) hn
        cases g1 with
        | head => rw [hl] at g2; cases g2
        | tail _ g1 => have := hbnd.2 r g1; omega
    · obtain ⟨g1, g2⟩ := mk ρ' v' w' hv hR hX
      exact hK _ _ _ g1 g2
/-- all that stands done at the front -/
theorem settle {f0 : Nat → Option Bk} {lo : Nat} {ρ0 : Ren} {w0 : World} {e' : L2} {m' : Mem} {ρ : Ren} {ac : Act} {w : World} : ∀ (rs : List Rec) (e : L2) (m : Mem), Plan P N all B rs e m e' m' →
    Inv B all N rs e m m'.next listed ρ ac w → EXF f0 lo m'.next ρ0 w0 (withE listed rs m.heap.find) ρ w → lo ≤ m.next →
    ∃ rs2 e2 m2, Plan P N all B rs2 e2 m2 e' m' ∧ Inv B all N rs2 e2 m2 m'.next listed ρ ac w ∧ EXF f0 lo m'.next ρ0 w0 (withE listed rs2 m2.heap.find) ρ w ∧ lo ≤ m2.next ∧ (∀ r l, rs2 = r :: l → listed.getD r.i false = false)
  | [], e, m, h, hI, hX, hlo => ⟨[], e, m, h, hI, hX, hlo, fun r l h => by cases h⟩
  | r :: rs, e, m, h, hI, hX, hlo => by
    cases hl : listed.getD r.i false with
    | false => exact ⟨r :: rs, e, m, h, hI, hX, hlo, fun x l h => by cases h; exact hl⟩
    | true =>
      obtain ⟨g1, g2⟩ := hI.front h hl
      obtain ⟨_, hm, hok, _⟩ := h.head
      have := hok.nx
      rw [hm] at this
      exact settle rs r.env' r.m' h.tail g1 (hX.subR g2) (Nat.le_trans hlo this)
theorem any_ok (hW : Waits all B) {f0 : Nat → Option Bk} {lo : Nat} {ρ0 : Ren} {w0 : World} {e' : L2} {m' : Mem} {Q : Exit → Act → World → Prop}
    (hQ : ∀ ρ ac w, RelF m'.heap.find ρ w → EXF f0 lo m'.next ρ0 w0 m'.heap.find ρ w → FrR ρ N e' ac → Q .normal ac w) :
    ∀ (fuel : Nat) (U : List Nat) (listed : Array Bool) (rs : List Rec) (e : L2) (m : Mem) (ρ : Ren) (ac : Act) (w : World), U.length = fuel → (∀ i, i < all.length → listed.getD i false = false → i ∈ U) →
    Plan P N all B rs e m e' m' → Inv B all N rs e m m'.next listed ρ ac w → EXF f0 lo m'.next ρ0 w0 (withE listed rs m.heap.find) ρ w → lo ≤ m.next → wpAny P .any all.toArray Q fuel listed ac w := by
  intro fuel
  have getD_t : ∀ {listed : Array Bool} {i : Nat}, listed.getD i true = false → i < listed.size ∧ listed.getD i false = false := by
    intro listed i h
    by_cases hi : i < listed.size
    · refine ⟨hi, ?_⟩
      simp [hi] at h ⊢
      exact h
    · simp [hi] at h
  have t_getD : ∀ {listed : Array Bool} {i : Nat}, i < listed.size → listed.getD i false = false → listed.getD i true = false := by
    intro listed i hi h
    simp [hi] at h ⊢
    exact h
  have last : ∀ {listed : Array Bool} {e : L2} {m : Mem} {ρ : Ren} {ac : Act} {w : World}, Plan P N all B [] e m e' m' → Inv B all N [] e m m'.next listed ρ ac w → EXF f0 lo m'.next ρ0 w0 (withE listed [] m.heap.find) ρ w →
      Region.ready .any all.toArray listed = [] ∧ Q .normal ac w := by
    intro listed e m ρ ac w h hI hX
    obtain ⟨rfl, rfl⟩ := h.ch
    refine ⟨?_, hQ ρ ac w hI.rel hX ⟨hI.size, hI.dfr, hI.val⟩⟩
    apply List.eq_nil_iff_forall_not_mem.2
    intro j hj
    obtain ⟨h1, _⟩ := mem_ready.1 hj
    obtain ⟨h2, h3⟩ := getD_t h1
    rw [hI.out j (by rw [← hI.sz]; exact h2) (fun r hr => by cases hr)] at h3
    cases h3
  induction fuel with
  | zero =>
    intro U listed rs e m ρ ac w hU hUl h hI hX hlo
    obtain ⟨rs2, e2, m2, h2, hI2, hX2, hlo2, hh⟩ := settle rs e m h hI hX hlo
    cases rs2 with
    | nil => exact last h2 hI2 hX2
    | cons r l =>
      have hr := hh r l rfl
      obtain ⟨_, _, hok, _⟩ := h2.head
      have := hUl r.i (List.getElem?_eq_some_iff.1 hok.at_).1 hr
      cases U with
      | nil => cases this
      | cons _ _ => cases hU
  | succ fuel ih =>
    intro U listed rs e m ρ ac w hU hUl h hI hX hlo
    obtain ⟨rs2, e2, m2, h2, hI2, hX2, hlo2, hh⟩ := settle rs e m h hI hX hlo
    cases rs2 with
    | nil =>
      obtain ⟨h3, h4⟩ := last h2 hI2 hX2
      refine ⟨fun _ => h4, fun j hj => ?_⟩
      rw [h3] at hj
      cases hj
    | cons r l =>
      have hr := hh r l rfl
      obtain ⟨_, _, hok, hord⟩ := h2.head
      have hlen := (List.getElem?_eq_some_iff.1 hok.at_).1
      refine ⟨fun hnil => ?_, fun j hj => ?_⟩
      · exfalso
        have : r.i ∈ Region.ready .any all.toArray listed := by
          rw [mem_ready]
          refine ⟨t_getD (by rw [hI2.sz]; exact hlen) hr, r.o, by simpa using hok.at_, fun x hx hb => ?_⟩
          have hB := hW.after r.i r.o x hok.at_ hx hb
          refine hI2.out x.on (hW.dom _ _ hB) fun y hy e => ?_
          cases hy with
          | head => rw [← e, hW.irr] at hB; cases hB
          | tail _ hy => rw [← e, (hord y hy).fwd] at hB; cases hB
        rw [hnil] at this
        cases this
      · obtain ⟨h3, o, h4, h5⟩ := mem_ready.1 hj
        obtain ⟨h6, h7⟩ := getD_t h3
        have h4' : all[j]? = some o := by simpa using h4
        have hready : ∀ i, B j i = true → listed.getD i false = true := fun i hb => by
          obtain ⟨x, g1, g2, g3⟩ := hW.trans j o i h4' hb
          rcases g3 with rfl | g3
          · exact h5 x g1 g2
          · exact hI2.down i x.on g3 (h5 x g1 g2)
        have hUlen : (U.erase j).length = fuel := by
          rw [List.length_erase_of_mem (hUl j (by rw [← hI2.sz]; exact h6) h7), hU]; rfl
        have hUl' : ∀ i, i < all.length → (listed.setIfInBounds j true).getD i false = false → i ∈ U.erase j := by
          intro i hi hli
          have hne : i ≠ j := fun e => by rw [e, set_same h6] at hli; cases hli
          rw [getD_set_ne false (Ne.symm hne)] at hli
          exact (List.mem_erase_of_ne hne).2 (hUl i hi hli)
        have hq : ∃ q ∈ r :: l, q.i = j := by
          by_cases hx : ∀ q ∈ r :: l, q.i ≠ j
          · rw [hI2.out j (by rw [← hI2.sz]; exact h6) hx] at h7; cases h7
          · exact Classical.byContradiction fun hno => hx fun q hq e => hno ⟨q, hq, e⟩
        obtain ⟨q, hq1, rfl⟩ := hq
        by_cases hc : clsOf q.o.op = 3
        · -- an act: it is the first
          cases hq1 with
          | head =>
            refine hI2.acts h2 h7 hready fun ρ' ac' w' hI3 hX3 => ?_
            have hnx := hok.nx
            have hmm : r.m = m2 := h2.head.2.1
            rw [hmm] at hnx
            exact ih _ _ l r.env' r.m' ρ' ac' w' hUlen hUl' h2.tail hI3 (hX2.trans' hX3 hlo2) (Nat.le_trans hlo2 hnx)
          | tail _ hq1 =>
            have := hready _ ((hord q hq1).act hc)
            rw [hr] at this; cases this
        · have hc' : clsOf q.o.op = 0 ∨ clsOf q.o.op = 1 := by
            rcases h2.cls q hq1 with g | g | g
            · exact .inl g
            · exact .inr g
            · exact absurd g hc
          exact hI2.light h2 hq1 hc' h7 hready fun ρ' ac' w' hI3 hX3 => ih _ _ (r :: l) e2 m2 ρ' ac' w' hUlen hUl' h2 hI3 (hX2.trans' hX3 hlo2) hlo2
end
end Go.Proofs.YtpilmdfnbfcmkaaGreat.Ev
