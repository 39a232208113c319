/-
  Regions that draw their order, done; and the reckoner, done. No program in sight.
-/
import Derived.Test.YtpilmdfnbfcmkaaGreatEvDraw4
namespace Go.Proofs.YtpilmdfnbfcmkaaGreat.Ev
set_option linter.unusedVariables false
set_option linter.unusedSimpArgs false

section
variable {P : Program} {T : Tab} {call : CallF} {a : Value} {mm : Mem}
/-- who waits for whom -/
def Bof (l : List Oper) (ms : List Nat) (j i : Nat) : Bool := and (and (Nat.blt i l.length) (Nat.blt j l.length)) (hasB (ms.getD j 0) i)
theorem hasT_ok {l : List Oper} {o : Oper} {d : Option Tmp} {b : Bool} (h : hasT l o d b = true) {t : Tmp} (hd : d = some t) (ht : t ∈ tmpsOf l o) : b = true := by
  subst hd
  have h' : (b || !(tmpsOf l o).contains t) = true := h
  cases b with
  | true => rfl
  | false => simp [ht] at h'
theorem apartD_ok {d d' : Option Tmp} (h : apartD d d' = true) {t : Tmp} (h1 : d = some t) : d' ≠ some t := by
  subst h1
  rintro rfl
  have h' : (!Nat.beq t t) = true := h
  simp at h'
theorem cls_of (op : Op) : clsOf op = 0 ∨ clsOf op = 1 ∨ clsOf op = 3 := by
  unfold clsOf
  split <;> simp
theorem waits_ok {l : List Oper} {ms : List Nat} (h : (List.range l.length).all (waitOk l ms (List.range l.length)) = true) : Waits l (Bof l ms) := by
  rw [List.all_eq_true] at h
  have at_ : ∀ j o, l[j]? = some o → j < l.length ∧ hasB (ms.getD j 0) j = false ∧ (∀ e ∈ o.after, Region.binds .any e = true → e.on < l.length ∧ hasB (ms.getD j 0) e.on = true) ∧
      (∀ i, i < l.length → hasB (ms.getD j 0) i = true → ∃ e ∈ o.after, Region.binds .any e = true ∧ (e.on = i ∨ hasB (ms.getD e.on 0) i = true)) := by
    intro j o hj
    have hlt := (List.getElem?_eq_some_iff.1 hj).1
    have h1 := h j (List.mem_range.2 hlt)
    unfold waitOk at h1
    rw [hj] at h1
    simp only [Bool.and_eq_true, List.all_eq_true, List.any_eq_true, Bool.not_eq_true', Bool.or_eq_true, List.mem_range, Array.mem_toList_iff, Nat.blt_eq] at h1
    obtain ⟨g1, g2, g3⟩ := h1
    refine ⟨hlt, g1, fun e he hb => ?_, fun i hi hb => ?_⟩
    · rcases g2 e he with g | g
      · rw [hb] at g; cases g
      · exact g
    · rcases g3 i hi with g | ⟨e, g4, g5, g6⟩
      · rw [hb] at g; cases g
      · exact ⟨e, g4, g5, g6.imp Nat.eq_of_beq_eq_true id⟩
  refine ⟨fun i j hb => ?_, fun i => ?_, fun j o e hj he hb => ?_, fun j o i hj hb => ?_⟩
  · simp only [Bof, Bool.and_eq_true, Nat.blt_eq] at hb
    exact hb.1.1
  · unfold Bof
    by_cases hi : i < l.length
    · rw [(at_ i l[i] (by simp [hi])).2.1]; simp
    · have : Nat.blt i l.length = false := by
        cases hb : Nat.blt i l.length with
        | false => rfl
        | true => rw [Nat.blt_eq] at hb; exact absurd hb hi
      rw [this]; rfl
  · obtain ⟨g1, _, g2, _⟩ := at_ j o hj
    obtain ⟨g3, g4⟩ := g2 e he hb
    simp only [Bof, Bool.and_eq_true, Nat.blt_eq]
    exact ⟨⟨g3, g1⟩, g4⟩
  · simp only [Bof, Bool.and_eq_true, Nat.blt_eq] at hb
    obtain ⟨_, _, g2, g3⟩ := at_ j o hj
    obtain ⟨e, k1, k2, k3⟩ := g3 i hb.1.1 hb.2
    refine ⟨e, k1, k2, k3.imp id fun g => ?_⟩
    simp only [Bof, Bool.and_eq_true, Nat.blt_eq]
    exact ⟨⟨hb.1.1, (g2 e k1 k2).1⟩, g⟩
theorem pairs_ok {l : List Oper} {ms : List Nat} {recs : List Rec} (hr : ∀ r ∈ recs, l[r.i]? = some r.o)
    (hrd : ∀ z ∈ recs, ∀ q ∈ recs, clsOf z.o.op = 3 → clsOf q.o.op = 1 → Bof l ms q.i z.i = false → Bof l ms z.i q.i = false → q.w = true → ReadS P q.o.op q.env z.m q.v)
    (h : pairsOk l ms (recs.map (·.i)) = true) : recs.Pairwise (Ord P l (Bof l ms)) := by
  induction recs with
  | nil => exact .nil
  | cons r recs ih =>
    have h' : ((recs.map (·.i)).all (ordOk l ms r.i) && pairsOk l ms (recs.map (·.i))) = true := h
    rw [Bool.and_eq_true] at h'
    refine List.pairwise_cons.2 ⟨fun q hq => ?_, ih (fun x hx => hr x (.tail _ hx)) (fun z hz q hq => hrd z (.tail _ hz) q (.tail _ hq)) h'.2⟩
    have h1 := List.all_eq_true.1 h'.1 q.i (List.mem_map.2 ⟨q, hq, rfl⟩)
    unfold ordOk at h1
    have hri := hr r (.head _)
    have hqi := hr q (.tail _ hq)
    rw [hri, hqi] at h1
    simp only [ordB, Bool.and_eq_true, Bool.not_eq_true', Bool.or_eq_true] at h1
    obtain ⟨⟨⟨g1, g2⟩, g3⟩, g4, g5, g6⟩ := h1
    have hrl := (List.getElem?_eq_some_iff.1 hri).1
    have hql := (List.getElem?_eq_some_iff.1 hqi).1
    have fwd : Bof l ms r.i q.i = false := by unfold Bof; rw [g2]; simp
    have bk : hasB (ms.getD q.i 0) r.i = true → Bof l ms q.i r.i = true := fun g => by
      simp only [Bof, Bool.and_eq_true, Nat.blt_eq]
      exact ⟨⟨hrl, hql⟩, g⟩
    refine ⟨fun e => ?_, fwd, fun hc => ?_, fun t ht => apartD_ok g4 ht, fun t ht hd => bk (hasT_ok g5 hd ht), fun t ht hd => bk (hasT_ok g6 hd ht), fun hc1 hc2 hb hw => hrd r (.head _) q (.tail _ hq) hc1 hc2 hb fwd hw⟩
    · rw [e] at g1; simp at g1
    · rcases g3 with g | g
      · rw [hc] at g; cases g
      · exact bk g
theorem BR.drawn {ρ : Ren} {w : World} {n : Nat} {r : Rn} {b : Bk} (h : BR ρ w r b) : BR ρ { w with drawn := n } r b := by
  cases b <;> exact h
theorem RelF.drawn {f : Nat → Option Bk} {ρ : Ren} {w : World} {n : Nat} (h : RelF f ρ w) : RelF f ρ { w with drawn := n } := ⟨fun L b hb => (h.blk L b hb).imp fun r hh => ⟨hh.1, hh.2.drawn⟩, h.inj⟩
theorem draw_ok (hT : TabOk P T) (hC : CallOk P call) (hM : P.follows .mixedOrders = true) : DrawOk P T call := by
  intro id ops env m c a mm h
  obtain ⟨h1, h2⟩ := iteB_yes (show iteB (planOk ops.toList (plan ops.toList) (masks ops.toList [])) (.no 142)
      (drawF ops.toList (masks ops.toList []) (plan ops.toList) T call env m [] [] (fun env' m' rs hs => checkR T call rs hs (c env' m'))) = .ok a mm from h)
  generalize hms : masks ops.toList [] = ms at h1 h2
  generalize hall : ops.toList = all at h1 h2
  obtain ⟨recs, env', m', rsF, hsF, g1, g2, g3, g4, _, _, g5, g6, g7⟩ := drawF_ok hT hC _ env m [] [] _ h2
  obtain ⟨g8, g9⟩ := checkR_ok hT hC rsF hsF (g7 fun r hr => by cases hr) g1
  have hp : (pairsOk all ms (plan all) && ((List.range all.length).all (fun i => (plan all).contains i) && (List.range all.length).all (waitOk all ms (List.range all.length)))) = true := h1
  rw [Bool.and_eq_true, Bool.and_eq_true] at hp
  have hW := waits_ok hp.2.2
  have hplan : Plan P T.n all (Bof all ms) recs env m env' m' := by
    refine ⟨g2, g3, pairs_ok (fun r hr => (g3 r hr).at_) (fun z hz q hq hcz hcq hb1 hb2 hw => ?_) (by rw [g4]; exact hp.1), fun r _ => cls_of _⟩
    have hzl := (List.getElem?_eq_some_iff.1 (g3 z hz).at_).1
    have hql := (List.getElem?_eq_some_iff.1 (g3 q hq).at_).1
    have hasn : ∀ i j, i < all.length → j < all.length → Bof all ms j i = false → hasB (ms.getD j 0) i = false := by
      intro i j hi hj hb
      cases hx : hasB (ms.getD j 0) i with
      | false => rfl
      | true =>
        have : Bof all ms j i = true := by simp only [Bof, Bool.and_eq_true, Nat.blt_eq]; exact ⟨⟨hi, hj⟩, hx⟩
        rw [hb] at this; cases this
    have hun : z.i ∈ unOf all ms q.i := by
      unfold unOf heavies
      refine List.mem_filter.2 ⟨List.mem_filter.2 ⟨List.mem_range.2 hzl, ?_⟩, ?_⟩
      · rw [(g3 z hz).at_]
        simp only [hcz]
        rfl
      · rw [hasn _ _ hzl hql hb1, hasn _ _ hql hzl hb2]; rfl
    have hne : unOf all ms q.i ≠ [] := fun e => by rw [e] at hun; cases hun
    have := g9 _ (g5 q hq hcq hw hne) _ (g6 z hz hcz) (by simpa using hun)
    exact this
  refine ⟨env', m', g8, hplan.bnd.1, fun ρ w ac Q hR hF hE hK => wp_region_any hM ?_⟩
  have hlen : ops.size = all.length := by subst hall; simp
  have hops : ops = all.toArray := by subst hall; simp
  have none_ : ∀ i, (Array.replicate ops.size false).getD i false = false := fun i => by
    by_cases hi : i < ops.size <;> simp [hi]
  have earlyN : ∀ (l : List Rec) (L : Nat), early (Array.replicate ops.size false) l L = none := by
    intro l L
    induction l with
    | nil => rfl
    | cons r l ih => unfold early; rw [if_neg (fun g => by rw [none_] at g; cases g.1)]; exact ih
  have seenN : ∀ (l : List Rec) (e : L2) (t : Nat), seenE (Array.replicate ops.size false) l e t = findT e t := by
    intro l e t
    induction l with
    | nil => rfl
    | cons r l ih => unfold seenE; rw [if_neg (fun g => by rw [none_] at g; cases g.1)]; exact ih
  have hwith : withE (Array.replicate ops.size false) recs m.heap.find = m.heap.find := by
    funext L; exact withE_eq (earlyN recs L)
  have hfind : ∀ L, m.next ≤ L → L < m'.next → m.heap.find L = none := by
    intro L h1 h2
    cases hx : m.heap.find L with
    | none => rfl
    | some b =>
      obtain ⟨r, k1, _⟩ := hR.blk L b hx
      rw [hF L h1 h2] at k1; cases k1
  have hI : Inv (Bof all ms) all T.n recs env m m'.next (Array.replicate ops.size false) ρ ac { w with drawn := w.drawn + 1 } := by
    refine ⟨by rw [hwith]; exact hR.drawn, hfind, fun L h1 h2 h3 => (h3 (hF L h1 h2)).elim, hE.size, hE.dfr, fun t v hv => hE.val t v (by rw [← seenN recs]; exact hv), fun i hi hr => ?_, fun r _ hl => ?_, fun i j _ hl => ?_, by simp [hlen]⟩
    · exfalso
      have := List.all_eq_true.1 hp.2.1 i (List.mem_range.2 hi)
      have hmem : i ∈ plan all := by simpa using this
      rw [← g4] at hmem
      obtain ⟨r, k1, k2⟩ := List.mem_map.1 hmem
      exact hr r k1 k2
    · rw [none_] at hl; cases hl
    · rw [none_] at hl; cases hl
  have key := any_ok (Q := Q) hW (f0 := m.heap.find) (lo := m.next) (ρ0 := ρ) (w0 := { w with drawn := w.drawn + 1 }) (e' := env') (m' := m') (N := T.n) (P := P)
    (fun ρ' ac' w' hR' hX' hE' => hK ρ' ac' w' hR' ⟨hX'.sub, hX'.dom, hX'.size, hX'.frame, hX'.img, hX'.lab, hX'.same⟩ hE')
    ops.size (List.range all.length) (Array.replicate ops.size false) recs env m ρ ac { w with drawn := w.drawn + 1 } (by simp [hlen]) (fun i hi _ => List.mem_range.2 hi) hplan hI (by rw [hwith]; exact EXF.refl') (Nat.le_refl _)
  rw [← hops] at key
  exact key
/-- THE RECKONER: what it yields, the program's call returns. -/
theorem reckoned (hT : TabOk P T) (hS : StubOk P T) (hM : P.follows .mixedOrders = true) (fuel : Nat) : CallOk P (callF T fuel) := callF_ok hT hS (fun n call hC => draw_ok (hT.at n) hC hM) fuel
end
end Go.Proofs.YtpilmdfnbfcmkaaGreat.Ev
