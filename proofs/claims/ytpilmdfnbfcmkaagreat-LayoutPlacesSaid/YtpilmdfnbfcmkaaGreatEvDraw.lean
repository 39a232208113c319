/-
  Regions that draw their order: whatever the order, the program's region comes to what the reckoner came to. No program in sight.
-/
import Derived.Test.YtpilmdfnbfcmkaaGreatEvCall
namespace Go.Proofs.YtpilmdfnbfcmkaaGreat.Ev
set_option linter.unusedVariables false
set_option linter.unusedSimpArgs false

/-- one operation of a region, as the reckoner did it -/
structure Rec where
  i : Nat
  o : Oper
  env : L2
  m : Mem
  v : Value
  w : Bool
  env' : L2
  m' : Mem
/-- the records follow each other -/
def Chain : List Rec → L2 → Mem → L2 → Mem → Prop
  | [], e, m, e', m' => e = e' ∧ m = m'
  | r :: rs, e, m, e', m' => r.env = e ∧ r.m = m ∧ Chain rs r.env' r.m' e' m'
/-- what is known of a record by itself -/
structure RecOk (P : Program) (N : Nat) (all : List Oper) (r : Rec) : Prop where
  at_ : all[r.i]? = some r.o
  low : ∀ t, r.o.dst = some t → t < N
  put : ∀ u, findT r.env' u = if r.o.dst = some u then some r.v else findT r.env u
  nx : r.m.next ≤ r.m'.next
  want : ∀ (ρ : Ren) (ac : Act), (∀ t ∈ tmpsOf all r.o, ∀ v, findT r.env t = some v → ∃ v', ac.tmps[t]? = some v' ∧ VR ρ v v') → Region.wanted r.o (yielded all.toArray ac.tmps) = r.w
  no : r.w = false → r.v = undefV ∧ r.m' = r.m
  done : r.w = true → Done P r.o.op r.env r.m r.v r.m'
/-- a record that is no act's: its memory is the old one, or holds one block more -/
theorem RecOk.mem {P : Program} {N : Nat} {all : List Oper} {r : Rec} (h : RecOk P N all r) (hc : clsOf r.o.op = 0 ∨ clsOf r.o.op = 1) :
    r.m' = r.m ∨ (r.m'.next = r.m.next + 1 ∧ r.w = true ∧ ∃ b, MakeS P r.o.op r.env r.m.next r.v b ∧ ∀ j, r.m'.heap.find j = if j = r.m.next then some b else r.m.heap.find j) := by
  cases hw : r.w with
  | false => exact .inl (h.no hw).2
  | true =>
    rcases hc with hc | hc
    · rcases (h.done hw).light hc with ⟨h1, _⟩ | ⟨b, h1, h2, h3⟩
      · exact .inl h1
      · exact .inr ⟨h2, rfl, b, h1, h3⟩
    · exact .inl ((h.done hw).reads hc).1
/-- of two records, the first is reckoned before the other -/
structure Ord (P : Program) (all : List Oper) (B : Nat → Nat → Bool) (r q : Rec) : Prop where
  ne : r.i ≠ q.i
  fwd : B r.i q.i = false
  act : clsOf q.o.op = 3 → B q.i r.i = true
  dst : ∀ t, r.o.dst = some t → q.o.dst ≠ some t
  war : ∀ t ∈ tmpsOf all r.o, q.o.dst = some t → B q.i r.i = true
  raw : ∀ t ∈ tmpsOf all q.o, r.o.dst = some t → B q.i r.i = true
  rd : clsOf r.o.op = 3 → clsOf q.o.op = 1 → B q.i r.i = false → q.w = true → ReadS P q.o.op q.env r.m q.v
/-- the blocks of what was done early -/
noncomputable def early (listed : Array Bool) : List Rec → Nat → Option Bk
  | [], _ => none
  | r :: rs, L => if listed.getD r.i false = true ∧ r.m.next = L ∧ L < r.m'.next then r.m'.heap.find L else early listed rs L
noncomputable def withE (listed : Array Bool) (rs : List Rec) (f : Nat → Option Bk) (L : Nat) : Option Bk := match early listed rs L with
  | some b => some b
  | none => f L
/-- the frame with what was done early -/
noncomputable def seenE (listed : Array Bool) : List Rec → L2 → Nat → Option Value
  | [], e, t => findT e t
  | r :: rs, e, t => if listed.getD r.i false = true ∧ r.o.dst = some t then some r.v else seenE listed rs e t
section
variable {P : Program} {N hi : Nat} {all : List Oper} {B : Nat → Nat → Bool} {listed : Array Bool}
theorem early_some {rs : List Rec} {L : Nat} {b : Bk} (h : early listed rs L = some b) : ∃ r ∈ rs, listed.getD r.i false = true ∧ r.m.next = L ∧ L < r.m'.next ∧ r.m'.heap.find L = some b := by
  induction rs with
  | nil => cases h
  | cons r rs ih =>
    unfold early at h
    split at h
    · rename_i hc
      exact ⟨r, .head _, hc.1, hc.2.1, hc.2.2, h⟩
    · obtain ⟨q, h1, h2⟩ := ih h
      exact ⟨q, .tail _ h1, h2⟩
theorem early_none {rs : List Rec} {L : Nat} (h : ∀ r ∈ rs, r.m.next ≠ L) : early listed rs L = none := by
  induction rs with
  | nil => rfl
  | cons r rs ih =>
    unfold early
    rw [if_neg (fun hc => h r (.head _) hc.2.1)]
    exact ih fun q hq => h q (.tail _ hq)
theorem Chain.le {rs : List Rec} {e e' : L2} {m m' : Mem} (h : Chain rs e m e' m') (hr : ∀ r ∈ rs, RecOk P N all r) : m.next ≤ m'.next ∧ ∀ r ∈ rs, m.next ≤ r.m.next ∧ r.m'.next ≤ m'.next := by
  induction rs generalizing e m with
  | nil => obtain ⟨_, rfl⟩ := h; exact ⟨Nat.le_refl _, fun r hr => by cases hr⟩
  | cons r rs ih =>
    obtain ⟨rfl, rfl, h3⟩ := h
    obtain ⟨h4, h5⟩ := ih h3 fun q hq => hr q (.tail _ hq)
    have := (hr r (.head _)).nx
    refine ⟨Nat.le_trans this h4, fun q hq => ?_⟩
    cases hq with
    | head => exact ⟨Nat.le_refl _, h4⟩
    | tail _ hq => exact ⟨Nat.le_trans this (h5 q hq).1, (h5 q hq).2⟩
/-- the plan -/
structure Plan (P : Program) (N : Nat) (all : List Oper) (B : Nat → Nat → Bool) (rs : List Rec) (e : L2) (m : Mem) (e' : L2) (m' : Mem) : Prop where
  ch : Chain rs e m e' m'
  ok : ∀ r ∈ rs, RecOk P N all r
  pw : rs.Pairwise (Ord P all B)
  cls : ∀ r ∈ rs, clsOf r.o.op = 0 ∨ clsOf r.o.op = 1 ∨ clsOf r.o.op = 3
theorem Plan.tail {r : Rec} {rs : List Rec} {e e' : L2} {m m' : Mem} (h : Plan P N all B (r :: rs) e m e' m') : Plan P N all B rs r.env' r.m' e' m' :=
  ⟨h.ch.2.2, fun q hq => h.ok q (.tail _ hq), (List.pairwise_cons.1 h.pw).2, fun q hq => h.cls q (.tail _ hq)⟩
theorem Plan.head {r : Rec} {rs : List Rec} {e e' : L2} {m m' : Mem} (h : Plan P N all B (r :: rs) e m e' m') : r.env = e ∧ r.m = m ∧ RecOk P N all r ∧ ∀ q ∈ rs, Ord P all B r q :=
  ⟨h.ch.1, h.ch.2.1, h.ok r (.head _), (List.pairwise_cons.1 h.pw).1⟩
theorem Plan.bnd {rs : List Rec} {e e' : L2} {m m' : Mem} (h : Plan P N all B rs e m e' m') : m.next ≤ m'.next ∧ ∀ r ∈ rs, m.next ≤ r.m.next ∧ r.m'.next ≤ m'.next := h.ch.le h.ok

/-- where the region stands -/
structure Inv (B : Nat → Nat → Bool) (all : List Oper) (N : Nat) (rs : List Rec) (e : L2) (m : Mem) (hi : Nat) (listed : Array Bool) (ρ : Ren) (ac : Act) (w : World) : Prop where
  rel : RelF (withE listed rs m.heap.find) ρ w
  free : ∀ L, m.next ≤ L → L < hi → m.heap.find L = none
  lab : ∀ L, m.next ≤ L → L < hi → ρ L ≠ none → ∃ r ∈ rs, listed.getD r.i false = true ∧ r.m.next = L ∧ L < r.m'.next
  size : N ≤ ac.tmps.size
  dfr : ac.defers = []
  val : ∀ t v, seenE listed rs e t = some v → ∃ v', ac.tmps[t]? = some v' ∧ VR ρ v v'
  out : ∀ i, i < all.length → (∀ r ∈ rs, r.i ≠ i) → listed.getD i false = true
  act : ∀ r ∈ rs, listed.getD r.i false = true → clsOf r.o.op ≠ 3
  down : ∀ i j, B j i = true → listed.getD j false = true → listed.getD i false = true
  sz : listed.size = all.length

/-- what is seen at the front of the records -/
theorem seen_front {e : L2} {t : Nat} {r : Rec} {rs : List Rec} {e' : L2} {m m' : Mem} (h : Plan P N all B (r :: rs) e m e' m') (hl : r.o.dst = some t → listed.getD r.i false = true) :
    seenE listed rs r.env' t = seenE listed (r :: rs) e t := by
  obtain ⟨he, hm, hok, hord⟩ := h.head
  have base : ∀ (l : List Rec) (e1 e2 : L2), findT e1 t = findT e2 t → seenE listed l e1 t = seenE listed l e2 t := by
    intro l e1 e2 h12
    induction l with
    | nil => exact h12
    | cons q l ih => unfold seenE; rw [ih]
  have none_ : ∀ (l : List Rec) (e1 : L2), (∀ q ∈ l, q.o.dst ≠ some t) → seenE listed l e1 t = findT e1 t := by
    intro l e1 hq
    induction l with
    | nil => rfl
    | cons q l ih =>
      unfold seenE
      rw [if_neg (fun hc => hq q (.head _) hc.2)]
      exact ih fun x hx => hq x (.tail _ hx)
  have hp := hok.put t
  rw [he] at hp
  conv => rhs; unfold seenE
  by_cases hd : r.o.dst = some t
  · rw [if_pos ⟨hl hd, hd⟩, none_ rs _ (fun q hq => (hord q hq).dst t hd), hp, if_pos hd]
  · rw [if_neg (fun hc => hd hc.2)]
    rw [if_neg hd] at hp
    exact base rs _ _ hp
/-- an operation that is ready sees what the reckoner saw -/
theorem seen_at {rs pre post : List Rec} {q : Rec} {e e' : L2} {m m' : Mem} (h : Plan P N all B rs e m e' m') (hrs : rs = pre ++ q :: post)
    (hready : ∀ i, B q.i i = true → listed.getD i false = true) (hq : listed.getD q.i false = false)
    (down : ∀ i j, B j i = true → listed.getD j false = true → listed.getD i false = true) :
    ∀ t ∈ tmpsOf all q.o, findT q.env t = seenE listed rs e t := by
  intro t ht
  induction pre generalizing rs e m with
  | nil =>
    subst hrs
    obtain ⟨he, _, _, hord⟩ := h.head
    have none_ : ∀ (l : List Rec) (e1 : L2), (∀ x ∈ l, listed.getD x.i false = true → x.o.dst ≠ some t) → seenE listed l e1 t = findT e1 t := by
      intro l e1 hx
      induction l with
      | nil => rfl
      | cons y l ih =>
        unfold seenE
        rw [if_neg (fun hc => hx y (.head _) hc.1 hc.2)]
        exact ih fun x hx' => hx x (.tail _ hx')
    rw [he]
    rw [none_ ([] ++ q :: post)]
    intro x hx hlx hdx
    cases hx with
    | head => rw [hq] at hlx; cases hlx
    | tail _ hx =>
      have := down _ _ ((hord x hx).war t ht hdx) hlx
      rw [hq] at this; cases this
  | cons r pre ih =>
    subst hrs
    obtain ⟨he, _, _, hord⟩ := h.head
    rw [ih h.tail rfl]
    exact seen_front h fun hd => hready _ ((hord q (by simp)).raw t ht hd)
theorem withE_eq {rs : List Rec} {f : Nat → Option Bk} {L : Nat} (h : early listed rs L = none) : withE listed rs f L = f L := by
  unfold withE; rw [h]
theorem withE_some {rs : List Rec} {f : Nat → Option Bk} {L : Nat} {b : Bk} (h : early listed rs L = some b) : withE listed rs f L = some b := by
  unfold withE; rw [h]
/-- of the front that is no act: what it leaves, with what was done early behind it, is seen -/
theorem withE_front {r : Rec} {rs : List Rec} {e e' : L2} {m m' : Mem} (h : Plan P N all B (r :: rs) e m e' m') (hc : clsOf r.o.op = 0 ∨ clsOf r.o.op = 1) {L : Nat} {b : Bk}
    (hl : L = r.m.next → L < r.m'.next → listed.getD r.i false = true) (hw : withE listed rs r.m'.heap.find L = some b) : withE listed (r :: rs) m.heap.find L = some b := by
  obtain ⟨he, hm, hok, hord⟩ := h.head
  have hbnd := h.tail.bnd
  by_cases hL : r.m.next = L ∧ L < r.m'.next
  · have hn : early listed rs L = none := early_none fun q hq e => by have := (hbnd.2 q hq).1; omega
    rw [withE_eq hn] at hw
    refine withE_some ?_
    unfold early
    rw [if_pos ⟨hl hL.1.symm hL.2, hL⟩]
    exact hw
  · have e1 : early listed (r :: rs) L = early listed rs L := by
      conv => lhs; unfold early
      rw [if_neg (fun hc => hL hc.2)]
    unfold withE at hw ⊢
    rw [e1]
    cases he1 : early listed rs L with
    | some b' => rw [he1] at hw; exact hw
    | none =>
      rw [he1] at hw
      have hw' : r.m'.heap.find L = some b := hw
      rw [← hm]
      show r.m.heap.find L = some b
      rcases hok.mem hc with h1 | ⟨h1, _, b2, _, h2⟩
      · rw [← h1]; exact hw'
      · rw [h2] at hw'
        rw [if_neg (fun e => hL ⟨e.symm, by omega⟩)] at hw'
        exact hw'
/-- the reckoner's memory, as far as the program has its blocks, is seen -/
theorem see_at {rs pre post : List Rec} {q : Rec} {e e' : L2} {m m' : Mem} {ρ : Ren} (h : Plan P N all B rs e m e' m') (hrs : rs = pre ++ q :: post) (hpre : ∀ r ∈ pre, clsOf r.o.op = 0 ∨ clsOf r.o.op = 1)
    (free : ∀ L, m.next ≤ L → L < m'.next → m.heap.find L = none)
    (lab : ∀ L, m.next ≤ L → L < m'.next → ρ L ≠ none → ∃ r ∈ rs, listed.getD r.i false = true ∧ r.m.next = L ∧ L < r.m'.next) :
    ∀ L b, q.m.heap.find L = some b → ρ L ≠ none → withE listed rs m.heap.find L = some b := by
  induction pre generalizing rs e m with
  | nil =>
    subst hrs
    obtain ⟨he, hm, _, _⟩ := h.head
    intro L b hb _
    rw [hm] at hb
    have hn : early listed ([] ++ q :: post) L = none := by
      cases hx : early listed ([] ++ q :: post) L with
      | none => rfl
      | some b' =>
        obtain ⟨r, h1, h2, h3, h4, _⟩ := early_some hx
        have := h.bnd.2 r h1
        rw [free L (by omega) (by omega)] at hb
        cases hb
    rw [withE_eq hn]
    exact hb
  | cons r pre ih =>
    subst hrs
    intro L b hb hρ
    obtain ⟨he, hm, hok, hord⟩ := h.head
    have hc := hpre r (.head _)
    have hbnd := h.tail.bnd
    have hnx := hok.nx
    have hmn : r.m.next = m.next := by rw [hm]
    have lab' : ∀ L, r.m'.next ≤ L → L < m'.next → ρ L ≠ none → ∃ x ∈ pre ++ q :: post, listed.getD x.i false = true ∧ x.m.next = L ∧ L < x.m'.next := by
      intro L h1 h2 h3
      obtain ⟨x, g1, g2, g3, g4⟩ := lab L (by omega) h2 h3
      cases g1 with
      | head => omega
      | tail _ g1 => exact ⟨x, g1, g2, g3, g4⟩
    have free' : ∀ L, r.m'.next ≤ L → L < m'.next → r.m'.heap.find L = none := by
      intro L h1 h2
      rcases hok.mem hc with g | ⟨g1, _, b2, _, g2⟩
      · rw [g, hm]; rw [g, hm] at h1; exact free L h1 h2
      · rw [g2, if_neg (by omega), hm]; exact free L (by omega) h2
    refine withE_front h hc (fun hL hlt => ?_) (ih h.tail rfl (fun x hx => hpre x (.tail _ hx)) free' lab' L b hb hρ)
    obtain ⟨x, g1, g2, g3, g4⟩ := lab L (by omega) (by omega) hρ
    cases g1 with
    | head => exact g2
    | tail _ g1 => have := (hbnd.2 x g1).1; omega
end
end Go.Proofs.YtpilmdfnbfcmkaaGreat.Ev
