/-
  The tokens stand in the text one behind the other, at places that rise; with blanks between they are the same. No program in sight.
  Texts of runes: what is UTF-8, cut at a token's end, put together; places over what is put together. No program in sight.
  A token of a text of runes is such a text; tokens of what is put together. No program in sight.
-/
import Derived.Test.YteplbbjmbhgllaaGreatDoorLexM00
namespace Go.Proofs.YteplbbjmbhgllaaGreatDoor.Lx
open Go.Lib
set_option linter.unusedVariables false
set_option linter.unusedSimpArgs false

def ltP (p q : Pl) : Prop := p.1 < q.1 ∨ (p.1 = q.1 ∧ p.2 < q.2)
theorem ltP.trans {p q r : Pl} (h1 : ltP p q) (h2 : ltP q r) : ltP p r := by
  unfold ltP at *; omega
theorem stepP_lt (p : Pl) (r : Nat) : ltP p (stepP p r) := by
  unfold stepP ltP
  split
  · exact .inl (by dsimp only; omega)
  · exact .inr ⟨rfl, by dsimp only; omega⟩
theorem movedF_le : ∀ (n : Nat) (p : Pl) (l : Bs), p = movedF n p l ∨ ltP p (movedF n p l)
  | 0, p, l => .inl rfl
  | n + 1, p, l => by
    unfold movedF
    split
    · exact .inl rfl
    · rcases movedF_le n (stepP p (decodeL l).1) (l.drop (decodeL l).2) with h | h
      · rw [← h]; exact .inr (stepP_lt _ _)
      · exact .inr ((stepP_lt _ _).trans h)
theorem moved_lt {p : Pl} {l : Bs} (h : l ≠ []) : ltP p (moved p l) := by
  unfold moved
  cases l with
  | nil => exact absurd rfl h
  | cons b r =>
    show ltP p (movedF (r.length + 1) p (b :: r))
    unfold movedF
    rw [if_neg (by simp)]
    rcases movedF_le r.length (stepP p (decodeL (b :: r)).1) ((b :: r).drop (decodeL (b :: r)).2) with h | h
    · rw [← h]; exact stepP_lt _ _
    · exact (stepP_lt _ _).trans h
theorem tokenL_kind {fl : Bs → Nat → Option Nat} {l : Bs} {t : TokB} (h : tokenL fl l = .ok t) : 1 ≤ t.kind ∧ t.kind ≤ 7 := by
  cases l with
  | nil => cases h
  | cons b r =>
    unfold tokenL at h
    dsimp only at h
    repeat' (split at h)
    all_goals first | (cases h; done) | (injection h with h; subst h; simp; done) | (injection h with h; subst h; dsimp only; split <;> omega)
theorem toks_ne {fl : Bs → Nat → Option Nat} {l : Bs} {p : Pl} {ts : List Tok} (h : Toks fl l p ts) : ts ≠ [] := by
  induction h with
  | nil => simp
  | blank _ _ ih => exact ih
  | tok => simp
/-- blanks left out -/
def skipB (l : Bs) : Bs := l.dropWhile fun b => isBlank b.toNat
/-- WHAT STANDS FIRST. -/
theorem toks_head {fl : Bs → Nat → Option Nat} {l : Bs} {p : Pl} {ts : List Tok} (h : Toks fl l p ts) :
    ∃ (t : Tok) (ts' : List Tok) (l' : Bs), ts = t :: ts' ∧ skipB l = t.text ++ l' ∧ (p = t.at_ ∨ ltP p t.at_) ∧
      ((ts' = [] ∧ t.kind = 8 ∧ t.text = [] ∧ l' = []) ∨ (ts' ≠ [] ∧ t.kind ≠ 8 ∧ t.text ≠ [] ∧ ∃ p', Toks fl l' p' ts' ∧ ltP t.at_ p')) := by
  induction h with
  | nil p => exact ⟨_, [], [], rfl, rfl, .inl rfl, .inl ⟨rfl, rfl, rfl, rfl⟩⟩
  | @blank b r p ts hb _ ih =>
    obtain ⟨t, ts', l', e1, e2, e3, e4⟩ := ih
    refine ⟨t, ts', l', e1, ?_, ?_, e4⟩
    · unfold skipB at e2 ⊢
      rw [List.dropWhile_cons, if_pos hb]
      exact e2
    · rcases e3 with e3 | e3
      · rw [← e3]; exact .inr (stepP_lt _ _)
      · exact .inr ((stepP_lt _ _).trans e3)
  | @tok l p t ts hb ht h _ =>
    have hl := tokenL_len ht
    have hk := tokenL_kind ht
    refine ⟨_, ts, l.drop t.len, rfl, ?_, .inl rfl, .inr ⟨?_, by dsimp only; omega, ?_, _, h, ?_⟩⟩
    · dsimp only
      rw [List.take_append_drop]
      unfold skipB
      cases l with
      | nil => rfl
      | cons b r => rw [List.dropWhile_cons, if_neg (by rw [hb b r rfl]; simp)]
    · exact toks_ne h
    · dsimp only
      intro e
      have := congrArg List.length e
      rw [List.length_take, List.length_nil] at this
      omega
    · dsimp only
      refine moved_lt fun e => ?_
      have := congrArg List.length e
      rw [List.length_take, List.length_nil] at this
      omega
/-- The same but for the places. -/
def strip (t : Tok) : Tok := { t with at_ := (0, 0) }
def spaced (ts : List Tok) : Bs := (ts.map fun t => t.text ++ [32]).flatten
theorem spaced_cons (t : Tok) (ts : List Tok) : spaced (t :: ts) = t.text ++ 32 :: spaced ts := by
  unfold spaced
  rw [List.map_cons, List.flatten_cons, List.append_assoc]; rfl
theorem blank32 : isBlank (32 : UInt8).toNat = true := by decide
/-- WITH A BLANK BEHIND EACH THEY ARE THE SAME. -/
theorem toks_spaced {fl : Bs → Nat → Option Nat} {l : Bs} {p : Pl} {ts : List Tok} (h : Toks fl l p ts) : ∀ q : Pl, ∃ us, Toks fl (spaced ts) q us ∧ ts.map strip = us.map strip := by
  induction h with
  | nil p =>
    intro q
    rw [spaced_cons]
    exact ⟨_, .blank blank32 (.nil _), rfl⟩
  | blank _ _ ih => exact ih
  | @tok l p t ts hb ht h ih =>
    intro q
    have hl := tokenL_len ht
    have htl : (l.take t.len).length = t.len := by rw [List.length_take]; omega
    obtain ⟨us, h1, h2⟩ := ih (stepP (moved q (l.take t.len)) 32)
    rw [spaced_cons]
    dsimp only
    have hc : tokenL fl (l.take t.len ++ 32 :: spaced ts) = .ok t := tokenL_cut (y := l.drop t.len) (by rw [List.take_append_drop]; exact ht) htl.symm (.inr ⟨32, _, rfl, blank32⟩)
    have htk : (l.take t.len ++ 32 :: spaced ts).take t.len = l.take t.len := by rw [List.take_append_of_le_length (by omega), List.take_of_length_le (by omega)]
    have hdr : (l.take t.len ++ 32 :: spaced ts).drop t.len = 32 :: spaced ts := by rw [List.drop_append_of_le_length (by omega), List.drop_of_length_le (by omega), List.nil_append]
    refine ⟨⟨t.kind, q, l.take t.len, t.bits, t.data⟩ :: us, ?_, by rw [List.map_cons, List.map_cons, h2]; rfl⟩
    have hT := Toks.tok (fl := fl) (l := l.take t.len ++ 32 :: spaced ts) (p := q) (t := t) (ts := us) (fun b r e => ?_) hc (by rw [hdr, htk]; exact .blank blank32 h1)
    · rw [htk] at hT
      exact hT
    · cases l with
      | nil => simp at hl; omega
      | cons b' r' =>
        cases hn : t.len with
        | zero => omega
        | succ n =>
          rw [hn, List.take_succ_cons, List.cons_append] at e
          injection e with e1 e2
          rw [← e1]
          exact hb b' r' rfl
end Go.Proofs.YteplbbjmbhgllaaGreatDoor.Lx

namespace Go.Proofs.YteplbbjmbhgllaaGreatDoor.Lx
open Go.Lib
set_option linter.unusedVariables false
set_option linter.unusedSimpArgs false

theorem getD_take {l y : Bs} {k i : Nat} (hk : k ≤ l.length) (hi : i < k) : (l.take k ++ y).getD i 0 = l.getD i 0 := by
  rw [List.getD_eq_getElem?_getD, List.getD_eq_getElem?_getD, List.getElem?_append_left (by rw [List.length_take]; omega), List.getElem?_take_of_lt hi]
/-- A rune is known by its own bytes. -/
theorem decodeL_self {l : Bs} (hne : l ≠ []) (h : ¬ ((decodeL l).1 = 65533 ∧ (decodeL l).2 = 1)) (y : Bs) : decodeL (l.take (decodeL l).2 ++ y) = decodeL l := by
  obtain ⟨hk1, hk2⟩ := decodeL_len hne
  obtain ⟨d, hd⟩ : ∃ d, d = decodeL l := ⟨_, rfl⟩
  rw [← hd] at h hk1 hk2 ⊢
  have hlen : (l.take d.2 ++ y).length = d.2 + y.length := by rw [List.length_append, List.length_take]; omega
  rw [decodeL_N, hlen, getD_take hk2 (by omega)]
  rw [decodeL_N] at hd
  unfold decodeN at hd
  split at hd
  · rename_i c0
    unfold decodeN
    rw [if_pos c0, hd]
  · rename_i c0
    split at hd
    · rename_i c1
      split at hd
      · rename_i c2
        have e : d.2 = 2 := by rw [hd]
        rw [e] at hk2 ⊢
        rw [getD_take hk2 (by omega)]
        unfold decodeN
        rw [if_neg c0, if_pos ⟨c1.1, by omega, c1.2.2⟩, if_pos c2, hd]
      · exact absurd (by rw [hd]; exact ⟨rfl, rfl⟩) h
    · rename_i c1
      split at hd
      · rename_i c2
        split at hd
        · rename_i c3
          have e : d.2 = 3 := by rw [hd]
          rw [e] at hk2 ⊢
          rw [getD_take hk2 (by omega), getD_take hk2 (by omega)]
          unfold decodeN
          rw [if_neg c0, if_neg (fun c => by have := c.1; have := c2.1; omega), if_pos ⟨c2.1, ⟨by omega, c2.2.1.2⟩, by omega, c2.2.2.2⟩, if_pos c3, hd]
        · exact absurd (by rw [hd]; exact ⟨rfl, rfl⟩) h
      · rename_i c2
        split at hd
        · rename_i c3
          split at hd
          · rename_i c4
            have e : d.2 = 4 := by rw [hd]
            rw [e] at hk2 ⊢
            rw [getD_take hk2 (by omega), getD_take hk2 (by omega), getD_take hk2 (by omega)]
            unfold decodeN
            rw [if_neg c0, if_neg (fun c => by have := c.1; have := c3.1; omega), if_neg (fun c => by have := c.1; have := c3.1; omega), if_pos ⟨c3.1, ⟨by omega, c3.2.1.2⟩, ⟨by omega, c3.2.2.1.2⟩, by omega, c3.2.2.2.2⟩, if_pos c4, hd]
          · exact absurd (by rw [hd]; exact ⟨rfl, rfl⟩) h
        · exact absurd (by rw [hd]; exact ⟨rfl, rfl⟩) h
/-- A text of runes. -/
inductive Val : Bs → Prop
  | nil : Val []
  | rune {x l : Bs} {r : Nat} (hx : x ≠ []) (hr : ¬ (r = 65533 ∧ x.length = 1)) (hd : ∀ y, decodeL (x ++ y) = (r, x.length)) (h : Val l) : Val (x ++ l)
theorem Val.app {a b : Bs} (ha : Val a) (hb : Val b) : Val (a ++ b) := by
  induction ha with
  | nil => exact hb
  | rune hx hr hd _ ih => rw [List.append_assoc]; exact .rune hx hr hd ih
theorem Val.ascii {b : UInt8} {l : Bs} (hb : b.toNat < 128) (h : Val l) : Val (b :: l) :=
  Val.rune (x := [b]) (r := b.toNat) (by simp) (fun h => by omega) (fun y => decodeL_ascii hb) h
theorem Val.tail {b : UInt8} {l : Bs} (hb : b.toNat < 128) (h : Val (b :: l)) : Val l := by
  generalize e : b :: l = m at h
  cases h with
  | nil => cases e
  | @rune x l' r hx hr hd h =>
    have h1 := hd l'
    rw [← e, decodeL_ascii hb] at h1
    injection h1 with _ h1
    match x, h1 with
    | [c], _ =>
      injection e with _ e
      rw [e]
      exact h
theorem spoiltF_val : ∀ (n : Nat) (l : Bs) (k : Nat), l.length ≤ n → spoiltF n l k = none → Val l
  | 0, l, k, hn, h => by
    obtain rfl : l = [] := List.eq_nil_of_length_eq_zero (by omega)
    exact .nil
  | n + 1, l, k, hn, h => by
    unfold spoiltF at h
    by_cases hl : l = []
    · subst hl; exact .nil
    · rw [if_neg hl] at h
      by_cases hr : (decodeL l).1 = 65533 ∧ (decodeL l).2 = 1
      · rw [if_pos hr] at h; cases h
      · rw [if_neg hr] at h
        obtain ⟨k1, k2⟩ := decodeL_len hl
        have htk : (l.take (decodeL l).2).length = (decodeL l).2 := by rw [List.length_take]; omega
        have hv := spoiltF_val n (l.drop (decodeL l).2) _ (by rw [List.length_drop]; omega) h
        have := Val.rune (x := l.take (decodeL l).2) (r := (decodeL l).1) (fun e => by rw [e] at htk; simp at htk; omega) (by rw [htk]; exact hr) (fun y => by rw [htk, decodeL_self hl hr y]) hv
        rwa [List.take_append_drop] at this
theorem val_spoiltF {l : Bs} (h : Val l) : ∀ (n k : Nat), l.length ≤ n → spoiltF n l k = none := by
  induction h with
  | nil => intro n k _; cases n <;> simp [spoiltF]
  | @rune x l r hx hr hd _ ih =>
    intro n k hn
    cases n with
    | zero =>
      have := List.length_pos_iff.2 hx
      rw [List.length_append] at hn
      omega
    | succ n =>
      have hxl := List.length_pos_iff.2 hx
      unfold spoiltF
      rw [if_neg (by simp [hx]), hd l, if_neg hr]
      dsimp only
      rw [List.drop_append_of_le_length (Nat.le_refl _), List.drop_of_length_le (Nat.le_refl _), List.nil_append]
      exact ih n _ (by rw [List.length_append] at hn; omega)
theorem spoilt_none {l : Bs} : spoilt l = none ↔ Val l := ⟨spoiltF_val _ _ _ (Nat.le_refl _), fun h => val_spoiltF h _ _ (Nat.le_refl _)⟩
/-- What is spoilt behind a text of runes. -/
theorem spoiltF_app {a b : Bs} (ha : Val a) : ∀ (n k : Nat), (a ++ b).length ≤ n → spoiltF n (a ++ b) k = spoiltF b.length b (k + a.length) := by
  have fuel : ∀ (m n : Nat) (l : Bs) (k : Nat), l.length ≤ m → l.length ≤ n → spoiltF m l k = spoiltF n l k := by
    intro m
    induction m with
    | zero =>
      intro n l k h1 h2
      obtain rfl : l = [] := List.eq_nil_of_length_eq_zero (by omega)
      cases n <;> simp [spoiltF]
    | succ m ih =>
      intro n l k h1 h2
      by_cases hl : l = []
      · subst hl; cases n <;> simp [spoiltF]
      · have hlp := List.length_pos_iff.2 hl
        cases n with
        | zero => omega
        | succ n =>
          unfold spoiltF
          rw [if_neg hl, if_neg hl]
          split
          · rfl
          · have := decodeL_len hl
            exact ih n _ _ (by rw [List.length_drop]; omega) (by rw [List.length_drop]; omega)
  induction ha with
  | nil =>
    intro n k hn
    rw [List.nil_append] at hn ⊢
    exact fuel _ _ _ _ hn (Nat.le_refl _)
  | @rune x l r hx hr hd _ ih =>
    intro n k hn
    have hxl := List.length_pos_iff.2 hx
    cases n with
    | zero => simp only [List.length_append] at hn; omega
    | succ n =>
      conv => lhs; unfold spoiltF
      rw [if_neg (by simp [hx]), List.append_assoc, hd (l ++ b), if_neg hr]
      dsimp only
      rw [List.drop_append_of_le_length (Nat.le_refl _), List.drop_of_length_le (Nat.le_refl _), List.nil_append]
      rw [ih n (k + x.length) (by simp only [List.length_append] at hn ⊢; omega), List.length_append, Nat.add_assoc]
/-- Places over what is put together. -/
theorem movedF_fuel : ∀ (m n : Nat) (l : Bs) (p : Pl), l.length ≤ m → l.length ≤ n → movedF m p l = movedF n p l := by
  intro m
  induction m with
  | zero =>
    intro n l p h1 h2
    obtain rfl : l = [] := List.eq_nil_of_length_eq_zero (by omega)
    cases n <;> simp [movedF]
  | succ m ih =>
    intro n l p h1 h2
    by_cases hl : l = []
    · subst hl; cases n <;> simp [movedF]
    · have hlp := List.length_pos_iff.2 hl
      cases n with
      | zero => omega
      | succ n =>
        unfold movedF
        rw [if_neg hl, if_neg hl]
        have := decodeL_len hl
        exact ih n _ _ (by rw [List.length_drop]; omega) (by rw [List.length_drop]; omega)
theorem moved_rune {x l : Bs} {r : Nat} (hx : x ≠ []) (hd : ∀ y, decodeL (x ++ y) = (r, x.length)) (p : Pl) : moved p (x ++ l) = moved (stepP p r) l := by
  have hxl := List.length_pos_iff.2 hx
  unfold moved
  rw [movedF_fuel (x ++ l).length (l.length + x.length) (x ++ l) p (Nat.le_refl _) (by rw [List.length_append]; omega)]
  obtain ⟨j, hj⟩ : ∃ j, l.length + x.length = j + 1 := ⟨l.length + x.length - 1, by omega⟩
  rw [hj]
  conv => lhs; unfold movedF
  rw [if_neg (by simp [hx]), hd l]
  dsimp only
  rw [List.drop_append_of_le_length (Nat.le_refl _), List.drop_of_length_le (Nat.le_refl _), List.nil_append]
  exact movedF_fuel _ _ _ _ (by omega) (Nat.le_refl _)
theorem moved_app {a : Bs} (ha : Val a) : ∀ (b : Bs) (p : Pl), moved p (a ++ b) = moved (moved p a) b := by
  induction ha with
  | nil => intro b p; rfl
  | @rune x l r hx hr hd _ ih =>
    intro b p
    rw [List.append_assoc, moved_rune hx hd, ih, moved_rune hx hd]
theorem moved_one {b : UInt8} (hb : b.toNat < 128) (p : Pl) : moved p [b] = stepP p b.toNat := by
  have := moved_rune (x := [b]) (l := []) (r := b.toNat) (by simp) (fun y => decodeL_ascii hb) p
  rw [List.append_nil] at this
  rw [this]
  rfl
end Go.Proofs.YteplbbjmbhgllaaGreatDoor.Lx

namespace Go.Proofs.YteplbbjmbhgllaaGreatDoor.Lx
open Go.Lib
set_option linter.unusedVariables false
set_option linter.unusedSimpArgs false

theorem Val.asciis : ∀ {t y : Bs}, (∀ b ∈ t, b.toNat < 128) → Val (t ++ y) → Val t ∧ Val y
  | [], y, _, h => ⟨.nil, h⟩
  | b :: t, y, hb, h => by
    have h0 := hb b (by simp)
    obtain ⟨h1, h2⟩ := Val.asciis (t := t) (fun c hc => hb c (by simp [hc])) (Val.tail h0 h)
    exact ⟨.ascii h0 h1, h2⟩
theorem Val.split {l : Bs} (hl : l ≠ []) (h : Val l) : Val (l.take (decodeL l).2) ∧ Val (l.drop (decodeL l).2) := by
  cases h with
  | nil => exact absurd rfl hl
  | @rune x l' r hx hr hd h =>
    rw [hd l']
    dsimp only
    rw [List.take_append_of_le_length (Nat.le_refl _), List.take_of_length_le (Nat.le_refl _), List.drop_append_of_le_length (Nat.le_refl _), List.drop_of_length_le (Nat.le_refl _), List.nil_append]
    refine ⟨?_, h⟩
    have := Val.rune (l := []) hx hr hd .nil
    rwa [List.append_nil] at this
theorem hexV_lt {c d : Nat} (h : hexV c = some d) : c < 128 ∧ d < 16 := by
  unfold hexV at h
  split at h
  · injection h with h; omega
  · split at h
    · injection h with h; omega
    · split at h
      · injection h with h; omega
      · cases h
theorem escL_ascii {l : Bs} {c k : Nat} (h : escL l = some (c, k)) : ∀ b ∈ l.take k, b.toNat < 128 := by
  unfold escL at h
  cases l with
  | nil => cases h
  | cons b r =>
    dsimp only at h
    have one : ∀ {k : Nat}, k = 1 → b.toNat < 128 → ∀ x ∈ (b :: r).take k, x.toNat < 128 := by
      intro k hk hb x hx
      subst hk
      simp at hx
      rw [hx]; exact hb
    by_cases c1 : b.toNat = 110
    · rw [if_pos c1] at h; injection h with h; injection h with _ h; exact one h.symm (by omega)
    · rw [if_neg c1] at h
      by_cases c2 : b.toNat = 116
      · rw [if_pos c2] at h; injection h with h; injection h with _ h; exact one h.symm (by omega)
      · rw [if_neg c2] at h
        by_cases c3 : b.toNat = 114
        · rw [if_pos c3] at h; injection h with h; injection h with _ h; exact one h.symm (by omega)
        · rw [if_neg c3] at h
          by_cases c4 : b.toNat = 48
          · rw [if_pos c4] at h; injection h with h; injection h with _ h; exact one h.symm (by omega)
          · rw [if_neg c4] at h
            by_cases c5 : b.toNat = 92 ∨ b.toNat = 39 ∨ b.toNat = 34
            · rw [if_pos c5] at h; injection h with h; injection h with _ h; exact one h.symm (by omega)
            · rw [if_neg c5] at h
              by_cases c6 : b.toNat = 120
              · rw [if_pos c6] at h
                match r, h with
                | [], h => cases h
                | [_], h => cases h
                | c' :: d' :: r', h =>
                  dsimp only at h
                  cases hc : hexV c'.toNat with
                  | none => rw [hc] at h; cases h
                  | some x =>
                    cases hd : hexV d'.toNat with
                    | none => rw [hc, hd] at h; cases h
                    | some y =>
                      rw [hc, hd] at h
                      injection h with h
                      injection h with _ h
                      subst h
                      intro z hz
                      simp at hz
                      rcases hz with rfl | rfl | rfl
                      · omega
                      · exact (hexV_lt hc).1
                      · exact (hexV_lt hd).1
              · rw [if_neg c6] at h; cases h
theorem quoF_val {q : Nat} (hq : q < 128) : ∀ {f : Nat} {l data : Bs} {n last : Nat} {o : Quo}, quoF q f l data n last = some o → Val l → ∃ t : Bs, l = t ++ o.rest ∧ Val t ∧ Val o.rest
  | 0, l, data, n, last, o, h, _ => by simp [quoF] at h
  | f + 1, [], data, n, last, o, h, _ => by simp [quoF] at h
  | f + 1, b :: r, data, n, last, o, h, hv => by
    unfold quoF at h
    dsimp only at h
    by_cases h1 : b.toNat = q
    · rw [if_pos h1] at h
      injection h with h
      subst h
      exact ⟨[b], rfl, .ascii (by omega) .nil, Val.tail (by omega) hv⟩
    · rw [if_neg h1] at h
      by_cases h2 : b.toNat = 10
      · rw [if_pos h2] at h; cases h
      · rw [if_neg h2] at h
        by_cases h3 : b.toNat = 92
        · rw [if_pos h3] at h
          cases he : escL r with
          | none => rw [he] at h; cases h
          | some ck =>
            obtain ⟨c, k⟩ := ck
            rw [he] at h
            dsimp only at h
            have hvr := Val.tail (by omega) hv
            rw [← List.take_append_drop k r] at hvr
            obtain ⟨v1, v2⟩ := Val.asciis (escL_ascii he) hvr
            obtain ⟨t, h4, h5, h6⟩ := quoF_val hq h v2
            exact ⟨b :: (r.take k ++ t), by rw [List.cons_append, List.append_assoc, ← h4, List.take_append_drop], .ascii (by omega) (v1.app h5), h6⟩
        · rw [if_neg h3] at h
          obtain ⟨v1, v2⟩ := hv.split (by simp)
          obtain ⟨t, h4, h5, h6⟩ := quoF_val hq h v2
          exact ⟨(b :: r).take (decodeL (b :: r)).2 ++ t, by rw [List.append_assoc, ← h4, List.take_append_drop], v1.app h5, h6⟩
theorem signs_ascii : (∀ s ∈ signs3, ∀ b ∈ s, b.toNat < 128) ∧ (∀ s ∈ signs2, ∀ b ∈ s, b.toNat < 128) ∧ ∀ b ∈ signs1, b.toNat < 128 := by decide +kernel
theorem signL_ascii {l : Bs} {k : Nat} (h : signL l = some k) : ∀ b ∈ l.take k, b.toNat < 128 := by
  unfold signL at h
  by_cases h1 : 3 ≤ l.length ∧ l.take 3 ∈ signs3
  · rw [if_pos h1] at h; injection h with h; subst h; exact signs_ascii.1 _ h1.2
  · rw [if_neg h1] at h
    by_cases h2 : 2 ≤ l.length ∧ l.take 2 ∈ signs2
    · rw [if_pos h2] at h; injection h with h; subst h; exact signs_ascii.2.1 _ h2.2
    · rw [if_neg h2] at h
      cases l with
      | nil => cases h
      | cons b r =>
        dsimp only at h
        by_cases h3 : b ∈ signs1
        · rw [if_pos h3] at h; injection h with h; subst h
          intro c hc
          simp at hc
          subst hc
          exact signs_ascii.2.2 _ h3
        · rw [if_neg h3] at h; cases h
theorem span_ascii {p : Nat → Bool} (hp : ∀ c, p c = true → c < 128) {l : Bs} {n : Nat} (hn : n = (spanL p l).length) : ∀ b ∈ l.take n, b.toNat < 128 := by
  have e : l.take n = spanL p l := by
    rw [hn]
    exact (List.prefix_iff_eq_take.1 (List.takeWhile_prefix (p := fun b : UInt8 => p b.toNat) (l := l))).symm
  rw [e]
  intro b hb
  exact hp _ (mem_tw hb)
theorem let_ascii {c : Nat} (h : (isLet c || isDig c || decide (c = 46)) = true) : c < 128 := by
  unfold isLet isDig at h
  simp at h
  omega
/-- A TOKEN'S TEXT, and what stands behind it. -/
theorem tokenL_val {fl : Bs → Nat → Option Nat} {l : Bs} {t : TokB} (h : tokenL fl l = .ok t) (hv : Val l) : Val (l.take t.len) ∧ Val (l.drop t.len) := by
  have fin : (∀ b ∈ l.take t.len, b.toNat < 128) → Val (l.take t.len) ∧ Val (l.drop t.len) := fun ha => Val.asciis ha (by rw [List.take_append_drop]; exact hv)
  have quo : ∀ (b : UInt8) (r : Bs) (q : Nat) (o : Quo), l = b :: r → b.toNat < 128 → q < 128 → quoF q l.length r [] 0 0 = some o → t.len = l.length - o.rest.length → Val (l.take t.len) ∧ Val (l.drop t.len) := by
    intro b r q o hl hb hq ho ht
    subst hl
    obtain ⟨s, e1, v1, v2⟩ := quoF_val hq ho (Val.tail hb hv)
    have hlen : t.len = (b :: s).length := by
      have := congrArg List.length e1
      simp only [List.length_append, List.length_cons] at this ht ⊢
      omega
    have e2 : b :: r = (b :: s) ++ o.rest := by rw [e1]; rfl
    rw [e2, hlen, List.take_append_of_le_length (Nat.le_refl _), List.take_of_length_le (Nat.le_refl _), List.drop_append_of_le_length (Nat.le_refl _), List.drop_of_length_le (Nat.le_refl _), List.nil_append]
    exact ⟨.ascii hb v1, v2⟩
  cases l with
  | nil => cases h
  | cons b r =>
    unfold tokenL at h
    dsimp only at h
    by_cases h1 : isLet b.toNat = true
    · rw [if_pos h1] at h
      split at h
      · cases h
      · injection h with h
        exact fin (span_ascii (p := fun c => isLet c || isDig c) (fun c hc => let_ascii (by simp only [hc, Bool.true_or])) (by rw [← h]))
    · rw [if_neg h1] at h
      by_cases h2 : isDig b.toNat = true
      · rw [if_pos h2] at h
        have key : t.len = (spanL (fun c => isLet c || isDig c || decide (c = 46)) (b :: r)).length := by
          split at h
          · injection h with h; rw [← h]
          · split at h
            · cases h
            · split at h
              · injection h with h; rw [← h]
              · cases h
        exact fin (span_ascii (fun c hc => let_ascii hc) key)
      · rw [if_neg h2] at h
        by_cases h3 : b.toNat = 39
        · rw [if_pos h3] at h
          split at h
          · rename_i o ho
            split at h
            · injection h with h; exact quo b r 39 o rfl (by omega) (by omega) ho (by rw [← h])
            · cases h
          · cases h
        · rw [if_neg h3] at h
          by_cases h4 : b.toNat = 34
          · rw [if_pos h4] at h
            split at h
            · rename_i o ho
              injection h with h; exact quo b r 34 o rfl (by omega) (by omega) ho (by rw [← h])
            · cases h
          · rw [if_neg h4] at h
            split at h
            · rename_i k hk
              injection h with h
              exact fin (by rw [← h]; exact signL_ascii hk)
            · cases h
theorem blank_ascii {c : Nat} (h : isBlank c = true) : c < 128 := by have := blank_cases h; omega
theorem toks_spacedV {fl : Bs → Nat → Option Nat} {l : Bs} {p : Pl} {ts : List Tok} (h : Toks fl l p ts) : Val l → Val (spaced ts) := by
  induction h with
  | nil p => intro _; rw [spaced_cons]; exact .ascii (by decide) .nil
  | blank hb _ ih => intro hv; exact ih (Val.tail (blank_ascii hb) hv)
  | tok hb ht _ ih =>
    intro hv
    obtain ⟨v1, v2⟩ := tokenL_val ht hv
    rw [spaced_cons]
    exact v1.app (.ascii (by decide) (ih v2))
/-- Where the tokens of a text end in an error. -/
inductive TokE (fl : Bs → Nat → Option Nat) : Bs → Pl → Nat × Pl → Prop
  | err {l : Bs} {p : Pl} {e : Nat} (hl : l ≠ []) (hb : ∀ b r, l = b :: r → isBlank b.toNat = false) (ht : tokenL fl l = .error e) : TokE fl l p (e, p)
  | blank {b : UInt8} {r : Bs} {p : Pl} {x : Nat × Pl} (hb : isBlank b.toNat = true) (h : TokE fl r (stepP p b.toNat) x) : TokE fl (b :: r) p x
  | tok {l : Bs} {p : Pl} {t : TokB} {x : Nat × Pl} (hb : ∀ b r, l = b :: r → isBlank b.toNat = false) (ht : tokenL fl l = .ok t) (h : TokE fl (l.drop t.len) (moved p (l.take t.len)) x) : TokE fl l p x
theorem tokensF_tokE {fl : Bs → Nat → Option Nat} : ∀ (n : Nat) (l : Bs) (p : Pl) (acc : List Tok) (x : Nat × Pl), l.length ≤ n → tokensF fl n l p acc = .error x → TokE fl l p x
  | 0, l, p, acc, x, hn, h => by unfold tokensF at h; cases h
  | n + 1, [], p, acc, x, hn, h => by unfold tokensF at h; cases h
  | n + 1, b :: r, p, acc, x, hn, h => by
    unfold tokensF at h
    dsimp only at h
    by_cases hb : isBlank b.toNat = true
    · rw [if_pos hb] at h
      exact .blank hb (tokensF_tokE n r _ acc x (by simpa using hn) h)
    · rw [if_neg hb] at h
      have hb' : ∀ b' r', b :: r = b' :: r' → isBlank b'.toNat = false := fun b' r' e => by injection e with e1 e2; subst e1; simpa using hb
      cases ht : tokenL fl (b :: r) with
      | error e' => rw [ht] at h; injection h with h; subst h; exact .err (by simp) hb' ht
      | ok t =>
        rw [ht] at h
        have hl := tokenL_len ht
        exact .tok hb' ht (tokensF_tokE n _ _ _ x (by simp only [List.length_drop]; simp only [List.length_cons] at hn hl ⊢; omega) h)
theorem tokE_tokensF {fl : Bs → Nat → Option Nat} {l : Bs} {p : Pl} {x : Nat × Pl} (h : TokE fl l p x) : ∀ (n : Nat) (acc : List Tok), l.length ≤ n → tokensF fl n l p acc = .error x := by
  induction h with
  | @err l p e hl hb ht =>
    intro n acc hn
    cases l with
    | nil => exact absurd rfl hl
    | cons b r =>
      cases n with
      | zero => simp at hn
      | succ n =>
        unfold tokensF
        dsimp only
        rw [if_neg (by rw [hb b r rfl]; simp), ht]
  | @blank b r p x hb _ ih =>
    intro n acc hn
    cases n with
    | zero => simp at hn
    | succ n =>
      unfold tokensF
      dsimp only
      rw [if_pos hb]
      exact ih n acc (by simpa using hn)
  | @tok l p t x hb ht _ ih =>
    intro n acc hn
    have hl := tokenL_len ht
    cases l with
    | nil => simp at hl; omega
    | cons b r =>
      cases n with
      | zero => simp at hn
      | succ n =>
        unfold tokensF
        dsimp only
        rw [if_neg (by rw [hb b r rfl]; simp), ht]
        exact ih n _ (by simp only [List.length_drop]; simp only [List.length_cons] at hn hl ⊢; omega)
end Go.Proofs.YteplbbjmbhgllaaGreatDoor.Lx
