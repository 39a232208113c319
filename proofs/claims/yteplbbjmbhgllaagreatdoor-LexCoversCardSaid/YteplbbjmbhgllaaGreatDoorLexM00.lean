/-
  What the lexer answers: the tokens of a text, over its bytes. No program in sight.
  The tokens of a text, as a relation; what a token takes. No program in sight.
  A token reads no further than its end, where a blank or nothing stands behind it. No program in sight.
-/
import Derived.Lib.SpaceU
import Derived.Lib.ValidU
import Derived.Lib.DecodeN
namespace Go.Proofs.YteplbbjmbhgllaaGreatDoor.Lx
open Go.Lib
set_option linter.unusedVariables false
set_option linter.unusedSimpArgs false

abbrev Bs := List UInt8
def isDig (c : Nat) : Bool := decide (48 ≤ c) && decide (c ≤ 57)
def isLet (c : Nat) : Bool := (decide (97 ≤ c) && decide (c ≤ 122)) || (decide (65 ≤ c) && decide (c ≤ 90)) || decide (c = 95)
def isBlank (c : Nat) : Bool := decide (c = 32) || decide (c = 9) || decide (c = 13) || decide (c = 10)
/-- A text from a row of numbers. -/
def bs (l : List Nat) : Bs := l.map UInt8.ofNat
def ofS (s : String) : Bs := s.toUTF8.toList
/-- A place: line, column. -/
abbrev Pl := Int × Int
def stepP (p : Pl) (r : Nat) : Pl := if r = 10 then (p.1 + 1, 1) else (p.1, p.2 + 1)
/-- The place behind a text's runes. -/
def movedF : Nat → Pl → Bs → Pl
  | 0, p, _ => p
  | n + 1, p, l => if l = [] then p else movedF n (stepP p (decodeL l).1) (l.drop (decodeL l).2)
def moved (p : Pl) (l : Bs) : Pl := movedF l.length p l
/-- The number of bytes ahead of the first that are no rune; none: all are. -/
def spoiltF : Nat → Bs → Nat → Option Nat
  | 0, _, _ => none
  | n + 1, l, k => if l = [] then none else if (decodeL l).1 = 65533 ∧ (decodeL l).2 = 1 then some k else spoiltF n (l.drop (decodeL l).2) (k + (decodeL l).2)
def spoilt (l : Bs) : Option Nat := spoiltF l.length l 0
/-- A digit of sixteen. -/
def hexV (c : Nat) : Option Nat :=
  if 48 ≤ c ∧ c ≤ 57 then some (c - 48) else if 97 ≤ c ∧ c ≤ 102 then some (c - 87) else if 65 ≤ c ∧ c ≤ 70 then some (c - 55) else none
/-- Digits to a base, below 2^64; acc: what stands ahead. -/
def numB (base : Nat) : Nat → Bs → Option Nat
  | acc, [] => some acc
  | acc, b :: l => match hexV b.toNat with
    | none => none
    | some d => if d < base ∧ acc * base + d < 18446744073709551616 then numB base (acc * base + d) l else none
def isTail (b : UInt8) : Bool := b.toNat == 117 || b.toNat == 85 || b.toNat == 108 || b.toNat == 76
def isU (b : UInt8) : Bool := b.toNat == 117 || b.toNat == 85
/-- A whole number's value. -/
def wholeL (s : Bs) : Option Nat :=
  let tail := (s.reverse.takeWhile isTail)
  let body := (s.reverse.dropWhile isTail).reverse
  if 1 < (tail.filter isU).length ∨ 1 < (tail.filter fun b => !isU b).length then none
  else match body with
    | [] => none
    | [b] => numB 10 0 [b]
    | b :: c :: r =>
      if b.toNat = 48 then
        if c.toNat = 120 ∨ c.toNat = 88 then (if r = [] then none else numB 16 0 r) else numB 8 0 (c :: r)
      else numB 10 0 body
/-- The longest sign that begins here: how many bytes. -/
def signs3 : List Bs := [ofS "<<=", ofS ">>="]
def signs2 : List Bs := [ofS "++", ofS "--", ofS "->", ofS "<<", ofS ">>", ofS "<=", ofS ">=", ofS "==", ofS "!=", ofS "&&", ofS "||", ofS "+=", ofS "-=", ofS "*=", ofS "/=", ofS "%=", ofS "&=", ofS "|=", ofS "^="]
def signs1 : Bs := ofS "+-*/%&|^~!<>=?:;,.()[]{}"
def signL (l : Bs) : Option Nat :=
  if 3 ≤ l.length ∧ l.take 3 ∈ signs3 then some 3 else if 2 ≤ l.length ∧ l.take 2 ∈ signs2 then some 2 else match l with
    | b :: _ => if b ∈ signs1 then some 1 else none
    | [] => none
def words : List Bs := [ofS "break", ofS "case", ofS "char", ofS "continue", ofS "default", ofS "do", ofS "double", ofS "else", ofS "extern", ofS "for", ofS "goto", ofS "if", ofS "int", ofS "long", ofS "return", ofS "short", ofS "signed", ofS "sizeof", ofS "struct", ofS "switch", ofS "union", ofS "unsigned", ofS "void", ofS "while"]
/-- What stands behind a backslash: the byte, how many bytes it takes. -/
def escL (l : Bs) : Option (Nat × Nat) := match l with
  | [] => none
  | b :: r =>
    if b.toNat = 110 then some (10, 1) else if b.toNat = 116 then some (9, 1) else if b.toNat = 114 then some (13, 1) else if b.toNat = 48 then some (0, 1)
    else if b.toNat = 92 ∨ b.toNat = 39 ∨ b.toNat = 34 then some (b.toNat, 1)
    else if b.toNat = 120 then match r with
      | c :: d :: _ => match hexV c.toNat, hexV d.toNat with
        | some x, some y => some (x * 16 + y, 3)
        | _, _ => none
      | _ => none
    else none
/-- What stands in quotes, behind the first: the bytes, how many runes or escapes, the last one's number, what is left behind the last quote. -/
structure Quo where
  data : Bs
  n : Nat
  last : Nat
  rest : Bs
def quoF (q : Nat) : Nat → Bs → Bs → Nat → Nat → Option Quo
  | 0, _, _, _, _ => none
  | f + 1, l, data, n, last => match l with
    | [] => none
    | b :: r =>
      if b.toNat = q then some ⟨data, n, last, r⟩
      else if b.toNat = 10 then none
      else if b.toNat = 92 then match escL r with
        | none => none
        | some (c, k) => quoF q f (r.drop k) (data ++ [UInt8.ofNat c]) (n + 1) c
      else quoF q f (l.drop (decodeL l).2) (data ++ l.take (decodeL l).2) (n + 1) (decodeL l).1
/-- A token's kind, length, number and bytes; its error's number. -/
structure TokB where
  kind : Nat
  len : Nat
  bits : Nat
  data : Bs
def spanL (p : Nat → Bool) (l : Bs) : Bs := l.takeWhile fun b => p b.toNat
/-- fl: what Float answers (a double's bits). -/
def tokenL (fl : Bs → Nat → Option Nat) (l : Bs) : Except Nat TokB := match l with
  | [] => .error 2
  | b :: r =>
    if isLet b.toNat then
      let t := spanL (fun c => isLet c || isDig c) l
      if 64 < t.length then .error 7 else .ok ⟨if t ∈ words then 2 else 1, t.length, 0, []⟩
    else if isDig b.toNat then
      let t := spanL (fun c => isLet c || isDig c || decide (c = 46)) l
      match wholeL t with
      | some n => .ok ⟨3, t.length, n, []⟩
      | none =>
        let h := t.takeWhile fun c => decide (c.toNat ≠ 46)
        let d := (t.dropWhile fun c => decide (c.toNat ≠ 46)).drop 1
        if h.length = t.length ∨ h = [] ∨ d = [] then .error 2
        else match fl (h ++ d) d.length with
          | some n => .ok ⟨4, t.length, n, []⟩
          | none => .error 2
    else if b.toNat = 39 then match quoF 39 l.length r [] 0 0 with
      | some q => if q.n = 1 then .ok ⟨5, l.length - q.rest.length, q.last, []⟩ else .error 2
      | none => .error 2
    else if b.toNat = 34 then match quoF 34 l.length r [] 0 0 with
      | some q => .ok ⟨6, l.length - q.rest.length, 0, q.data⟩
      | none => .error 2
    else match signL l with
      | some k => .ok ⟨7, k, 0, []⟩
      | none => .error 2
structure Tok where
  kind : Nat
  at_ : Pl
  text : Bs
  bits : Nat
  data : Bs
/-- All. -/
def tokensF (fl : Bs → Nat → Option Nat) : Nat → Bs → Pl → List Tok → Except (Nat × Pl) (List Tok)
  | 0, _, p, acc => .ok (acc ++ [⟨8, p, [], 0, []⟩])
  | n + 1, l, p, acc => match l with
    | [] => .ok (acc ++ [⟨8, p, [], 0, []⟩])
    | b :: r =>
      if isBlank b.toNat then tokensF fl n r (stepP p b.toNat) acc
      else match tokenL fl l with
        | .error e => .error (e, p)
        | .ok t => tokensF fl n (l.drop t.len) (moved p (l.take t.len)) (acc ++ [⟨t.kind, p, l.take t.len, t.bits, t.data⟩])
def tokensL (fl : Bs → Nat → Option Nat) (l : Bs) : Except (Nat × Pl) (List Tok) :=
  if 1048576 < l.length then .error (1, (0, 0))
  else match spoilt l with
    | some k => .error (1, moved (1, 1) (l.take k))
    | none => tokensF fl l.length l (1, 1) []
end Go.Proofs.YteplbbjmbhgllaaGreatDoor.Lx

namespace Go.Proofs.YteplbbjmbhgllaaGreatDoor.Lx
open Go.Lib
set_option linter.unusedVariables false
set_option linter.unusedSimpArgs false

theorem spanL_le (p : Nat → Bool) (l : Bs) : (spanL p l).length ≤ l.length := by
  unfold spanL
  exact (List.takeWhile_prefix _).length_le
theorem spanL_pos {p : Nat → Bool} {b : UInt8} {r : Bs} (h : p b.toNat = true) : 0 < (spanL p (b :: r)).length := by
  unfold spanL
  rw [List.takeWhile_cons, if_pos h]
  simp
theorem quoF_rest : ∀ {q f : Nat} {l data : Bs} {n last : Nat} {o : Quo}, quoF q f l data n last = some o → o.rest.length < l.length
  | q, 0, l, data, n, last, o, h => by simp [quoF] at h
  | q, f + 1, [], data, n, last, o, h => by simp [quoF] at h
  | q, f + 1, b :: r, data, n, last, o, h => by
    unfold quoF at h
    dsimp only at h
    by_cases h1 : b.toNat = q
    · rw [if_pos h1] at h
      injection h with h
      subst h
      simp
    · rw [if_neg h1] at h
      by_cases h2 : b.toNat = 10
      · rw [if_pos h2] at h; cases h
      · rw [if_neg h2] at h
        by_cases h3 : b.toNat = 92
        · rw [if_pos h3] at h
          cases he : escL r with
          | none => rw [he] at h; cases h
          | some ck =>
            obtain ⟨c, k⟩ := ck
            rw [he] at h
            have := quoF_rest h
            simp only [List.length_drop, List.length_cons] at this ⊢
            omega
        · rw [if_neg h3] at h
          have := quoF_rest h
          simp only [List.length_drop] at this
          omega
theorem signL_len {l : Bs} {k : Nat} (h : signL l = some k) : 0 < k ∧ k ≤ l.length := by
  unfold signL at h
  by_cases h1 : 3 ≤ l.length ∧ l.take 3 ∈ signs3
  · rw [if_pos h1] at h; injection h with h; omega
  · rw [if_neg h1] at h
    by_cases h2 : 2 ≤ l.length ∧ l.take 2 ∈ signs2
    · rw [if_pos h2] at h; injection h with h; omega
    · rw [if_neg h2] at h
      cases l with
      | nil => cases h
      | cons b r =>
        dsimp only at h
        split at h
        · injection h with h; simp; omega
        · cases h
/-- What a token takes. -/
theorem tokenL_len {fl : Bs → Nat → Option Nat} {l : Bs} {t : TokB} (h : tokenL fl l = .ok t) : 0 < t.len ∧ t.len ≤ l.length := by
  cases l with
  | nil => cases h
  | cons b r =>
    unfold tokenL at h
    dsimp only at h
    by_cases h1 : isLet b.toNat = true
    · rw [if_pos h1] at h
      split at h
      · cases h
      · injection h with h
        subst h
        exact ⟨spanL_pos (by simp [h1]), spanL_le _ _⟩
    · rw [if_neg h1] at h
      by_cases h2 : isDig b.toNat = true
      · rw [if_pos h2] at h
        have key : 0 < (spanL (fun c => isLet c || isDig c || decide (c = 46)) (b :: r)).length ∧ (spanL (fun c => isLet c || isDig c || decide (c = 46)) (b :: r)).length ≤ (b :: r).length := ⟨spanL_pos (by simp [h2]), spanL_le _ _⟩
        split at h
        · injection h with h; subst h; exact key
        · split at h
          · cases h
          · split at h
            · injection h with h; subst h; exact key
            · cases h
      · rw [if_neg h2] at h
        by_cases h3 : b.toNat = 39
        · rw [if_pos h3] at h
          split at h
          · rename_i q hq
            have := quoF_rest hq
            split at h
            · injection h with h; subst h; simp only [List.length_cons] at *; omega
            · cases h
          · cases h
        · rw [if_neg h3] at h
          by_cases h4 : b.toNat = 34
          · rw [if_pos h4] at h
            split at h
            · rename_i q hq
              have := quoF_rest hq
              injection h with h; subst h; simp only [List.length_cons] at *; omega
            · cases h
          · rw [if_neg h4] at h
            split at h
            · rename_i k hk
              injection h with h; subst h
              exact signL_len hk
            · cases h
/-- The tokens of a text from a place on. -/
inductive Toks (fl : Bs → Nat → Option Nat) : Bs → Pl → List Tok → Prop
  | nil (p : Pl) : Toks fl [] p [⟨8, p, [], 0, []⟩]
  | blank {b : UInt8} {r : Bs} {p : Pl} {ts : List Tok} (hb : isBlank b.toNat = true) (h : Toks fl r (stepP p b.toNat) ts) : Toks fl (b :: r) p ts
  | tok {l : Bs} {p : Pl} {t : TokB} {ts : List Tok} (hb : ∀ b r, l = b :: r → isBlank b.toNat = false) (ht : tokenL fl l = .ok t) (h : Toks fl (l.drop t.len) (moved p (l.take t.len)) ts) : Toks fl l p (⟨t.kind, p, l.take t.len, t.bits, t.data⟩ :: ts)
theorem tokensF_toks {fl : Bs → Nat → Option Nat} : ∀ (n : Nat) (l : Bs) (p : Pl) (acc out : List Tok), l.length ≤ n → tokensF fl n l p acc = .ok out → ∃ ts, out = acc ++ ts ∧ Toks fl l p ts
  | 0, l, p, acc, out, hn, h => by
    obtain rfl : l = [] := List.eq_nil_of_length_eq_zero (by omega)
    unfold tokensF at h
    injection h with h
    exact ⟨_, h.symm, .nil p⟩
  | n + 1, [], p, acc, out, hn, h => by
    unfold tokensF at h
    injection h with h
    exact ⟨_, h.symm, .nil p⟩
  | n + 1, b :: r, p, acc, out, hn, h => by
    unfold tokensF at h
    dsimp only at h
    by_cases hb : isBlank b.toNat = true
    · rw [if_pos hb] at h
      obtain ⟨ts, h1, h2⟩ := tokensF_toks n r _ acc out (by simpa using hn) h
      exact ⟨ts, h1, .blank hb h2⟩
    · rw [if_neg hb] at h
      cases ht : tokenL fl (b :: r) with
      | error e => rw [ht] at h; cases h
      | ok t =>
        rw [ht] at h
        have hl := tokenL_len ht
        obtain ⟨ts, h1, h2⟩ := tokensF_toks n _ _ _ out (by simp only [List.length_drop]; simp only [List.length_cons] at hn hl ⊢; omega) h
        exact ⟨_, by rw [h1, List.append_assoc]; rfl, .tok (fun b' r' e => by injection e with e1 e2; subst e1; simpa using hb) ht h2⟩
theorem toks_tokensF {fl : Bs → Nat → Option Nat} {l : Bs} {p : Pl} {ts : List Tok} (h : Toks fl l p ts) : ∀ (n : Nat) (acc : List Tok), l.length ≤ n → tokensF fl n l p acc = .ok (acc ++ ts) := by
  induction h with
  | nil p => intro n acc _; cases n <;> rfl
  | @blank b r p ts hb _ ih =>
    intro n acc hn
    cases n with
    | zero => simp at hn
    | succ n =>
      unfold tokensF
      dsimp only
      rw [if_pos hb]
      exact ih n acc (by simpa using hn)
  | @tok l p t ts hb ht _ ih =>
    intro n acc hn
    have hl := tokenL_len ht
    cases l with
    | nil => simp at hl; omega
    | cons b r =>
      cases n with
      | zero => simp at hn
      | succ n =>
        unfold tokensF
        dsimp only
        rw [if_neg (by rw [hb b r rfl]; simp), ht]
        dsimp only
        rw [ih n _ (by simp only [List.length_drop]; simp only [List.length_cons] at hn hl ⊢; omega), List.append_assoc]
        rfl
theorem toks_uniq {fl : Bs → Nat → Option Nat} {l : Bs} {p : Pl} {ts us : List Tok} (h : Toks fl l p ts) (h2 : Toks fl l p us) : ts = us := by
  have e1 := toks_tokensF h l.length [] (Nat.le_refl _)
  have e2 := toks_tokensF h2 l.length [] (Nat.le_refl _)
  rw [e1] at e2
  injection e2 with e2
/-- Where an error is told, a line and a column stand. -/
theorem stepP_pos {p : Pl} {r : Nat} (h : 1 ≤ p.1 ∧ 1 ≤ p.2) : 1 ≤ (stepP p r).1 ∧ 1 ≤ (stepP p r).2 := by
  unfold stepP
  split
  · exact ⟨by dsimp only; omega, by dsimp only; omega⟩
  · exact ⟨h.1, by dsimp only; omega⟩
theorem movedF_pos : ∀ (n : Nat) (p : Pl) (l : Bs), (1 ≤ p.1 ∧ 1 ≤ p.2) → 1 ≤ (movedF n p l).1 ∧ 1 ≤ (movedF n p l).2
  | 0, p, l, h => h
  | n + 1, p, l, h => by
    unfold movedF
    split
    · exact h
    · exact movedF_pos n _ _ (stepP_pos h)
theorem moved_pos {p : Pl} {l : Bs} (h : 1 ≤ p.1 ∧ 1 ≤ p.2) : 1 ≤ (moved p l).1 ∧ 1 ≤ (moved p l).2 := movedF_pos _ _ _ h
theorem tokensF_err {fl : Bs → Nat → Option Nat} : ∀ (n : Nat) (l : Bs) (p : Pl) (acc : List Tok) (e : Nat) (q : Pl), (1 ≤ p.1 ∧ 1 ≤ p.2) → tokensF fl n l p acc = .error (e, q) → 1 ≤ q.1 ∧ 1 ≤ q.2
  | 0, l, p, acc, e, q, hp, h => by unfold tokensF at h; cases h
  | n + 1, [], p, acc, e, q, hp, h => by unfold tokensF at h; cases h
  | n + 1, b :: r, p, acc, e, q, hp, h => by
    unfold tokensF at h
    dsimp only at h
    by_cases hb : isBlank b.toNat = true
    · rw [if_pos hb] at h
      exact tokensF_err n r _ acc e q (stepP_pos hp) h
    · rw [if_neg hb] at h
      cases ht : tokenL fl (b :: r) with
      | error e' => rw [ht] at h; injection h with h; injection h with h1 h2; subst h2; exact hp
      | ok t => rw [ht] at h; exact tokensF_err n _ _ _ e q (moved_pos hp) h
end Go.Proofs.YteplbbjmbhgllaaGreatDoor.Lx

namespace Go.Proofs.YteplbbjmbhgllaaGreatDoor.Lx
open Go.Lib
set_option linter.unusedVariables false
set_option linter.unusedSimpArgs false

theorem decodeL_N (l : Bs) : decodeL l = decodeN l.length (l.getD 0 0).toNat (l.getD 1 0).toNat (l.getD 2 0).toNat (l.getD 3 0).toNat := by
  unfold decodeL
  rw [decode_at]
  have h : ∀ i, (⟨l.toArray⟩ : ByteArray).get! i = l.getD i 0 := fun i => by
    show l.toArray[i]! = _
    simp [Array.getElem!_eq_getD, List.getD_eq_getElem?_getD]
    rfl
  simp only [h]
  rfl
theorem decodeL_len {l : Bs} (h : l ≠ []) : 1 ≤ (decodeL l).2 ∧ (decodeL l).2 ≤ l.length := by
  have hl : 0 < l.length := List.length_pos_iff.2 h
  rw [decodeL_N]
  unfold decodeN
  repeat' split
  all_goals (dsimp only; omega)
theorem decodeL_ascii {b : UInt8} {r : Bs} (h : b.toNat < 128) : decodeL (b :: r) = (b.toNat, 1) := by
  rw [decodeL_N]
  unfold decodeN
  rw [if_pos (by simpa using h)]
  rfl
/-- What stands behind a byte of ASCII plays no part in what is decoded ahead of it. -/
theorem decodeL_cut {t y z : Bs} {j : Nat} (hj : 1 ≤ j) {c : UInt8} (hc : t[j]? = some c) (h : c.toNat < 128) : decodeL (t ++ y) = decodeL (t ++ z) := by
  have hjl : j < t.length := (List.getElem?_eq_some_iff.1 hc).1
  have g : ∀ (u : Bs) (i : Nat), i < t.length → (t ++ u).getD i 0 = t.getD i 0 := fun u i hi => by
    rw [List.getD_eq_getElem?_getD, List.getD_eq_getElem?_getD, List.getElem?_append_left hi]
  rw [decodeL_N, decodeL_N, List.length_append, List.length_append]
  have gj : t.getD j 0 = c := by rw [List.getD_eq_getElem?_getD, hc]; rfl
  rw [g y 0 (by omega), g z 0 (by omega), g y 1 (by omega), g z 1 (by omega)]
  have hn : c.toNat / 64 ≠ 2 := by omega
  by_cases j1 : j = 1
  · subst j1
    unfold decodeN
    rw [gj]
    simp only [hn, and_false, false_and, if_false]
  · by_cases j2 : j = 2
    · subst j2
      rw [g y 2 hjl, g z 2 hjl, gj]
      unfold decodeN
      simp only [hn, and_false, false_and, if_false]
      have e1 : (1 < t.length + y.length) = True := by simp; omega
      have e2 : (1 < t.length + z.length) = True := by simp; omega
      simp only [e1, e2]
    · rw [g y 2 (by omega), g z 2 (by omega)]
      have e1 : (1 < t.length + y.length) = True := by simp; omega
      have e2 : (1 < t.length + z.length) = True := by simp; omega
      have e3 : (2 < t.length + y.length) = True := by simp; omega
      have e4 : (2 < t.length + z.length) = True := by simp; omega
      by_cases j3 : j = 3
      · subst j3
        rw [g y 3 hjl, g z 3 hjl, gj]
        unfold decodeN
        simp only [hn, and_false, false_and, if_false, e1, e2, e3, e4]
      · rw [g y 3 (by omega), g z 3 (by omega)]
        have e5 : (3 < t.length + y.length) = True := by simp; omega
        have e6 : (3 < t.length + z.length) = True := by simp; omega
        unfold decodeN
        simp only [e1, e2, e3, e4, e5, e6]
theorem escL_len {l : Bs} {c k : Nat} (h : escL l = some (c, k)) : 1 ≤ k ∧ k ≤ l.length := by
  unfold escL at h
  cases l with
  | nil => cases h
  | cons b r =>
    dsimp only at h
    repeat' (split at h)
    all_goals first | (cases h; done) | (injection h with h; injection h with h1 h2; subst h2; simp; done) | (injection h with h; injection h with h1 h2; subst h2; simp; omega)
theorem escL_cut {t y z : Bs} {c k : Nat} (h : escL (t ++ y) = some (c, k)) (hk : k ≤ t.length) : escL (t ++ z) = some (c, k) := by
  have hk1 := (escL_len h).1
  match t, hk with
  | [], hk => simp at hk; omega
  | b :: t1, hk =>
    unfold escL at h ⊢
    simp only [List.cons_append] at h ⊢
    by_cases c1 : b.toNat = 110
    · rw [if_pos c1] at h ⊢; exact h
    · rw [if_neg c1] at h ⊢
      by_cases c2 : b.toNat = 116
      · rw [if_pos c2] at h ⊢; exact h
      · rw [if_neg c2] at h ⊢
        by_cases c3 : b.toNat = 114
        · rw [if_pos c3] at h ⊢; exact h
        · rw [if_neg c3] at h ⊢
          by_cases c4 : b.toNat = 48
          · rw [if_pos c4] at h ⊢; exact h
          · rw [if_neg c4] at h ⊢
            by_cases c5 : b.toNat = 92 ∨ b.toNat = 39 ∨ b.toNat = 34
            · rw [if_pos c5] at h ⊢; exact h
            · rw [if_neg c5] at h ⊢
              by_cases c6 : b.toNat = 120
              · rw [if_pos c6] at h ⊢
                have hk3 : k = 3 := by
                  split at h
                  · split at h
                    · injection h with h; injection h with h1 h2; exact h2.symm
                    · cases h
                  · cases h
                subst hk3
                match t1, hk with
                | [], hk => simp at hk
                | [_], hk => simp at hk
                | c :: d :: t2, hk => exact h
              · rw [if_neg c6] at h; cases h
/-- What stands behind the last quote plays no part. -/
theorem quoF_cut {q : Nat} (hq : q < 128) : ∀ {f : Nat} {l data : Bs} {n last : Nat} {o : Quo}, quoF q f l data n last = some o →
    ∃ t : Bs, l = t ++ o.rest ∧ (∃ s c, t = s ++ [c] ∧ c.toNat = q) ∧ ∀ (z : Bs) (f' : Nat), (t ++ z).length ≤ f' → quoF q f' (t ++ z) data n last = some ⟨o.data, o.n, o.last, z⟩
  | 0, l, data, n, last, o, h => by simp [quoF] at h
  | f + 1, [], data, n, last, o, h => by simp [quoF] at h
  | f + 1, b :: r, data, n, last, o, h => by
    unfold quoF at h
    dsimp only at h
    by_cases h1 : b.toNat = q
    · rw [if_pos h1] at h
      injection h with h
      subst h
      refine ⟨[b], rfl, ⟨[], b, rfl, h1⟩, fun z f' hf => ?_⟩
      cases f' with
      | zero => simp at hf
      | succ f' =>
        unfold quoF
        simp only [List.cons_append, List.nil_append]
        rw [if_pos h1]
    · rw [if_neg h1] at h
      by_cases h2 : b.toNat = 10
      · rw [if_pos h2] at h; cases h
      · rw [if_neg h2] at h
        by_cases h3 : b.toNat = 92
        · rw [if_pos h3] at h
          cases he : escL r with
          | none => rw [he] at h; cases h
          | some ck =>
            obtain ⟨c, k⟩ := ck
            rw [he] at h
            dsimp only at h
            obtain ⟨t, h4, ⟨s, cc, h5, h6⟩, h7⟩ := quoF_cut hq h
            have hkl := escL_len he
            have er : r = (r.take k ++ t) ++ o.rest := by rw [List.append_assoc, ← h4, List.take_append_drop]
            have htk : (r.take k).length = k := by rw [List.length_take]; omega
            refine ⟨b :: (r.take k ++ t), by rw [List.cons_append, ← er], ⟨b :: (r.take k ++ s), cc, by rw [h5]; simp, h6⟩, fun z f' hf => ?_⟩
            cases f' with
            | zero => simp at hf
            | succ f' =>
              unfold quoF
              simp only [List.cons_append]
              rw [if_neg h1, if_neg h2, if_pos h3]
              have he2 : escL ((r.take k ++ t) ++ z) = some (c, k) := escL_cut (y := o.rest) (by rw [← er]; exact he) (by rw [List.length_append]; omega)
              rw [he2]
              dsimp only
              have hd : ((r.take k ++ t) ++ z).drop k = t ++ z := by
                rw [List.append_assoc, List.drop_append_of_le_length (by omega), List.drop_of_length_le (by omega), List.nil_append]
              rw [hd]
              exact h7 z f' (by simp only [List.length_append, List.length_cons, htk] at hf ⊢; omega)
        · rw [if_neg h3] at h
          obtain ⟨t, h4, ⟨s, cc, h5, h6⟩, h7⟩ := quoF_cut hq h
          have hdl := decodeL_len (l := b :: r) (by simp)
          obtain ⟨k, hk⟩ : ∃ k, k = (decodeL (b :: r)).2 := ⟨_, rfl⟩
          rw [← hk] at h4 hdl h
          have el : (b :: r) = ((b :: r).take k ++ t) ++ o.rest := by rw [List.append_assoc, ← h4, List.take_append_drop]
          have htk : ((b :: r).take k).length = k := by rw [List.length_take]; omega
          have hne : (b :: r).take k = b :: r.take (k - 1) := by
            cases k with
            | zero => omega
            | succ k => simp
          refine ⟨(b :: r).take k ++ t, el, ⟨(b :: r).take k ++ s, cc, by rw [h5]; simp, h6⟩, fun z f' hf => ?_⟩
          have hdec : decodeL (((b :: r).take k ++ t) ++ z) = decodeL (b :: r) := by
            conv => rhs; rw [el]
            refine decodeL_cut (j := k + s.length) (by omega) (c := cc) ?_ (by omega)
            rw [List.getElem?_append_right (by omega), htk, h5, List.getElem?_append_right (by omega)]
            simp
          cases f' with
          | zero => simp at hf; omega
          | succ f' =>
            have htake : (((b :: r).take k ++ t) ++ z).take k = (b :: r).take k := by
              rw [List.append_assoc, List.take_append_of_le_length (by omega), List.take_of_length_le (by omega)]
            have hdrop : (((b :: r).take k ++ t) ++ z).drop k = t ++ z := by
              rw [List.append_assoc, List.drop_append_of_le_length (by omega), List.drop_of_length_le (by omega), List.nil_append]
            have hcons : ((b :: r).take k ++ t) ++ z = b :: ((r.take (k - 1) ++ t) ++ z) := by rw [hne]; simp
            rw [hcons] at htake hdrop hdec ⊢
            unfold quoF
            dsimp only
            rw [if_neg h1, if_neg h2, if_neg h3, hdec, ← hk, htake, hdrop]
            have h8 := h7 z f' (by
              simp only [List.length_append, htk] at hf ⊢
              omega)
            rw [← hk] at h8
            exact h8

theorem mem_tw {p : UInt8 → Bool} : ∀ {l : Bs} {b : UInt8}, b ∈ l.takeWhile p → p b = true
  | [], b, h => by simp at h
  | c :: l, b, h => by
    rw [List.takeWhile_cons] at h
    by_cases hc : p c = true
    · rw [if_pos hc] at h
      rcases List.mem_cons.1 h with rfl | h
      · exact hc
      · exact mem_tw h
    · rw [if_neg hc] at h; cases h
/-- Nothing, or a blank ahead. -/
def Stops (z : Bs) : Prop := z = [] ∨ ∃ b r, z = b :: r ∧ isBlank b.toNat = true
theorem span_cut {p : Nat → Bool} (hp : ∀ c, isBlank c = true → p c = false) {t y z : Bs} (h : (spanL p (t ++ y)).length = t.length) (hz : Stops z) : spanL p (t ++ y) = t ∧ spanL p (t ++ z) = t := by
  have h1 : spanL p (t ++ y) = t := by
    have hpre : spanL p (t ++ y) <+: t ++ y := List.takeWhile_prefix _
    exact (List.prefix_of_prefix_length_le hpre (List.prefix_append t y) (by omega)).eq_of_length h
  have hall : ∀ b ∈ t, p b.toNat = true := fun b hb => by
    rw [← h1] at hb
    unfold spanL at hb
    exact mem_tw hb
  refine ⟨h1, ?_⟩
  unfold spanL
  rw [List.takeWhile_append_of_pos (fun b hb => hall b hb)]
  rcases hz with rfl | ⟨b, r, rfl, hb⟩
  · simp
  · rw [List.takeWhile_cons, if_neg (by rw [hp _ hb]; simp), List.append_nil]
theorem blank_cases {c : Nat} (h : isBlank c = true) : c = 32 ∨ c = 9 ∨ c = 13 ∨ c = 10 := by
  unfold isBlank at h
  simp at h
  omega
theorem blank_let {c : Nat} (h : isBlank c = true) : (isLet c || isDig c) = false ∧ (isLet c || isDig c || decide (c = 46)) = false := by
  rcases blank_cases h with rfl | rfl | rfl | rfl <;> decide
theorem signs2_no : ∀ s ∈ signs2, isBlank (s.getD 1 0).toNat = false := by decide +kernel
theorem signs3_no : ∀ s ∈ signs3, isBlank (s.getD 1 0).toNat = false ∧ isBlank (s.getD 2 0).toNat = false := by decide +kernel
theorem signL_cut {t y z : Bs} (h : signL (t ++ y) = some t.length) (hz : Stops z) : signL (t ++ z) = some t.length := by
  have hl := signL_len h
  have n2 : ∀ {b : UInt8}, t = [b] → ¬ (2 ≤ (t ++ z).length ∧ (t ++ z).take 2 ∈ signs2) ∧ ¬ (3 ≤ (t ++ z).length ∧ (t ++ z).take 3 ∈ signs3) := by
    intro b hb
    subst hb
    rcases hz with rfl | ⟨c, r, rfl, hc⟩
    · exact ⟨fun h => by simp at h, fun h => by simp at h⟩
    · refine ⟨fun h => ?_, fun h => ?_⟩
      · have := signs2_no _ h.2
        simp [hc] at this
      · have := (signs3_no _ h.2).1
        cases r with
        | nil => simp at h
        | cons d r => simp [hc] at this
  have n3 : ∀ {b c : UInt8}, t = [b, c] → ¬ (3 ≤ (t ++ z).length ∧ (t ++ z).take 3 ∈ signs3) := by
    intro b c hb
    subst hb
    rcases hz with rfl | ⟨d, r, rfl, hd⟩
    · exact fun h => by simp at h
    · intro h
      have := (signs3_no _ h.2).2
      simp [hd] at this
  unfold signL at h
  by_cases h1 : 3 ≤ (t ++ y).length ∧ (t ++ y).take 3 ∈ signs3
  · rw [if_pos h1] at h
    injection h with h
    have e1 : (t ++ z).take 3 = (t ++ y).take 3 := by rw [List.take_append_of_le_length (by omega), List.take_append_of_le_length (by omega)]
    unfold signL
    rw [if_pos ⟨by rw [List.length_append]; omega, by rw [e1]; exact h1.2⟩, h]
  · rw [if_neg h1] at h
    by_cases h2 : 2 ≤ (t ++ y).length ∧ (t ++ y).take 2 ∈ signs2
    · rw [if_pos h2] at h
      injection h with h
      have e1 : (t ++ z).take 2 = (t ++ y).take 2 := by rw [List.take_append_of_le_length (by omega), List.take_append_of_le_length (by omega)]
      match t, h with
      | [b, c], _ =>
        unfold signL
        rw [if_neg (n3 rfl), if_pos ⟨by rw [List.length_append]; simp, by rw [e1]; exact h2.2⟩]
        rfl
    · rw [if_neg h2] at h
      match t, hl with
      | [], hl => simp at hl
      | b :: t1, hl =>
        simp only [List.cons_append] at h
        by_cases h3 : b ∈ signs1
        · rw [if_pos h3] at h
          injection h with h
          have : t1 = [] := List.eq_nil_of_length_eq_zero (by simpa using h.symm)
          subst this
          obtain ⟨m1, m2⟩ := n2 (b := b) rfl
          unfold signL
          rw [if_neg m2, if_neg m1]
          simp only [List.cons_append, List.nil_append]
          rw [if_pos h3]
          rfl
        · rw [if_neg h3] at h; cases h
/-- A TOKEN READS NO FURTHER THAN ITS END, where nothing or a blank stands behind it. -/
theorem tokenL_cut {fl : Bs → Nat → Option Nat} {t y z : Bs} {T : TokB} (h : tokenL fl (t ++ y) = .ok T) (hT : T.len = t.length) (hz : Stops z) : tokenL fl (t ++ z) = .ok T := by
  have hl := tokenL_len h
  match t, hT, hl with
  | [], hT, hl => simp at hT; omega
  | b :: t1, hT, hl =>
    unfold tokenL at h ⊢
    simp only [List.cons_append] at h ⊢
    by_cases h1 : isLet b.toNat = true
    · rw [if_pos h1] at h ⊢
      have key : (spanL (fun c => isLet c || isDig c) ((b :: t1) ++ y)).length = (b :: t1).length := by
        split at h
        · cases h
        · injection h with h; rw [← hT, ← h]; rfl
      obtain ⟨e1, e2⟩ := span_cut (fun c hc => (blank_let hc).1) key hz
      simp only [List.cons_append] at e1 e2
      simp only [e1] at h
      simp only [e2]
      exact h
    · rw [if_neg h1] at h ⊢
      by_cases h2 : isDig b.toNat = true
      · rw [if_pos h2] at h ⊢
        have key : (spanL (fun c => isLet c || isDig c || decide (c = 46)) ((b :: t1) ++ y)).length = (b :: t1).length := by
          simp only [List.cons_append]
          split at h
          · injection h with h; rw [← hT, ← h]
          · split at h
            · cases h
            · split at h
              · injection h with h; rw [← hT, ← h]
              · cases h
        obtain ⟨e1, e2⟩ := span_cut (fun c hc => (blank_let hc).2) key hz
        simp only [List.cons_append] at e1 e2
        simp only [e1] at h
        simp only [e2]
        exact h
      · rw [if_neg h2] at h ⊢
        have quo : ∀ (q : Nat), q < 128 → ∀ o, quoF q (b :: (t1 ++ y)).length (t1 ++ y) [] 0 0 = some o → (b :: (t1 ++ y)).length - o.rest.length = (b :: t1).length →
            quoF q (b :: (t1 ++ z)).length (t1 ++ z) [] 0 0 = some ⟨o.data, o.n, o.last, z⟩ := by
          intro q hq o ho hlen
          obtain ⟨s, e1, _, e3⟩ := quoF_cut hq ho
          have hs : s = t1 := by
            have hsl : s.length = t1.length := by
              have := congrArg List.length e1
              simp only [List.length_append, List.length_cons] at this hlen
              omega
            exact (List.append_inj e1 hsl.symm).1.symm
          subst hs
          exact e3 z _ (by simp)
        by_cases h3 : b.toNat = 39
        · rw [if_pos h3] at h ⊢
          cases ho : quoF 39 (b :: (t1 ++ y)).length (t1 ++ y) [] 0 0 with
          | none => rw [ho] at h; cases h
          | some o =>
            rw [ho] at h
            dsimp only at h
            by_cases h4 : o.n = 1
            · rw [if_pos h4] at h
              injection h with h
              rw [quo 39 (by omega) o ho (by rw [← hT, ← h])]
              dsimp only
              rw [if_pos h4, ← h]
              have : (b :: (t1 ++ y)).length - o.rest.length = (b :: t1).length := by rw [← hT, ← h]
              rw [this]
              simp
              omega
            · rw [if_neg h4] at h; cases h
        · rw [if_neg h3] at h ⊢
          by_cases h4 : b.toNat = 34
          · rw [if_pos h4] at h ⊢
            cases ho : quoF 34 (b :: (t1 ++ y)).length (t1 ++ y) [] 0 0 with
            | none => rw [ho] at h; cases h
            | some o =>
              rw [ho] at h
              dsimp only at h
              injection h with h
              rw [quo 34 (by omega) o ho (by rw [← hT, ← h])]
              dsimp only
              rw [← h]
              have : (b :: (t1 ++ y)).length - o.rest.length = (b :: t1).length := by rw [← hT, ← h]
              rw [this]
              simp
              omega
          · rw [if_neg h4] at h ⊢
            cases hs : signL (b :: (t1 ++ y)) with
            | none => rw [hs] at h; cases h
            | some k =>
              rw [hs] at h
              dsimp only at h
              injection h with h
              have hk : k = (b :: t1).length := by rw [← hT, ← h]
              have := signL_cut (t := b :: t1) (y := y) (by rw [List.cons_append, hs, hk]) hz
              rw [List.cons_append] at this
              rw [this]
              dsimp only
              rw [← h, hk]
end Go.Proofs.YteplbbjmbhgllaaGreatDoor.Lx
