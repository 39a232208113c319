/-
  What stands behind a line feed. No program in sight.
  A number that is written is read. No program in sight.
  The plain functions that layer 1 (mach) computes, over whole numbers, and small lemmas on them. No program in sight.
-/
import Derived.Test.YteplbbjmbhgllaaGreatDoorLexM01
import Derived.Handy
import Derived.WalkSpells
import Derived.WalkLawsBesides
import Derived.Lib.Hide
import Derived.Deep.Light
namespace Go.Proofs.YteplbbjmbhgllaaGreatDoor.Lx
open Go.Lib
set_option linter.unusedVariables false
set_option linter.unusedSimpArgs false

theorem take_app' {l z : Bs} {n : Nat} (h : n ≤ l.length) : (l ++ z).take n = l.take n := List.take_append_of_le_length h
theorem drop_app' {l z : Bs} {n : Nat} (h : n ≤ l.length) : (l ++ z).drop n = l.drop n ++ z := List.drop_append_of_le_length h
theorem span_app {p : Nat → Bool} (hp : ∀ c, isBlank c = true → p c = false) {w : Bs} (hw : Stops w) : ∀ l : Bs, spanL p (l ++ w) = spanL p l
  | [] => by
    rcases hw with rfl | ⟨b, r, rfl, hb⟩
    · rfl
    · show spanL p (b :: r) = []
      unfold spanL
      rw [List.takeWhile_cons, if_neg (by rw [hp _ hb]; simp)]
  | c :: l => by
    have ih := span_app hp hw l
    unfold spanL at ih ⊢
    rw [List.cons_append, List.takeWhile_cons, List.takeWhile_cons, ih]
theorem signL_app {l w : Bs} (hl : l ≠ []) (hw : Stops w) : signL (l ++ w) = signL l := by
  rcases hw with rfl | ⟨c, r, rfl, hc⟩
  · rw [List.append_nil]
  · match l, hl with
    | [b], _ =>
      have n2 : ¬ ([b] ++ c :: r).take 2 ∈ signs2 := fun h => by
        have := signs2_no _ h
        simp [hc] at this
      have n3 : ¬ (3 ≤ ([b] ++ c :: r).length ∧ ([b] ++ c :: r).take 3 ∈ signs3) := fun h => by
        have := (signs3_no _ h.2).1
        cases r with
        | nil => simp at h
        | cons d r => simp [hc] at this
      unfold signL
      rw [if_neg n3, if_neg (fun h => n2 h.2), if_neg (fun h => by simp at h), if_neg (fun h => by simp at h)]
      rfl
    | [b, d], _ =>
      have n3 : ¬ ([b, d] ++ c :: r).take 3 ∈ signs3 := fun h => by
        have := (signs3_no _ h).2
        simp [hc] at this
      unfold signL
      rw [if_neg (fun h => n3 h.2), if_neg (fun h : 3 ≤ [b, d].length ∧ _ => by simp at h)]
      have e2 : ([b, d] ++ c :: r).take 2 = [b, d].take 2 := rfl
      rw [e2]
      by_cases h2 : [b, d].take 2 ∈ signs2
      · rw [if_pos ⟨by simp, h2⟩, if_pos ⟨by simp, h2⟩]
      · rw [if_neg (fun h => h2 h.2), if_neg (fun h => h2 h.2)]
        rfl
    | b :: d :: e :: l', _ =>
      unfold signL
      have e3 : (b :: d :: e :: l' ++ c :: r).take 3 = (b :: d :: e :: l').take 3 := by simp
      have e2 : (b :: d :: e :: l' ++ c :: r).take 2 = (b :: d :: e :: l').take 2 := by simp
      rw [e3, e2]
      have a1 : (3 ≤ (b :: d :: e :: l' ++ c :: r).length) = (3 ≤ (b :: d :: e :: l').length) := by simp
      have a2 : (2 ≤ (b :: d :: e :: l' ++ c :: r).length) = (2 ≤ (b :: d :: e :: l').length) := by simp
      simp only [a1, a2]
      rfl
/-- A TOKEN IS THE SAME, whatever begins with a blank behind the text. -/
theorem tokenL_app {fl : Bs → Nat → Option Nat} {l w : Bs} {t : TokB} (h : tokenL fl l = .ok t) (hw : Stops w) : tokenL fl (l ++ w) = .ok t := by
  cases l with
  | nil => cases h
  | cons b r =>
    have quo : ∀ q, q < 128 → ∀ o, quoF q (b :: r).length r [] 0 0 = some o → quoF q (b :: (r ++ w)).length (r ++ w) [] 0 0 = some ⟨o.data, o.n, o.last, o.rest ++ w⟩ ∧ (b :: (r ++ w)).length - (o.rest ++ w).length = (b :: r).length - o.rest.length := by
      intro q hq o ho
      obtain ⟨s, e1, _, e3⟩ := quoF_cut hq ho
      have h1 := e3 (o.rest ++ w) (b :: (r ++ w)).length (by rw [← List.append_assoc, ← e1]; simp)
      rw [← List.append_assoc, ← e1] at h1
      refine ⟨h1, ?_⟩
      simp only [List.length_append, List.length_cons]
      omega
    unfold tokenL at h ⊢
    simp only [List.cons_append] at h ⊢
    have s1 := span_app (p := fun c => isLet c || isDig c) (fun c hc => (blank_let hc).1) hw (b :: r)
    have s2 := span_app (p := fun c => isLet c || isDig c || decide (c = 46)) (fun c hc => (blank_let hc).2) hw (b :: r)
    have s3 := signL_app (l := b :: r) (by simp) hw
    simp only [List.cons_append] at s1 s2 s3
    by_cases h1 : isLet b.toNat = true
    · rw [if_pos h1] at h ⊢
      simp only [s1]
      exact h
    · rw [if_neg h1] at h ⊢
      by_cases h2 : isDig b.toNat = true
      · rw [if_pos h2] at h ⊢
        simp only [s2]
        exact h
      · rw [if_neg h2] at h ⊢
        by_cases h3 : b.toNat = 39
        · rw [if_pos h3] at h ⊢
          cases ho : quoF 39 (b :: r).length r [] 0 0 with
          | none => rw [ho] at h; cases h
          | some o =>
            rw [ho] at h
            obtain ⟨q1, q2⟩ := quo 39 (by omega) o ho
            rw [q1]
            dsimp only at h ⊢
            rw [q2]
            exact h
        · rw [if_neg h3] at h ⊢
          by_cases h4 : b.toNat = 34
          · rw [if_pos h4] at h ⊢
            cases ho : quoF 34 (b :: r).length r [] 0 0 with
            | none => rw [ho] at h; cases h
            | some o =>
              rw [ho] at h
              obtain ⟨q1, q2⟩ := quo 34 (by omega) o ho
              rw [q1]
              dsimp only at h ⊢
              rw [q2]
              exact h
          · rw [if_neg h4] at h ⊢
            rw [s3]
            exact h
/-- TWO TEXTS, one behind the other: the second begins with a blank. -/
theorem toks_app {fl : Bs → Nat → Option Nat} {a : Bs} {p : Pl} {ts : List Tok} (h : Toks fl a p ts) : Val a → ∃ ts0, ts = ts0 ++ [⟨8, moved p a, [], 0, []⟩] ∧
    (∀ z us, Stops z → Toks fl z (moved p a) us → Toks fl (a ++ z) p (ts0 ++ us)) ∧ (∀ z x, Stops z → TokE fl z (moved p a) x → TokE fl (a ++ z) p x) := by
  induction h with
  | nil p => intro _; exact ⟨[], rfl, fun z us _ h => h, fun z x _ h => h⟩
  | @blank b r p ts hb _ ih =>
    intro hv
    obtain ⟨ts0, e1, e2, e3⟩ := ih (Val.tail (blank_ascii hb) hv)
    have em : moved p (b :: r) = moved (stepP p b.toNat) r := by
      have := moved_app (a := [b]) (.ascii (blank_ascii hb) .nil) r p
      rw [moved_one (blank_ascii hb)] at this
      exact this
    rw [em]
    exact ⟨ts0, e1, fun z us hz h => .blank hb (e2 z us hz h), fun z x hz h => .blank hb (e3 z x hz h)⟩
  | @tok l p t ts hb ht _ ih =>
    intro hv
    obtain ⟨v1, v2⟩ := tokenL_val ht hv
    have hl := tokenL_len ht
    obtain ⟨ts0, e1, e2, e3⟩ := ih v2
    have em : moved p l = moved (moved p (l.take t.len)) (l.drop t.len) := by
      rw [← moved_app v1, List.take_append_drop]
    have hb2 : ∀ z b r, l ++ z = b :: r → isBlank b.toNat = false := fun z b r e => by
      cases l with
      | nil => simp at hl; omega
      | cons b' r' => injection e with e1 _; rw [← e1]; exact hb b' r' rfl
    rw [em]
    refine ⟨⟨t.kind, p, l.take t.len, t.bits, t.data⟩ :: ts0, by rw [e1]; rfl, fun z us hz h => ?_, fun z x hz h => ?_⟩
    · have := Toks.tok (hb2 z) (tokenL_app ht hz) (by rw [take_app' hl.2, drop_app' hl.2]; exact e2 z us hz h)
      rw [take_app' hl.2] at this
      exact this
    · exact TokE.tok (hb2 z) (tokenL_app ht hz) (by rw [take_app' hl.2, drop_app' hl.2]; exact e3 z x hz h)
/-- Lines on. -/
def upP (k : Int) (p : Pl) : Pl := (p.1 + k, p.2)
theorem stepP_up (k : Int) (p : Pl) (r : Nat) : stepP (upP k p) r = upP k (stepP p r) := by
  unfold stepP upP
  split
  · dsimp only; rw [Int.add_right_comm]
  · rfl
theorem movedF_up (k : Int) : ∀ (n : Nat) (p : Pl) (l : Bs), movedF n (upP k p) l = upP k (movedF n p l)
  | 0, p, l => rfl
  | n + 1, p, l => by
    unfold movedF
    split
    · rfl
    · rw [stepP_up, movedF_up k n]
theorem moved_up (k : Int) (p : Pl) (l : Bs) : moved (upP k p) l = upP k (moved p l) := movedF_up k _ p l
def upT (k : Int) (t : Tok) : Tok := { t with at_ := upP k t.at_ }
theorem toks_up {fl : Bs → Nat → Option Nat} (k : Int) {l : Bs} {p : Pl} {ts : List Tok} (h : Toks fl l p ts) : Toks fl l (upP k p) (ts.map (upT k)) := by
  induction h with
  | nil p => exact .nil _
  | blank hb _ ih => rw [← stepP_up] at ih; exact .blank hb ih
  | tok hb ht _ ih => rw [← moved_up] at ih; exact .tok hb ht ih
theorem tokE_up {fl : Bs → Nat → Option Nat} (k : Int) {l : Bs} {p : Pl} {x : Nat × Pl} (h : TokE fl l p x) : TokE fl l (upP k p) (x.1, upP k x.2) := by
  induction h with
  | err hl hb ht => exact .err hl hb ht
  | blank hb _ ih => rw [← stepP_up] at ih; exact .blank hb ih
  | tok hb ht _ ih => rw [← moved_up] at ih; exact .tok hb ht ih
end Go.Proofs.YteplbbjmbhgllaaGreatDoor.Lx

namespace Go.Proofs.YteplbbjmbhgllaaGreatDoor.Lx
open Go.Lib
set_option linter.unusedVariables false
set_option linter.unusedSimpArgs false

def hexC (d : Nat) : UInt8 := if d < 10 then UInt8.ofNat (48 + d) else UInt8.ofNat (87 + d)
theorem hexC_nat {d : Nat} (h : d < 16) : (hexC d).toNat = if d < 10 then 48 + d else 87 + d := by
  unfold hexC
  split
  · simp; omega
  · simp; omega
theorem hexV_hexC {d : Nat} (h : d < 16) : hexV (hexC d).toNat = some d := by
  rw [hexC_nat h]
  unfold hexV
  split
  · rw [if_pos (by omega)]; congr 1; omega
  · rw [if_neg (by omega), if_pos (by omega)]; congr 1; omega
/-- The digits of v, ahead of what is there. -/
def digs (base : Nat) : Nat → Nat → Bs → Bs
  | 0, v, acc => acc
  | f + 1, v, acc => if v = 0 then acc else digs base f (v / base) (hexC (v % base) :: acc)
theorem numB_digs {base : Nat} (h2 : 2 ≤ base) (h16 : base ≤ 16) : ∀ (f v : Nat) (rest : Bs), v < base ^ f → v < 18446744073709551616 → numB base 0 (digs base f v rest) = numB base v rest
  | 0, v, rest, hf, hv => by
    have : v = 0 := by simpa using hf
    subst this
    rfl
  | f + 1, v, rest, hf, hv => by
    unfold digs
    by_cases h0 : v = 0
    · rw [if_pos h0, h0]
    · rw [if_neg h0]
      have hm : v % base < base := Nat.mod_lt _ (by omega)
      have hd : v / base < base ^ f := by
        rw [Nat.div_lt_iff_lt_mul (by omega)]
        rw [Nat.pow_succ] at hf
        exact hf
      have hle : v / base ≤ v := Nat.div_le_self _ _
      rw [numB_digs h2 h16 f (v / base) _ hd (by omega)]
      conv => lhs; unfold numB
      rw [hexV_hexC (by omega)]
      dsimp only
      have e : v / base * base + v % base = v := by rw [Nat.mul_comm]; exact Nat.div_add_mod v base
      rw [e, if_pos ⟨hm, hv⟩]
/-- All digits are digits of sixteen. -/
theorem digs_all {base : Nat} (h2 : 2 ≤ base) (h16 : base ≤ 16) (P : UInt8 → Prop) (hP : ∀ d, d < base → P (hexC d)) : ∀ (f v : Nat) (rest : Bs), (∀ b ∈ rest, P b) → ∀ b ∈ digs base f v rest, P b
  | 0, v, rest, hr => hr
  | f + 1, v, rest, hr => by
    unfold digs
    split
    · exact hr
    · exact digs_all h2 h16 P hP f _ _ fun b hb => by
        rcases List.mem_cons.1 hb with rfl | hb
        · exact hP _ (Nat.mod_lt _ (by omega))
        · exact hr b hb
/-- The first digit is no 0; and there is one. -/
theorem digs_first {base : Nat} (h2 : 2 ≤ base) (h16 : base ≤ 16) : ∀ (f v : Nat) (rest : Bs), v ≠ 0 → v < base ^ f → ∃ d r, digs base f v rest = hexC d :: r ∧ d ≠ 0 ∧ d < base
  | 0, v, rest, h0, hf => absurd (by simpa using hf) h0
  | f + 1, v, rest, h0, hf => by
    unfold digs
    rw [if_neg h0]
    have hm : v % base < base := Nat.mod_lt _ (by omega)
    by_cases h1 : v / base = 0
    · have : v < base := by
        rcases Nat.lt_or_ge v base with h | h
        · exact h
        · have := Nat.div_pos h (by omega : 0 < base); omega
      rw [h1]
      refine ⟨v % base, rest, ?_, by rw [Nat.mod_eq_of_lt this]; exact h0, hm⟩
      cases f <;> simp [digs]
    · exact digs_first h2 h16 f (v / base) _ h1 (by
        rw [Nat.div_lt_iff_lt_mul (by omega)]
        rw [Nat.pow_succ] at hf
        exact hf)
/-- What the statement writes. -/
def numText (base n : Nat) : Bs :=
  let t := digs base 64 n []
  if base = 16 then (if t = [] then [48, 120, 48] else 48 :: 88 :: t) else if base = 8 ∨ t = [] then 48 :: t else t
def tails : List Bs := [[], [117], [76], [117, 76], [108, 85], [85], [108]]
def isHexB (b : UInt8) : Prop := ∃ d, d < 16 ∧ b = hexC d
theorem hexB_notTail {d : Nat} (h : d < 16) : isTail (hexC d) = false := by
  unfold isTail
  rw [hexC_nat h]
  split <;> simp <;> omega
theorem tails_ok : ∀ t ∈ tails, (t.all isTail = true) ∧ ((t.reverse.filter isU).length ≤ 1) ∧ ((t.reverse.filter fun b => !isU b).length ≤ 1) ∧ (∀ b ∈ t, isLet b.toNat = true) := by decide
/-- The tail is cut off. -/
theorem cut_tail {t s : Bs} {x : UInt8} (ht : t.all isTail = true) (hx : isTail x = false) : ((s ++ [x]) ++ t).reverse.takeWhile isTail = t.reverse ∧ (((s ++ [x]) ++ t).reverse.dropWhile isTail).reverse = s ++ [x] := by
  have hall : ∀ b ∈ t.reverse, isTail b = true := fun b hb => List.all_eq_true.1 ht b (List.mem_reverse.1 hb)
  have e : ((s ++ [x]) ++ t).reverse = t.reverse ++ (x :: s.reverse) := by simp
  rw [e, List.takeWhile_append_of_pos hall, List.dropWhile_append_of_pos hall, List.takeWhile_cons, List.dropWhile_cons, if_neg (by rw [hx]; simp), if_neg (by rw [hx]; simp)]
  simp
theorem last_split {l : Bs} (h : l ≠ []) : ∃ s x, l = s ++ [x] ∧ x ∈ l := ⟨l.dropLast, l.getLast h, (List.dropLast_concat_getLast h).symm, List.getLast_mem h⟩
/-- The value of what is left of the letters. -/
def bodyV (body : Bs) : Option Nat := match body with
  | [] => none
  | [b] => numB 10 0 [b]
  | b :: c :: r => if b.toNat = 48 then if c.toNat = 120 ∨ c.toNat = 88 then (if r = [] then none else numB 16 0 r) else numB 8 0 (c :: r) else numB 10 0 body
theorem wholeL_body (body : Bs) {t : Bs} {s : Bs} {x : UInt8} (hb : body = s ++ [x]) (hx : isTail x = false) (ht : t ∈ tails) : wholeL (body ++ t) = bodyV body := by
  obtain ⟨t1, t2, t3, _⟩ := tails_ok t ht
  obtain ⟨e1, e2⟩ := cut_tail (s := s) t1 hx
  rw [← hb] at e1 e2
  unfold wholeL
  dsimp only
  rw [e1, e2, if_neg (by omega)]
  rfl
theorem pow64 {base n : Nat} (h : 2 ≤ base) (hn : n < 18446744073709551616) : n < base ^ 64 := Nat.lt_of_lt_of_le hn (by
  have : (2 : Nat) ^ 64 ≤ base ^ 64 := Nat.pow_le_pow_left h 64
  have e : (2 : Nat) ^ 64 = 18446744073709551616 := by decide
  omega)
theorem digs_zero (base : Nat) : digs base 64 0 [] = [] := by unfold digs; rw [if_pos rfl]
theorem wholeL_num {base n : Nat} (hb : base = 8 ∨ base = 10 ∨ base = 16) (hn : n < 18446744073709551616) {t : Bs} (ht : t ∈ tails) : wholeL (numText base n ++ t) = some n := by
  have h2 : 2 ≤ base := by omega
  have h16 : base ≤ 16 := by omega
  have hval := numB_digs h2 h16 64 n [] (pow64 h2 hn) hn
  have e0 : numB base n [] = some n := rfl
  rw [e0] at hval
  have hall := digs_all h2 h16 (fun b => isTail b = false) (fun d hd => hexB_notTail (by omega)) 64 n [] (by simp)
  by_cases h0 : n = 0
  · subst h0
    have ez := digs_zero base
    rcases hb with rfl | rfl | rfl
    · have e : numText 8 0 = [48] := by unfold numText; rw [ez]; rfl
      rw [e, wholeL_body [48] (s := []) (x := 48) rfl (by decide) ht]; decide
    · have e : numText 10 0 = [48] := by unfold numText; rw [ez]; rfl
      rw [e, wholeL_body [48] (s := []) (x := 48) rfl (by decide) ht]; decide
    · have e : numText 16 0 = [48, 120, 48] := by unfold numText; rw [ez]; rfl
      rw [e, wholeL_body [48, 120, 48] (s := [48, 120]) (x := 48) rfl (by decide) ht]; decide
  · obtain ⟨d, r, hd, hd0, hdb⟩ := digs_first h2 h16 64 n [] h0 (pow64 h2 hn)
    have hne : digs base 64 n [] ≠ [] := by rw [hd]; simp
    obtain ⟨s, x, hs, hx⟩ := last_split hne
    have hxt := hall x hx
    rcases hb with rfl | rfl | rfl
    · have e : numText 8 n = 48 :: digs 8 64 n [] := by unfold numText; simp
      rw [e, wholeL_body _ (s := 48 :: s) (x := x) (by rw [hs]; rfl) hxt ht, hd]
      unfold bodyV
      dsimp only
      rw [if_pos (by decide), if_neg (by rw [hexC_nat (by omega)]; split <;> omega), ← hd]
      exact hval
    · have e : numText 10 n = digs 10 64 n [] := by unfold numText; simp [hne]
      rw [e, wholeL_body _ (s := s) (x := x) hs hxt ht, hd]
      unfold bodyV
      have hb48 : ¬ (hexC d).toNat = 48 := by rw [hexC_nat (by omega)]; split <;> omega
      cases r with
      | nil => dsimp only; rw [← hd]; exact hval
      | cons c r => dsimp only; rw [if_neg hb48, ← hd]; exact hval
    · have e : numText 16 n = 48 :: 88 :: digs 16 64 n [] := by unfold numText; simp [hne]
      rw [e, wholeL_body _ (s := 48 :: 88 :: s) (x := x) (by rw [hs]; rfl) hxt ht]
      unfold bodyV
      dsimp only
      rw [if_pos (by decide), if_pos (by decide), if_neg hne]
      exact hval
/-- Every byte of it may stand in a number; the first is a digit. -/
theorem numText_bytes {base n : Nat} (hb : base = 8 ∨ base = 10 ∨ base = 16) (hn : n < 18446744073709551616) {t : Bs} (ht : t ∈ tails) :
    (∀ b ∈ numText base n ++ t, (isLet b.toNat || isDig b.toNat || decide (b.toNat = 46)) = true) ∧ ∃ b r, numText base n = b :: r ∧ isDig b.toNat = true ∧ isLet b.toNat = false := by
  have h2 : 2 ≤ base := by omega
  have h16 : base ≤ 16 := by omega
  obtain ⟨_, _, _, t4⟩ := tails_ok t ht
  have hhex : ∀ d, d < 16 → (isLet (hexC d).toNat || isDig (hexC d).toNat || decide ((hexC d).toNat = 46)) = true := fun d hd => by
    rw [hexC_nat hd]
    unfold isLet isDig
    split <;> simp <;> omega
  have hall := digs_all h2 h16 (fun b => (isLet b.toNat || isDig b.toNat || decide (b.toNat = 46)) = true) (fun d hd => hhex d (by omega)) 64 n [] (by simp)
  have hbody : ∀ b ∈ numText base n, (isLet b.toNat || isDig b.toNat || decide (b.toNat = 46)) = true := by
    intro b hb'
    unfold numText at hb'
    dsimp only at hb'
    split at hb'
    · split at hb'
      · simp at hb'
        rcases hb' with rfl | rfl | rfl <;> decide
      · rcases List.mem_cons.1 hb' with rfl | hb'
        · decide
        · rcases List.mem_cons.1 hb' with rfl | hb'
          · decide
          · exact hall b hb'
    · split at hb'
      · rcases List.mem_cons.1 hb' with rfl | hb'
        · decide
        · exact hall b hb'
      · exact hall b hb'
  refine ⟨fun b hb' => ?_, ?_⟩
  · rcases List.mem_append.1 hb' with hb' | hb'
    · exact hbody b hb'
    · rw [t4 b hb']; rfl
  · unfold numText
    dsimp only
    split
    · split
      · exact ⟨48, [120, 48], rfl, by decide, by decide⟩
      · exact ⟨48, _, rfl, by decide, by decide⟩
    · rename_i h16'
      split
      · exact ⟨48, _, rfl, by decide, by decide⟩
      · rename_i h8
        have hb10 : base = 10 := by omega
        subst hb10
        have h0 : n ≠ 0 := fun h => h8 (.inr (by rw [h]; exact digs_zero 10))
        obtain ⟨d, r, hd, hd0, hdb⟩ := digs_first h2 h16 64 n [] h0 (pow64 h2 hn)
        refine ⟨hexC d, r, hd, ?_, ?_⟩
        · rw [hexC_nat (by omega), if_pos hdb]; unfold isDig; simp; omega
        · rw [hexC_nat (by omega), if_pos hdb]; unfold isLet; simp; omega
theorem spanL_all {p : Nat → Bool} : ∀ {l : Bs}, (∀ b ∈ l, p b.toNat = true) → spanL p l = l
  | [], _ => rfl
  | b :: l, h => by
    have ih := spanL_all (l := l) fun c hc => h c (by simp [hc])
    unfold spanL at ih ⊢
    rw [List.takeWhile_cons, if_pos (h b (by simp)), ih]
/-- A WRITTEN NUMBER'S TOKENS. -/
theorem toks_num {fl : Bs → Nat → Option Nat} {base n : Nat} (hb : base = 8 ∨ base = 10 ∨ base = 16) (hn : n < 18446744073709551616) {t : Bs} (ht : t ∈ tails) (p : Pl) :
    Toks fl (numText base n ++ t) p [⟨3, p, numText base n ++ t, n, []⟩, ⟨8, moved p (numText base n ++ t), [], 0, []⟩] := by
  obtain ⟨hall, b, r, hbr, hbd, hbl⟩ := numText_bytes hb hn ht
  have hw := wholeL_num hb hn ht
  obtain ⟨l, hl⟩ : ∃ l, l = numText base n ++ t := ⟨_, rfl⟩
  rw [← hl] at hall hw ⊢
  have hlb : l = b :: (r ++ t) := by rw [hl, hbr]; rfl
  have htok : tokenL fl l = .ok ⟨3, l.length, n, []⟩ := by
    have hs : spanL (fun c => isLet c || isDig c || decide (c = 46)) l = l := spanL_all hall
    rw [hlb] at hs hw ⊢
    unfold tokenL
    dsimp only
    rw [if_neg (by rw [hbl]; simp), if_pos hbd, hs, hw]
  have := Toks.tok (fl := fl) (l := l) (p := p) (t := ⟨3, l.length, n, []⟩) (ts := [⟨8, moved p l, [], 0, []⟩]) (fun b' r' e => ?_) htok (by
    dsimp only
    rw [List.drop_of_length_le (Nat.le_refl _), List.take_of_length_le (Nat.le_refl _)]
    exact .nil _)
  · dsimp only at this
    rw [List.take_of_length_le (Nat.le_refl _)] at this
    exact this
  · rw [hlb] at e
    injection e with e1 _
    subst e1
    unfold isDig at hbd
    unfold isBlank
    simp at hbd ⊢
    omega
end Go.Proofs.YteplbbjmbhgllaaGreatDoor.Lx

namespace Go.Proofs.YteplbbjmbhgllaaGreatDoor
set_option linter.unusedVariables false
set_option linter.unusedSimpArgs false
open Go.RowKit

def I64 (n : Int) : Prop := -9223372036854775808 ≤ n ∧ n ≤ 9223372036854775807
def U64 (n : Int) : Prop := 0 ≤ n ∧ n ≤ 18446744073709551615
def I32 (n : Int) : Prop := -2147483648 ≤ n ∧ n ≤ 2147483647
def U32 (n : Int) : Prop := 0 ≤ n ∧ n ≤ 4294967295

/-- A value: its kind, its bits, its block. -/
structure V where
  k : Int
  b : Int
  l : Int

structure V.ok (v : V) : Prop where
  k1 : -9223372036854775808 ≤ v.k
  k2 : v.k ≤ 9223372036854775807
  b1 : 0 ≤ v.b
  b2 : v.b ≤ 18446744073709551615
  l1 : -9223372036854775808 ≤ v.l
  l2 : v.l ≤ 9223372036854775807

/-- Behind a contract that ends in Below: all old cells and marks read as before; the heap has not shrunk. -/
theorem bcell {W w1 : World} (hb : Below W.heap.size W w1) : (∀ b o, b < W.heap.size → w1.cell? ⟨b, o, none⟩ = W.cell? ⟨b, o, none⟩) ∧ (∀ b o, b < W.heap.size → w1.frozen? ⟨b, o, none⟩ = W.frozen? ⟨b, o, none⟩) ∧ W.heap.size ≤ w1.heap.size :=
  ⟨fun b o h => hb.cell (p := ⟨b, o, none⟩) h, fun b o h => hb.frozen (p := ⟨b, o, none⟩) h, hb.size⟩
theorem below_next {w a b : World} (h1 : Below w.heap.size w a) (h2 : Below a.heap.size a b) : Below w.heap.size w b := h1.trans (h2.mono h1.size)

def undefV : V := ⟨0, 0, 0⟩
def intV (n : Int) : V := ⟨1, n % 4294967296, 0⟩
def longV (n : Int) : V := ⟨2, n % 18446744073709551616, 0⟩
def dblV (n : Int) : V := ⟨3, n, 0⟩
def ptrV (b o : Int) : V := if b = 0 then undefV else ⟨4, o % 18446744073709551616, b⟩
def flagV (b : Bool) : V := if b then intV 1 else intV 0
theorem flagV_eq (b : Bool) : flagV b = ⟨1, cond b 1 0, 0⟩ := by cases b <;> rfl

def split (op : Int) : Int × Int := if 30 < op ∧ op ≤ 55 then (op - 30, 2) else (op, 1)

def shape (op : Int) : Int × Int × Int :=
  if (split op).1 ≤ 0 then (0, 0, 0)
  else if (split op).1 ≤ 2 then ((split op).2, 0, (split op).2)
  else if (split op).1 < 13 then ((split op).2, (split op).2, (split op).2)
  else if (split op).1 ≤ 15 then ((split op).2, 1, (split op).2)
  else if (split op).1 ≤ 25 then ((split op).2, (split op).2, 1)
  else if op = 61 then (3, 0, 3)
  else if 62 ≤ op ∧ op ≤ 65 then (3, 3, 3)
  else if 66 ≤ op ∧ op ≤ 71 then (3, 3, 1)
  else if 80 ≤ op ∧ op ≤ 83 then (1, 0, 1)
  else if 84 ≤ op ∧ op ≤ 85 then (1, 0, 2)
  else if op = 86 then (2, 0, 1)
  else if 87 ≤ op ∧ op ≤ 88 then (1, 0, 3)
  else if 89 ≤ op ∧ op ≤ 90 then (2, 0, 3)
  else if 91 ≤ op ∧ op ≤ 92 then (3, 0, 1)
  else if 93 ≤ op ∧ op ≤ 94 then (3, 0, 2)
  else if 95 ≤ op ∧ op ≤ 96 then (1, 0, 1)
  else (0, 0, 0)

theorem split_b (op : Int) (h : I64 op) : I64 (split op).1 := by
  unfold I64 split at *; split <;> dsimp only <;> omega

/-- A quotient or what is left, by sign; the least number by -1 has none. -/
def sdiv (least x y : Int) (rest : Bool) : Int × Bool :=
  if y = 0 ∨ (y = -1 ∧ x = least) then (0, false) else if rest then (x.tmod y, true) else (x.tdiv y, true)
def udiv (x y : Int) (rest : Bool) : Int × Bool :=
  if y = 0 then (0, false) else if rest then (x % y, true) else (x / y, true)

/-- A comparison's answer, by which is less. -/
def cmpd (op : Int) (less same : Bool) : Bool :=
  if op = 16 then same else if op = 17 then !same else if op = 18 ∨ op = 22 then less
  else if op = 19 ∨ op = 23 then less || same else if op = 20 ∨ op = 24 then !less && !same else !less

def band (x y : Int) : Int := ((x.toNat &&& y.toNat : Nat) : Int)
def bor (x y : Int) : Int := ((x.toNat ||| y.toNat : Nat) : Int)
def bxor (x y : Int) : Int := ((x.toNat ^^^ y.toNat : Nat) : Int)

/-- An operation of two whole numbers, sx and sy by sign, ux and uy without: the number itself, not yet brought into its range. -/
def wholeU (least op sx sy ux uy : Int) : Int × Bool :=
  if op = 3 then (ux + uy, true) else if op = 4 then (ux - uy, true) else if op = 5 then (ux * uy, true)
  else if op = 10 then (band ux uy, true) else if op = 11 then (bor ux uy, true) else if op = 12 then (bxor ux uy, true)
  else if op = 6 then sdiv least sx sy false else if op = 8 then sdiv least sx sy true
  else if op = 9 then udiv ux uy true else udiv ux uy false

def shiftU (op sx ux n : Int) : Int := if op = 13 then ux * 2 ^ n.toNat else if op = 14 then sx / 2 ^ n.toNat else ux / 2 ^ n.toNat

theorem tdiv_bound (x y a b : Int) (h1 : -a ≤ x) (h2 : x ≤ b) (hab : b ≤ a) : -a ≤ x.tdiv y ∧ x.tdiv y ≤ a := by
  have h := Int.natAbs_tdiv x y
  have h3 : x.natAbs.div y.natAbs ≤ x.natAbs := Nat.div_le_self _ _
  rw [← h] at h3
  omega
theorem tmod_bound (x y a b : Int) (h1 : -a ≤ x) (h2 : x ≤ b) (hab : b ≤ a) : -a ≤ x.tmod y ∧ x.tmod y ≤ a := by
  have h := Int.natAbs_tmod x y
  have h3 : x.natAbs % y.natAbs ≤ x.natAbs := Nat.mod_le _ _
  rw [← h] at h3
  omega

theorem bits_and_u32 (x y : Int) (hx : U32 x) (hy : U32 y) : bits .and .u32 x y = band x y := by
  obtain ⟨a, rfl⟩ := Int.eq_ofNat_of_zero_le hx.1
  obtain ⟨b, rfl⟩ := Int.eq_ofNat_of_zero_le hy.1
  have h1 := hx.2; have h2 := hy.2
  show IntKind.u32.wrap ((BitVec.ofInt 32 (a : Int) &&& BitVec.ofInt 32 (b : Int)).toNat : Int) = _
  have ea : (BitVec.ofInt 32 (a : Int)).toNat = a := by rw [BitVec.ofInt_natCast, BitVec.toNat_ofNat]; exact Nat.mod_eq_of_lt (by omega)
  have eb : (BitVec.ofInt 32 (b : Int)).toNat = b := by rw [BitVec.ofInt_natCast, BitVec.toNat_ofNat]; exact Nat.mod_eq_of_lt (by omega)
  have hz : a &&& b < 2 ^ 32 := Nat.and_lt_two_pow _ (by omega)
  rw [BitVec.toNat_and, ea, eb, IntKind.wrap_u32]
  simp only [band, Int.toNat_natCast]
  omega
theorem bits_or_u32 (x y : Int) (hx : U32 x) (hy : U32 y) : bits .or .u32 x y = bor x y := by
  obtain ⟨a, rfl⟩ := Int.eq_ofNat_of_zero_le hx.1
  obtain ⟨b, rfl⟩ := Int.eq_ofNat_of_zero_le hy.1
  have h1 := hx.2; have h2 := hy.2
  show IntKind.u32.wrap ((BitVec.ofInt 32 (a : Int) ||| BitVec.ofInt 32 (b : Int)).toNat : Int) = _
  have ea : (BitVec.ofInt 32 (a : Int)).toNat = a := by rw [BitVec.ofInt_natCast, BitVec.toNat_ofNat]; exact Nat.mod_eq_of_lt (by omega)
  have eb : (BitVec.ofInt 32 (b : Int)).toNat = b := by rw [BitVec.ofInt_natCast, BitVec.toNat_ofNat]; exact Nat.mod_eq_of_lt (by omega)
  have hz : a ||| b < 2 ^ 32 := Nat.or_lt_two_pow (by omega) (by omega)
  rw [BitVec.toNat_or, ea, eb, IntKind.wrap_u32]
  simp only [bor, Int.toNat_natCast]
  omega
theorem bits_xor_u32 (x y : Int) (hx : U32 x) (hy : U32 y) : bits .xor .u32 x y = bxor x y := by
  obtain ⟨a, rfl⟩ := Int.eq_ofNat_of_zero_le hx.1
  obtain ⟨b, rfl⟩ := Int.eq_ofNat_of_zero_le hy.1
  have h1 := hx.2; have h2 := hy.2
  show IntKind.u32.wrap ((BitVec.ofInt 32 (a : Int) ^^^ BitVec.ofInt 32 (b : Int)).toNat : Int) = _
  have ea : (BitVec.ofInt 32 (a : Int)).toNat = a := by rw [BitVec.ofInt_natCast, BitVec.toNat_ofNat]; exact Nat.mod_eq_of_lt (by omega)
  have eb : (BitVec.ofInt 32 (b : Int)).toNat = b := by rw [BitVec.ofInt_natCast, BitVec.toNat_ofNat]; exact Nat.mod_eq_of_lt (by omega)
  have hz : a ^^^ b < 2 ^ 32 := Nat.xor_lt_two_pow (by omega) (by omega)
  rw [BitVec.toNat_xor, ea, eb, IntKind.wrap_u32]
  simp only [bxor, Int.toNat_natCast]
  omega
theorem bits_and_u64 (x y : Int) (hx : U64 x) (hy : U64 y) : bits .and .u64 x y = band x y := by
  obtain ⟨a, rfl⟩ := Int.eq_ofNat_of_zero_le hx.1
  obtain ⟨b, rfl⟩ := Int.eq_ofNat_of_zero_le hy.1
  have h1 := hx.2; have h2 := hy.2
  show IntKind.u64.wrap ((BitVec.ofInt 64 (a : Int) &&& BitVec.ofInt 64 (b : Int)).toNat : Int) = _
  have ea : (BitVec.ofInt 64 (a : Int)).toNat = a := by rw [BitVec.ofInt_natCast, BitVec.toNat_ofNat]; exact Nat.mod_eq_of_lt (by omega)
  have eb : (BitVec.ofInt 64 (b : Int)).toNat = b := by rw [BitVec.ofInt_natCast, BitVec.toNat_ofNat]; exact Nat.mod_eq_of_lt (by omega)
  have hz : a &&& b < 2 ^ 64 := Nat.and_lt_two_pow _ (by omega)
  rw [BitVec.toNat_and, ea, eb, IntKind.wrap_u64]
  simp only [band, Int.toNat_natCast]
  omega
theorem bits_or_u64 (x y : Int) (hx : U64 x) (hy : U64 y) : bits .or .u64 x y = bor x y := by
  obtain ⟨a, rfl⟩ := Int.eq_ofNat_of_zero_le hx.1
  obtain ⟨b, rfl⟩ := Int.eq_ofNat_of_zero_le hy.1
  have h1 := hx.2; have h2 := hy.2
  show IntKind.u64.wrap ((BitVec.ofInt 64 (a : Int) ||| BitVec.ofInt 64 (b : Int)).toNat : Int) = _
  have ea : (BitVec.ofInt 64 (a : Int)).toNat = a := by rw [BitVec.ofInt_natCast, BitVec.toNat_ofNat]; exact Nat.mod_eq_of_lt (by omega)
  have eb : (BitVec.ofInt 64 (b : Int)).toNat = b := by rw [BitVec.ofInt_natCast, BitVec.toNat_ofNat]; exact Nat.mod_eq_of_lt (by omega)
  have hz : a ||| b < 2 ^ 64 := Nat.or_lt_two_pow (by omega) (by omega)
  rw [BitVec.toNat_or, ea, eb, IntKind.wrap_u64]
  simp only [bor, Int.toNat_natCast]
  omega
theorem bits_xor_u64 (x y : Int) (hx : U64 x) (hy : U64 y) : bits .xor .u64 x y = bxor x y := by
  obtain ⟨a, rfl⟩ := Int.eq_ofNat_of_zero_le hx.1
  obtain ⟨b, rfl⟩ := Int.eq_ofNat_of_zero_le hy.1
  have h1 := hx.2; have h2 := hy.2
  show IntKind.u64.wrap ((BitVec.ofInt 64 (a : Int) ^^^ BitVec.ofInt 64 (b : Int)).toNat : Int) = _
  have ea : (BitVec.ofInt 64 (a : Int)).toNat = a := by rw [BitVec.ofInt_natCast, BitVec.toNat_ofNat]; exact Nat.mod_eq_of_lt (by omega)
  have eb : (BitVec.ofInt 64 (b : Int)).toNat = b := by rw [BitVec.ofInt_natCast, BitVec.toNat_ofNat]; exact Nat.mod_eq_of_lt (by omega)
  have hz : a ^^^ b < 2 ^ 64 := Nat.xor_lt_two_pow (by omega) (by omega)
  rw [BitVec.toNat_xor, ea, eb, IntKind.wrap_u64]
  simp only [bxor, Int.toNat_natCast]
  omega
theorem band_lt32 (x y : Int) (hx : x < 4294967296) (hy : y < 4294967296) : 0 ≤ band x y ∧ band x y < 4294967296 := by
  have h : x.toNat &&& y.toNat < 2 ^ 32 := Nat.and_lt_two_pow _ (by omega)
  unfold band; omega
theorem bor_lt32 (x y : Int) (hx : x < 4294967296) (hy : y < 4294967296) : 0 ≤ bor x y ∧ bor x y < 4294967296 := by
  have h : x.toNat ||| y.toNat < 2 ^ 32 := Nat.or_lt_two_pow (by omega) (by omega)
  unfold bor; omega
theorem bxor_lt32 (x y : Int) (hx : x < 4294967296) (hy : y < 4294967296) : 0 ≤ bxor x y ∧ bxor x y < 4294967296 := by
  have h : x.toNat ^^^ y.toNat < 2 ^ 32 := Nat.xor_lt_two_pow (by omega) (by omega)
  unfold bxor; omega
theorem band_lt64 (x y : Int) (hx : x < 18446744073709551616) (hy : y < 18446744073709551616) : 0 ≤ band x y ∧ band x y < 18446744073709551616 := by
  have h : x.toNat &&& y.toNat < 2 ^ 64 := Nat.and_lt_two_pow _ (by omega)
  unfold band; omega
theorem bor_lt64 (x y : Int) (hx : x < 18446744073709551616) (hy : y < 18446744073709551616) : 0 ≤ bor x y ∧ bor x y < 18446744073709551616 := by
  have h : x.toNat ||| y.toNat < 2 ^ 64 := Nat.or_lt_two_pow (by omega) (by omega)
  unfold bor; omega
theorem bxor_lt64 (x y : Int) (hx : x < 18446744073709551616) (hy : y < 18446744073709551616) : 0 ≤ bxor x y ∧ bxor x y < 18446744073709551616 := by
  have h : x.toNat ^^^ y.toNat < 2 ^ 64 := Nat.xor_lt_two_pow (by omega) (by omega)
  unfold bxor; omega

theorem tdiv_neg_one (x : Int) : x.tdiv (-1) = -x := by rw [Int.tdiv_neg]; simp
theorem tmod_neg_one (x : Int) : x.tmod (-1) = 0 := by rw [Int.tmod_neg]; simp
theorem tdiv_in (x y m : Int) (h1 : -(m + 1) ≤ x) (h2 : x ≤ m) (hm : 2 ≤ m) (h : ¬ (y = -1 ∧ x = -(m + 1))) : -(m + 1) ≤ x.tdiv y ∧ x.tdiv y ≤ m := by
  have h5 := Int.natAbs_tdiv x y
  have hb : x.natAbs.div y.natAbs ≤ x.natAbs := Nat.div_le_self _ _
  rw [← h5] at hb
  by_cases hx : x = -(m + 1)
  · by_cases hy : y = -1
    · exact absurd ⟨hy, hx⟩ h
    · by_cases hy1 : y = 1
      · subst hy1; simp; omega
      · by_cases hy0 : y = 0
        · subst hy0; simp; omega
        · have h6 : x.natAbs.div y.natAbs ≤ x.natAbs / 2 := Nat.div_le_div_left (by omega) (by omega)
          rw [← h5] at h6
          omega
  · omega
theorem tdiv_i32 (x y : Int) (hx : I32 x) (h : ¬ (y = -1 ∧ x = -2147483648)) : wrap32 (x.tdiv y) = x.tdiv y := by
  have := tdiv_in x y 2147483647 hx.1 hx.2 (by omega) h
  unfold wrap32; omega
theorem tdiv_i64 (x y : Int) (hx : I64 x) (h : ¬ (y = -1 ∧ x = -9223372036854775808)) : wrap64 (x.tdiv y) = x.tdiv y := by
  have := tdiv_in x y 9223372036854775807 hx.1 hx.2 (by omega) h
  unfold wrap64; omega
theorem neg_i32 (x : Int) (hx : I32 x) : wrap32 (-x) = if x = -2147483648 then x else -x := by
  have := hx.1; have := hx.2
  unfold wrap32; split <;> omega
theorem neg_i64 (x : Int) (hx : I64 x) : wrap64 (-x) = if x = -9223372036854775808 then x else -x := by
  have := hx.1; have := hx.2
  unfold wrap64; split <;> omega

theorem wrap64_wrap32 (x : Int) : wrap64 (wrap32 x) = wrap32 x := by unfold wrap64 wrap32; omega
theorem wrap32_mod (x : Int) : wrap32 x % 4294967296 = x % 4294967296 := by unfold wrap32; omega
theorem wrap64_mod (x : Int) : wrap64 x % 18446744073709551616 = x % 18446744073709551616 := by unfold wrap64; omega
theorem wrap32_I32 (x : Int) : I32 (wrap32 x) := by unfold I32 wrap32; omega
theorem wrap64_I64 (x : Int) : I64 (wrap64 x) := by unfold I64 wrap64; omega
theorem mod_U32 (x : Int) : U32 (x % 4294967296) := by unfold U32; omega
theorem udiv_le (x y : Int) (r : Bool) (m : Int) (hx : 0 ≤ x ∧ x ≤ m) (hy : 0 ≤ y ∧ y ≤ m) : 0 ≤ (udiv x y r).1 ∧ (udiv x y r).1 ≤ m := by
  unfold udiv
  split
  · dsimp only; omega
  · split
    · dsimp only
      have h1 := Int.emod_nonneg x (b := y) (by omega)
      have h2 := Int.emod_lt_of_pos x (b := y) (by omega)
      omega
    · dsimp only
      have h1 := Int.ediv_nonneg hx.1 hy.1
      have h2 := Int.ediv_le_self y hx.1
      omega
/-- What whole answers as 64 bits, of an operation of 32. -/
def w32 (op v : Int) : Int := if op = 3 ∨ op = 4 ∨ op = 5 then v % 4294967296 else v % 18446744073709551616
theorem w32_mod (op v : Int) : w32 op v % 4294967296 = v % 4294967296 := by unfold w32; split <;> omega

end Go.Proofs.YteplbbjmbhgllaaGreatDoor
