/-
  Slots and their places, plain. No program in sight.
-/
namespace Go.Proofs.YtpilmdfnbfcmkaaGreat
set_option linter.unusedVariables false

/-- The first of 2, 4, 8. -/
def pw (k : Nat) : Int := if k = 0 then 2 else if k = 1 then 4 else 8
/-- A slot's alignment, behind the first k of 2, 4, 8. -/
def algK (s a : Int) : Nat → Int
  | 0 => a
  | k + 1 => if pw k ≤ s then max (algK s a k) (pw k) else algK s a k
def algI (s a : Int) : Int := algK s a 3
def upI (n a : Int) : Int := if a < 2 then n else (n + a - 1) / a * a
def OkA (a : Int) : Prop := a = 1 ∨ a = 2 ∨ a = 4 ∨ a = 8
theorem algK_ok {s a : Int} (h : OkA a) : ∀ k, OkA (algK s a k)
  | 0 => h
  | k + 1 => by
    have ih := algK_ok (s := s) h k
    unfold algK pw
    unfold OkA at *
    repeat' split
    all_goals first | omega | exact ih
theorem algI_ok {s a : Int} (h : OkA a) : OkA (algI s a) := algK_ok h 3
theorem upI_law {n a : Int} (h : OkA a) (hn : 0 ≤ n) : n ≤ upI n a ∧ upI n a < n + a ∧ upI n a % a = 0 := by
  unfold upI
  unfold OkA at h
  rcases h with rfl | rfl | rfl | rfl <;> simp <;> omega
/-- The places from an end on; the end of all. -/
def plc : Int → List (Int × Int) → List Int × Int
  | e, [] => ([], e)
  | e, s :: l => (upI e (algI s.1 s.2) :: (plc (upI e (algI s.1 s.2) + max s.1 0) l).1, (plc (upI e (algI s.1 s.2) + max s.1 0) l).2)
theorem plc_length (e : Int) (l : List (Int × Int)) : (plc e l).1.length = l.length := by
  induction l generalizing e with
  | nil => rfl
  | cons s l ih => simp [plc, ih]
/-- so far: the places of the first k, and the end behind them -/
def plcK (l : List (Int × Int)) : Nat → List Int × Int
  | 0 => ([], 0)
  | k + 1 => match l[k]? with
    | some s => ((plcK l k).1 ++ [upI (plcK l k).2 (algI s.1 s.2)], upI (plcK l k).2 (algI s.1 s.2) + max s.1 0)
    | none => plcK l k
/-- plain sizes -/
def OkS (l : List (Int × Int)) : Prop := ∀ s ∈ l, 0 ≤ s.1 ∧ s.1 ≤ 10000 ∧ OkA s.2
theorem plcK_succ {l : List (Int × Int)} {k : Nat} {s : Int × Int} (h : l[k]? = some s) :
    plcK l (k + 1) = ((plcK l k).1 ++ [upI (plcK l k).2 (algI s.1 s.2)], upI (plcK l k).2 (algI s.1 s.2) + max s.1 0) := by
  show (match l[k]? with | some s => ((plcK l k).1 ++ [upI (plcK l k).2 (algI s.1 s.2)], upI (plcK l k).2 (algI s.1 s.2) + max s.1 0) | none => plcK l k) = _
  rw [h]
theorem plcK_law {l : List (Int × Int)} (h : OkS l) : ∀ k, k ≤ l.length → (plcK l k).1.length = k ∧ 0 ≤ (plcK l k).2 ∧ (plcK l k).2 ≤ 10008 * k
  | 0, _ => ⟨rfl, by simp [plcK], by simp [plcK]⟩
  | k + 1, hk => by
    obtain ⟨h1, h2, h3⟩ := plcK_law h k (by omega)
    have hs : l[k]? = some l[k] := List.getElem?_eq_getElem (by omega)
    obtain ⟨q1, q2, q3⟩ := h _ (List.mem_of_getElem? hs)
    rw [plcK_succ hs]
    have ha := algI_ok (s := l[k].1) q3
    obtain ⟨u1, u2, _⟩ := upI_law ha h2
    have ha8 : algI l[k].1 l[k].2 ≤ 8 := by unfold OkA at ha; omega
    refine ⟨by simp [h1], ?_, ?_⟩ <;> dsimp only <;> omega
/-- A place, as it was put. -/
theorem plcK_at {l : List (Int × Int)} (h : OkS l) : ∀ m, m ≤ l.length → ∀ k, k < m → ∀ s, l[k]? = some s → (plcK l m).1[k]? = some (upI (plcK l k).2 (algI s.1 s.2))
  | 0, _, k, hk, _, _ => by omega
  | m + 1, hm, k, hk, s, hs => by
    have hms : l[m]? = some l[m] := List.getElem?_eq_getElem (by omega)
    rw [plcK_succ hms]
    have hl := (plcK_law h m (by omega)).1
    by_cases e : k = m
    · subst e
      rw [hms] at hs; injection hs with hs
      rw [List.getElem?_append_right (by omega), hl]
      simp [hs]
    · rw [List.getElem?_append_left (by omega)]
      exact plcK_at h m (by omega) k (by omega) s hs
end Go.Proofs.YtpilmdfnbfcmkaaGreat
