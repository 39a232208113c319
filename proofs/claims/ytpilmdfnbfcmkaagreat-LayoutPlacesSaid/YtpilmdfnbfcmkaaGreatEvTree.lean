/-
  What the reckoner's trees, frames and lists hold. No program in sight.
-/
import Derived.Test.YtpilmdfnbfcmkaaGreatEvDefs
import Derived.Calls
namespace Go.Proofs.YtpilmdfnbfcmkaaGreat.Ev
set_option linter.unusedVariables false
set_option linter.unusedSimpArgs false

theorem forceN_eq (n : Nat) (c : Nat → Ans) : forceN n c = c n := by cases n <;> rfl
theorem forceI_eq (n : Int) (c : Int → Ans) : forceI n c = c n := by
  cases n with
  | ofNat m => exact forceN_eq m fun m => c (Int.ofNat m)
  | negSucc m => exact forceN_eq m fun m => c (Int.negSucc m)
theorem forceB_eq (b : Bool) (k : Bool → Ans) : forceB b k = k b := by cases b <;> rfl
theorem boolV_eq (b : Bool) (c : Value → Ans) : boolV b c = c (.bool b) := by cases b <;> rfl
theorem intV_eq (k : IntKind) (n : Int) (c : Value → Ans) : intV k n c = c (.int k n) := forceI_eq _ _
theorem iteB_eq (b : Bool) (f t : Ans) : iteB b f t = if b = true then t else f := by cases b <;> rfl
theorem takeK_eq {α : Type} : ∀ (n : Nat) (l : List α) (k : List α → Ans), takeK n l k = k (l.take n)
  | 0, _, _ => rfl
  | n + 1, [], _ => rfl
  | n + 1, x :: l, k => takeK_eq n l fun r => k (x :: r)
theorem dropK_eq {α : Type} : ∀ (n : Nat) (l : List α) (k : List α → Ans), dropK n l k = k (l.drop n)
  | 0, _, _ => rfl
  | n + 1, [], _ => rfl
  | n + 1, x :: l, k => dropK_eq n l k
theorem appK_eq {α : Type} : ∀ (l r : List α) (k : List α → Ans), appK l r k = k (l ++ r)
  | [], _, _ => rfl
  | x :: l, r, k => appK_eq l r fun t => k (x :: t)
theorem layK_eq {α : Type} (n : Nat) (vs l : List α) (k : List α → Ans) : layK n vs l k = k (l.take n ++ (vs ++ l.drop (n + vs.length))) := by
  unfold layK
  rw [takeK_eq, dropK_eq, appK_eq, appK_eq]
  rfl
theorem nth_eq {α : Type} : ∀ (l : List α) (n : Nat), nth l n = l[n]?
  | [], 0 => rfl
  | [], n + 1 => rfl
  | x :: l, 0 => rfl
  | x :: l, n + 1 => by rw [List.getElem?_cons_succ, ← nth_eq l n]; rfl
theorem repK_eq {α : Type} (z : List α) : ∀ (n : Nat) (k : List α → Ans), repK z n k = k (List.replicate n z).flatten
  | 0, _ => rfl
  | n + 1, k => by
    show repK z n (fun r => appK z r k) = _
    rw [repK_eq z n, appK_eq, List.replicate_succ, List.flatten_cons]

section
variable {a : Value} {mm : Mem}
theorem withO_ok {α : Type} {why : Nat} {x : Option α} {f : α → Ans} (h : withO why x f = .ok a mm) : ∃ y, x = some y ∧ f y = .ok a mm := by
  cases x with
  | none => cases h
  | some y => exact ⟨y, rfl, h⟩
theorem iteB_ok {b : Bool} {f t : Ans} (h : iteB b f t = .ok a mm) : (b = true ∧ t = .ok a mm) ∨ (b = false ∧ f = .ok a mm) := by
  cases b
  · exact .inr ⟨rfl, h⟩
  · exact .inl ⟨rfl, h⟩
theorem iteB_yes {b : Bool} {w : Nat} {t : Ans} (h : iteB b (.no w) t = .ok a mm) : b = true ∧ t = .ok a mm := by
  cases b
  · cases h
  · exact ⟨rfl, h⟩
theorem iteB_not {b : Bool} {w : Nat} {f : Ans} (h : iteB b f (.no w) = .ok a mm) : b = false ∧ f = .ok a mm := by
  cases b
  · exact ⟨rfl, h⟩
  · cases h

/-! trees -/
def PT.find {α : Type} : PT α → Nat → Option α
  | .leaf, _ => none
  | .node l o r, 0 => o
  | .node l o r, m + 1 => if m % 2 = 0 then l.find (m / 2) else r.find (m / 2)
theorem land_one (m : Nat) : Nat.land m 1 = m % 2 := Nat.and_one_is_mod m
theorem par (m : Nat) (f t : Ans) : (Nat.rec (motive := fun _ => Ans) t (fun _ _ => f) (Nat.land m 1) : Ans) = if m % 2 = 0 then t else f := by
  rw [land_one]
  rcases Nat.mod_two_eq_zero_or_one m with h | h <;> rw [h] <;> rfl
theorem PT.get_ok {α : Type} {why : Nat} : ∀ {t : PT α} {k : Nat} {c : α → Ans}, PT.get why t k c = .ok a mm → ∃ v, t.find k = some v ∧ c v = .ok a mm
  | .leaf, k, c, h => by cases h
  | .node l o r, 0, c, h => by
    cases o with
    | none => cases h
    | some v => exact ⟨v, rfl, h⟩
  | .node l o r, m + 1, c, h => by
    have h' : (Nat.rec (motive := fun _ => Ans) (PT.get why l (Nat.div m 2) c) (fun _ _ => PT.get why r (Nat.div m 2) c) (Nat.land m 1) : Ans) = .ok a mm := h
    rw [par] at h'
    show ∃ v, (if m % 2 = 0 then l.find (m / 2) else r.find (m / 2)) = some v ∧ _
    split at h' <;> rename_i hp
    · rw [if_pos hp]; exact PT.get_ok h'
    · rw [if_neg hp]; exact PT.get_ok h'
theorem PT.path_ok {α : Type} : ∀ {f k : Nat} {v : Option α} {c : PT α → Ans}, PT.path f k v c = .ok a mm → ∃ t, c t = .ok a mm ∧ ∀ j, t.find j = if j = k then v else none
  | 0, k, v, c, h => by cases h
  | f + 1, 0, v, c, h => ⟨_, h, fun j => by
      cases j with
      | zero => rfl
      | succ j => simp only [PT.find]; split <;> simp⟩
  | f + 1, m + 1, v, c, h => by
    have h' : (Nat.rec (motive := fun _ => Ans) (PT.path f (Nat.div m 2) v fun l => c (.node l none .leaf)) (fun _ _ => PT.path f (Nat.div m 2) v fun r => c (.node .leaf none r)) (Nat.land m 1) : Ans) = .ok a mm := h
    rw [par] at h'
    split at h' <;> rename_i hp
    · obtain ⟨t, ht, hf⟩ := PT.path_ok h'
      refine ⟨_, ht, fun j => ?_⟩
      cases j with
      | zero => simp [PT.find]
      | succ j =>
        simp only [PT.find, hf, show Nat.div m 2 = m / 2 from rfl]
        by_cases hj : j % 2 = 0
        · rw [if_pos hj]
          by_cases e : j = m
          · subst e; simp
          · rw [if_neg (by omega), if_neg (by omega)]
        · rw [if_neg hj, if_neg (by omega)]
    · obtain ⟨t, ht, hf⟩ := PT.path_ok h'
      refine ⟨_, ht, fun j => ?_⟩
      cases j with
      | zero => simp [PT.find]
      | succ j =>
        simp only [PT.find, hf, show Nat.div m 2 = m / 2 from rfl]
        by_cases hj : j % 2 = 0
        · rw [if_pos hj, if_neg (by omega)]
        · rw [if_neg hj]
          by_cases e : j = m
          · subst e; simp
          · rw [if_neg (by omega), if_neg (by omega)]
theorem PT.set_ok {α : Type} : ∀ {t : PT α} {k : Nat} {v : Option α} {c : PT α → Ans}, PT.set t k v c = .ok a mm → ∃ t', c t' = .ok a mm ∧ ∀ j, t'.find j = if j = k then v else t.find j
  | .leaf, k, v, c, h => by
    obtain ⟨t, ht, hf⟩ := PT.path_ok (f := 40) h
    exact ⟨t, ht, hf⟩
  | .node l o r, 0, v, c, h => ⟨_, h, fun j => by cases j <;> simp [PT.find]⟩
  | .node l o r, m + 1, v, c, h => by
    have h' : (Nat.rec (motive := fun _ => Ans) (PT.set l (Nat.div m 2) v fun l => c (.node l o r)) (fun _ _ => PT.set r (Nat.div m 2) v fun r => c (.node l o r)) (Nat.land m 1) : Ans) = .ok a mm := h
    rw [par] at h'
    split at h' <;> rename_i hp
    · obtain ⟨t, ht, hf⟩ := PT.set_ok h'
      refine ⟨_, ht, fun j => ?_⟩
      cases j with
      | zero => simp [PT.find]
      | succ j =>
        simp only [PT.find, hf, show Nat.div m 2 = m / 2 from rfl]
        by_cases hj : j % 2 = 0
        · rw [if_pos hj, if_pos hj]
          by_cases e : j = m
          · subst e; simp
          · rw [if_neg (by omega), if_neg (by omega)]
        · rw [if_neg hj, if_neg (by omega), if_neg hj]
    · obtain ⟨t, ht, hf⟩ := PT.set_ok h'
      refine ⟨_, ht, fun j => ?_⟩
      cases j with
      | zero => simp [PT.find]
      | succ j =>
        simp only [PT.find, hf, show Nat.div m 2 = m / 2 from rfl]
        by_cases hj : j % 2 = 0
        · rw [if_pos hj, if_neg (by omega), if_pos hj]
        · rw [if_neg hj, if_neg hj]
          by_cases e : j = m
          · subst e; simp
          · rw [if_neg (by omega), if_neg (by omega)]
theorem PT.ofList_ok {α : Type} : ∀ {l : List α} {k : Nat} {t : PT α} {c : PT α → Ans}, PT.ofList l k t c = .ok a mm → ∃ t', c t' = .ok a mm ∧ ∀ j, t'.find j = if k ≤ j ∧ j < k + l.length then l[j - k]? else t.find j
  | [], k, t, c, h => ⟨t, h, fun j => by rw [if_neg (by simp only [List.length_nil]; omega)]⟩
  | x :: l, k, t, c, h => by
    obtain ⟨t1, h1, hf1⟩ := PT.set_ok (show PT.set t k (some x) (fun t' => PT.ofList l (Nat.succ k) t' c) = .ok a mm from h)
    obtain ⟨t2, h2, hf2⟩ := PT.ofList_ok h1
    refine ⟨t2, h2, fun j => ?_⟩
    rw [hf2, hf1]
    simp only [List.length_cons]
    by_cases e : j = k
    · subst e; rw [if_neg (by omega), if_pos rfl, if_pos (by omega), Nat.sub_self]; rfl
    · rw [if_neg e]
      by_cases hj : k + 1 ≤ j ∧ j < k + 1 + l.length
      · rw [if_pos (by simpa [Nat.succ_eq_add_one] using hj), if_pos (by omega), show j - k = (j - (k + 1)) + 1 by omega, List.getElem?_cons_succ]
      · rw [if_neg (by simpa [Nat.succ_eq_add_one] using hj), if_neg (by omega)]

/-! frames -/
theorem j20 (j : Nat) : (j = 0 ∨ j = 1 ∨ j = 2 ∨ j = 3 ∨ j = 4 ∨ j = 5 ∨ j = 6 ∨ j = 7 ∨ j = 8 ∨ j = 9 ∨ j = 10 ∨ j = 11 ∨ j = 12 ∨ j = 13 ∨ j = 14 ∨ j = 15 ∨ j = 16 ∨ j = 17 ∨ j = 18 ∨ j = 19) ∨ ∃ n, j = n + 20 := by
  by_cases h : j < 20
  · exact .inl (by omega)
  · exact .inr ⟨j - 20, by omega⟩
theorem j16 (j : Nat) (h : j < 16) : j = 0 ∨ j = 1 ∨ j = 2 ∨ j = 3 ∨ j = 4 ∨ j = 5 ∨ j = 6 ∨ j = 7 ∨ j = 8 ∨ j = 9 ∨ j = 10 ∨ j = 11 ∨ j = 12 ∨ j = 13 ∨ j = 14 ∨ j = 15 := by omega
theorem selL_set (i : Nat) {e : L2} {l : L1} {k : L2 → Ans} (h : (selL i).set e l k = .ok a mm) : ∃ e', k e' = .ok a mm ∧ ∀ j, (selL j).get e' = if j = i then l else (selL j).get e := by
  rcases j20 i with hi | ⟨n, rfl⟩
  · rcases hi with rfl | rfl | rfl | rfl | rfl | rfl | rfl | rfl | rfl | rfl | rfl | rfl | rfl | rfl | rfl | rfl | rfl | rfl | rfl | rfl
    all_goals
      refine ⟨_, h, fun j => ?_⟩
      rcases j20 j with hj | ⟨n, rfl⟩
      · rcases hj with rfl | rfl | rfl | rfl | rfl | rfl | rfl | rfl | rfl | rfl | rfl | rfl | rfl | rfl | rfl | rfl | rfl | rfl | rfl | rfl
        all_goals rfl
      · exact (if_neg (by omega)).symm
  · cases h
theorem selV_set (i : Nat) (hi : i < 16) {e : L1} {l : OV} {k : L1 → Ans} (h : (selV i).set e l k = .ok a mm) : ∃ e', k e' = .ok a mm ∧ ∀ j, j < 16 → (selV j).get e' = if j = i then l else (selV j).get e := by
  rcases j16 i hi with rfl | rfl | rfl | rfl | rfl | rfl | rfl | rfl | rfl | rfl | rfl | rfl | rfl | rfl | rfl | rfl
  all_goals
    refine ⟨_, h, fun j hj => ?_⟩
    rcases j16 j hj with rfl | rfl | rfl | rfl | rfl | rfl | rfl | rfl | rfl | rfl | rfl | rfl | rfl | rfl | rfl | rfl
    all_goals rfl
def OV.opt : OV → Option Value
  | .none => Option.none
  | .some v => Option.some v
noncomputable def findT (e : L2) (t : Nat) : Option Value := ((selV (t % 16)).get ((selL (t / 16)).get e)).opt
theorem getT_ok {e : L2} {t : Nat} {k : Value → Ans} (h : getT e t k = .ok a mm) : ∃ v, findT e t = some v ∧ k v = .ok a mm := by
  have h' : (OV.rec (motive := fun _ => Ans) (.no (Nat.add 1000 t)) k ((selV (t % 16)).get ((selL (t / 16)).get e)) : Ans) = .ok a mm := h
  unfold findT
  cases hv : (selV (t % 16)).get ((selL (t / 16)).get e) with
  | none => rw [hv] at h'; cases h'
  | some v => rw [hv] at h'; exact ⟨v, rfl, h'⟩
theorem setT_ok {e : L2} {t : Nat} {v : Value} {k : L2 → Ans} (h : setT e t v k = .ok a mm) : ∃ e', k e' = .ok a mm ∧ ∀ u, findT e' u = if u = t then some v else findT e u := by
  have h' : (selV (t % 16)).set ((selL (t / 16)).get e) (.some v) (fun l => (selL (t / 16)).set e l k) = .ok a mm := h
  obtain ⟨l, hl, hfl⟩ := selV_set _ (Nat.mod_lt _ (by decide)) h'
  obtain ⟨e', he, hfe⟩ := selL_set _ hl
  refine ⟨e', he, fun u => ?_⟩
  unfold findT
  rw [hfe]
  by_cases hq : u / 16 = t / 16
  · rw [if_pos hq, hfl _ (Nat.mod_lt _ (by decide))]
    by_cases hr : u % 16 = t % 16
    · rw [if_pos hr, if_pos (by omega)]; rfl
    · rw [if_neg hr, if_neg (by omega), hq]
  · rw [if_neg hq, if_neg (by intro e; subst e; exact hq rfl)]
theorem findT_e2 (t : Nat) : findT e2 t = none := by
  have h1 : ∀ j, (selL j).get e2 = e1 := fun j => by
    rcases j20 j with hj | ⟨n, rfl⟩
    · rcases hj with rfl | rfl | rfl | rfl | rfl | rfl | rfl | rfl | rfl | rfl | rfl | rfl | rfl | rfl | rfl | rfl | rfl | rfl | rfl | rfl <;> rfl
    · rfl
  unfold findT
  rw [h1]
  rcases j16 (t % 16) (Nat.mod_lt _ (by decide)) with h | h | h | h | h | h | h | h | h | h | h | h | h | h | h | h <;> rw [h] <;> rfl
end
end Go.Proofs.YtpilmdfnbfcmkaaGreat.Ev
