/-
  A record's layout: its members stand one behind the other, aligned, within its size; a union's at its beginning.
-/
import Derived.Test.YteeojgepgjndgaaDoorCtypeLaw1
namespace Go.Proofs.YteeojgepgjndgaaDoor
set_option linter.unusedVariables false

/-- A record's layout: its size, its alignment, its members; or where it goes wrong, and how. -/
def layF (u : Bool) (K : List Ly) (l : List Fd) : Except (Int × Int) (Int × Int × List Fd) :=
  match layGo u K l 0 [] 0 1 [] with
  | .error (i, c) => .error ((i : Int), c)
  | .ok (e, a, out) => if upTo e a > 1048576 then .error (-1, 7) else .ok (upTo e a, a, out)

def Al (a : Int) : Prop := a = 1 ∨ a = 2 ∨ a = 4 ∨ a = 8
/-- Layouts as they come of layF. -/
def KOk (K : List Ly) : Prop := ∀ y ∈ K, 0 ≤ y.size ∧ y.size ≤ 1048576 ∧ Al y.align
theorem complete_ok (K : List Ly) (hK : KOk K) : ∀ (t : Ty) (s a : Int), complete K t = some (s, a) → 0 ≤ s ∧ s ≤ 1048576 ∧ Al a := by
  intro t
  induction t using Ty.rec (motive_2 := fun _ => True) with
  | arr sv n t ih =>
    intro s a h
    unfold complete at h
    cases ht : complete K t with
    | none => rw [ht] at h; cases h
    | some p =>
      obtain ⟨s', a'⟩ := p
      rw [ht] at h
      obtain ⟨h1, h2, h3⟩ := ih _ _ ht
      dsimp only at h
      split at h
      · rename_i hc
        injection h with h
        injection h with e1 e2
        subst e1 e2
        rcases Int.lt_or_le 0 s' with hp | hp
        · rcases hc.2 with h4 | h4
          · omega
          · have h5 : s' * n ≤ s' * (1048576 / s') := Int.mul_le_mul_of_nonneg_left h4 h1
            have h6 : s' * (1048576 / s') ≤ 1048576 := by
              have := Int.mul_ediv_add_emod 1048576 s'
              have := Int.emod_nonneg 1048576 (show s' ≠ 0 by omega)
              omega
            exact ⟨Int.mul_nonneg h1 (by omega), by omega, h3⟩
        · have : s' = 0 := by omega
          subst this
          exact ⟨by simp, by simp, h3⟩
      · cases h
  | num s u =>
    intro s' a h
    unfold complete at h
    split at h
    · rename_i hs
      rw [isSz_iff] at hs
      injection h with h
      injection h with e1 e2
      subst e1 e2
      unfold Al
      omega
    · cases h
  | rcd u n =>
    intro s a h
    unfold complete at h
    cases hf : find K n.toList with
    | none => rw [hf] at h; cases h
    | some l =>
      rw [hf] at h
      dsimp only at h
      split at h
      · injection h with h
        injection h with e1 e2
        subst e1 e2
        exact hK l (List.mem_of_find?_eq_some hf)
      · cases h
  | flt => intro s a h; simp [complete] at h; obtain ⟨rfl, rfl⟩ := h; unfold Al; omega
  | ptr sv t ih => intro s a h; simp [complete] at h; obtain ⟨rfl, rfl⟩ := h; unfold Al; omega
  | none => intro s a h; simp [complete] at h
  | void => intro s a h; simp [complete] at h
  | fn sv r ps => intro s a h; simp [complete] at h
  | nil => trivial
  | cons => trivial

theorem upTo_ge (n a : Int) (ha : Al a) : n ≤ upTo n a ∧ upTo n a % a = 0 ∧ upTo n a < n + a := by
  unfold upTo
  rcases ha with rfl | rfl | rfl | rfl <;> simp <;> omega

/-- What the law asks of a member: e: where the last one ended. -/
def MeetF (u : Bool) (K : List Ly) (A S e : Int) (f : Fd) : Prop :=
  ∃ s b, complete K f.ty = some (s, b) ∧ 1 ≤ b ∧ f.off % b = 0 ∧ A % b = 0 ∧ f.off + s ≤ S ∧ (u = true → f.off = 0) ∧ (u = false → e ≤ f.off ∧ f.off < e + b)
def offEnd (K : List Ly) (f : Fd) : Int := f.off + ((complete K f.ty).getD (0, 0)).1
def Meets (u : Bool) (K : List Ly) (A S : Int) : Int → List Fd → Prop
  | _, [] => True
  | e, f :: l => MeetF u K A S e f ∧ Meets u K A S (offEnd K f) l

theorem Al.dvd {a b : Int} (ha : Al a) (hb : Al b) : Al (max a b) ∧ (max a b) % a = 0 ∧ (max a b) % b = 0 := by
  rcases ha with rfl | rfl | rfl | rfl <;> rcases hb with rfl | rfl | rfl | rfl <;> exact ⟨by unfold Al; decide, by decide, by decide⟩
theorem Al.trans {a b c : Int} (ha : Al a) (hb : Al b) (hc : Al c) (h1 : b % a = 0) (h2 : c % b = 0) : c % a = 0 := by
  rcases ha with rfl | rfl | rfl | rfl <;> rcases hb with rfl | rfl | rfl | rfl <;> rcases hc with rfl | rfl | rfl | rfl <;> first | rfl | (exfalso; revert h1 h2; decide)

theorem layGo_ok (u : Bool) (K : List Ly) (hK : KOk K) : ∀ (l : List Fd) (i : Nat) (seen : List (List UInt8)) (e a : Int) (out : List Fd) (e' a' : Int) (out' : List Fd),
    0 ≤ e → Al a → layGo u K l i seen e a out = .ok (e', a', out') → e' < 4194304 →
    ∃ new, out' = out ++ new ∧ new.length = l.length ∧ e ≤ e' ∧ Al a' ∧ a' % a = 0 ∧ ∀ S, e' ≤ S → ∀ p, (u = false → p = e) → Meets u K a' S p new
  | [], i, seen, e, a, out, e', a', out', h0, ha, h, hlt => by
    simp [layGo] at h
    obtain ⟨rfl, rfl, rfl⟩ := h
    exact ⟨[], by simp, rfl, Int.le_refl _, ha, Int.emod_self, fun S hS p hp => trivial⟩
  | f :: l, i, seen, e, a, out, e', a', out', h0, ha, h, hlt => by
    unfold layGo at h
    split at h
    · cases h
    cases hc : complete K f.ty with
    | none => rw [hc] at h; cases h
    | some sb =>
      obtain ⟨s, b⟩ := sb
      rw [hc] at h
      dsimp only at h
      obtain ⟨s0, s1, hb⟩ := complete_ok K hK _ _ _ hc
      obtain ⟨q1, q2, q3⟩ := upTo_ge e b hb
      obtain ⟨d1, d2, d3⟩ := ha.dvd hb
      have hat : 0 ≤ (if u then 0 else upTo e b) := by split <;> omega
      obtain ⟨at_, hat_⟩ : ∃ x, x = (if u then 0 else upTo e b) := ⟨_, rfl⟩
      rw [← hat_] at h hat
      obtain ⟨new, k1, k2, k3, k4, k5, k6⟩ := layGo_ok u K hK l (i + 1) _ _ _ _ _ _ _ (by omega) d1 h hlt
      have hb1 : 1 ≤ b := by rcases hb with rfl | rfl | rfl | rfl <;> decide
      have hmin : min (max e (at_ + s)) 4194304 = max e (at_ + s) := by omega
      refine ⟨⟨f.name, f.ty, at_⟩ :: new, by rw [k1]; simp, by simp [k2], by omega, k4, ha.trans d1 k4 d2 k5, fun S hS p hp => ?_⟩
      refine ⟨⟨s, b, hc, hb1, ?_, hb.trans d1 k4 d3 k5, ?_, ?_, ?_⟩, ?_⟩
      · show at_ % b = 0
        rw [hat_]; split
        · simp
        · exact q2
      · show at_ + s ≤ S
        omega
      · intro hu; show at_ = 0; rw [hat_, if_pos hu]
      · intro hu
        have : at_ = upTo e b := by rw [hat_, hu]; rfl
        show p ≤ at_ ∧ at_ < p + b
        rw [hp hu, this]
        exact ⟨q1, q3⟩
      · refine k6 S hS _ (fun hu => ?_)
        have : at_ = upTo e b := by rw [hat_, hu]; rfl
        show offEnd K ⟨f.name, f.ty, at_⟩ = _
        unfold offEnd
        rw [hc]
        show at_ + s = _
        rw [hmin]
        omega

theorem layF_ok (u : Bool) (K : List Ly) (hK : KOk K) (l : List Fd) (S A : Int) (out : List Fd) (h : layF u K l = .ok (S, A, out)) :
    out.length = l.length ∧ Al A ∧ S % A = 0 ∧ 0 ≤ S ∧ S ≤ 1048576 ∧ Meets u K A S 0 out := by
  unfold layF at h
  cases hg : layGo u K l 0 [] 0 1 [] with
  | error p => rw [hg] at h; cases h
  | ok p =>
    obtain ⟨e, a, o⟩ := p
    rw [hg] at h
    dsimp only at h
    split at h
    · cases h
    · rename_i hle
      injection h with h
      injection h with h1 h2
      injection h2 with h2 h3
      subst h1 h2 h3
      have hlt : e < 4194304 := by
        unfold upTo at hle
        split at hle
        · omega
        · rename_i h2
          have h3 : e + a - 1 < (e + a - 1) / a * a + a := by
            have := Int.mul_ediv_add_emod (e + a - 1) a
            have := Int.emod_lt_of_pos (e + a - 1) (show 0 < a by omega)
            have h6 : (e + a - 1) / a * a = a * ((e + a - 1) / a) := Int.mul_comm _ _
            omega
          omega
      obtain ⟨new, k1, k2, k3, k4, k5, k6⟩ := layGo_ok u K hK l 0 [] 0 1 [] e a o (Int.le_refl _) (.inl rfl) hg hlt
      obtain ⟨q1, q2, q3⟩ := upTo_ge e a k4
      simp only [List.nil_append] at k1
      subst k1
      exact ⟨k2, k4, q2, by omega, by omega, k6 _ q1 0 (fun _ => rfl)⟩
theorem layF_err (u : Bool) (K : List Ly) (l : List Fd) (i c : Int) (h : layF u K l = .error (i, c)) : c ≠ 0 ∧ (0 ≤ i ↔ c ≠ 7) ∧ (c = 4 ∨ c = 5 ∨ c = 7) := by
  have hg : ∀ (l : List Fd) (i : Nat) (seen : List (List UInt8)) (e a : Int) (out : List Fd) (j : Nat) (c : Int), layGo u K l i seen e a out = .error (j, c) → c = 4 ∨ c = 5 := by
    intro l
    induction l with
    | nil => intro i seen e a out j c h; simp [layGo] at h
    | cons f l ih =>
      intro i seen e a out j c h
      unfold layGo at h
      split at h
      · injection h with h; injection h with h1 h2; exact .inl h2.symm
      · split at h
        · injection h with h; injection h with h1 h2; exact .inr h2.symm
        · exact ih _ _ _ _ _ _ _ h
  unfold layF at h
  cases hl : layGo u K l 0 [] 0 1 [] with
  | error p =>
    obtain ⟨j, d⟩ := p
    rw [hl] at h
    injection h with h; injection h with h1 h2
    subst h1 h2
    have := hg _ _ _ _ _ _ _ _ hl
    omega
  | ok p =>
    rw [hl] at h
    obtain ⟨e, a, o⟩ := p
    dsimp only at h
    split at h
    · injection h with h; injection h with h1 h2; subst h1 h2; omega
    · cases h
end Go.Proofs.YteeojgepgjndgaaDoor
