/-
  Slices that read as lists of whatever is laid out in a fixed number of cells. No program in sight.
-/
import Derived.Test.YteepjngkbjbheaaDoorIf
import Derived.Deep.Slices
import Derived.Laws.OwnMore
import Derived.Below
namespace Go.Proofs.YteepjngkbjbheaaDoor
open Go.RowKit Go.WideShapes Go.ChangeShapes Go.Deep
set_option linter.unusedVariables false

/-- The slice value s reads as the list l: element a lies in the sz cells f a. -/
def RdL {α : Type} (f : α → List Value) (sz : Nat) (w : World) (s : Value) (l : List α) : Prop :=
  ∃ A c, s = .slice A l.length c ∧ l.length ≤ c ∧ c ≤ maxLen ∧ (0 < l.length → ∃ b off, A = some ⟨b, off, none⟩ ∧ b < w.heap.size ∧
    ∀ (k : Nat) (a : α), l[k]? = some a → ∀ (j : Nat) (v : Value), (f a)[j]? = some v → w.cell? ⟨b, off + k * sz + j, none⟩ = some v)

theorem add_at (b off n : Nat) : (⟨b, off, none⟩ : Addr).add n = ⟨b, off + n, none⟩ := by
  unfold Addr.add
  by_cases h0 : n = 0
  · rw [if_pos h0, h0]; rfl
  · rw [if_neg h0]

section
variable {α : Type} {f : α → List Value} {sz : Nat} {w w' : World} {s : Value} {l : List α}

theorem RdL.next (h : RdL f sz w s l) (hb : Below w.heap.size w w') : RdL f sz w' s l := by
  obtain ⟨A, c, e, h1, h2, h3⟩ := h
  refine ⟨A, c, e, h1, h2, fun hn => ?_⟩
  obtain ⟨b, off, e2, hlt, hc⟩ := h3 hn
  exact ⟨b, off, e2, Nat.lt_of_lt_of_le hlt hb.size, fun k a ha j v hv => (hb.cell (p := ⟨b, _, none⟩) hlt).trans (hc k a ha j v hv)⟩
/-- Its block reads as before. -/
theorem RdL.keepB (h : RdL f sz w s l) (hk : ∀ b, s.ownBlock = some b → b < w.heap.size → b < w'.heap.size ∧ ∀ o, w'.cell? ⟨b, o, none⟩ = w.cell? ⟨b, o, none⟩) : RdL f sz w' s l := by
  obtain ⟨A, c, e, h1, h2, h3⟩ := h
  refine ⟨A, c, e, h1, h2, fun hn => ?_⟩
  obtain ⟨b, off, e2, hlt, hc⟩ := h3 hn
  obtain ⟨k1, k2⟩ := hk b (by rw [e, e2]; rfl) hlt
  exact ⟨b, off, e2, k1, fun k a ha j v hv => (k2 _).trans (hc k a ha j v hv)⟩
theorem RdL.nil (f : α → List Value) (sz : Nat) (w : World) : RdL f sz w (.slice none 0 0) [] := ⟨none, 0, rfl, Nat.le_refl _, by decide, fun h => absurd h (by simp)⟩
/-- Where there is an element, there is an address. -/
theorem RdL.some_ (h : RdL f sz w s l) (hn : 0 < l.length) : ∃ b off c, s = .slice (some ⟨b, off, none⟩) l.length c ∧ l.length ≤ c ∧ c ≤ maxLen ∧ b < w.heap.size ∧
    ∀ (k : Nat) (a : α), l[k]? = some a → ∀ (j : Nat) (v : Value), (f a)[j]? = some v → w.cell? ⟨b, off + k * sz + j, none⟩ = some v := by
  obtain ⟨A, c, e, h1, h2, h3⟩ := h
  obtain ⟨b, off, e2, hlt, hc⟩ := h3 hn
  exact ⟨b, off, c, by rw [e, e2], h1, h2, hlt, hc⟩
theorem RdL.form (h : RdL f sz w s l) : ∃ A c, s = .slice A l.length c := by obtain ⟨A, c, e, h1, h2, h3⟩ := h; exact ⟨A, c, e⟩
theorem RdL.len (h : RdL f sz w s l) : l.length ≤ maxLen := by obtain ⟨A, c, e, h1, h2, h3⟩ := h; omega
/-- Cut behind its first elements. -/
theorem RdL.take {A : Option Addr} {n c : Nat} (h : RdL f sz w (.slice A n c) l) (k : Nat) (hk : k ≤ l.length) : RdL f sz w (.slice A k c) (l.take k) := by
  obtain ⟨A', c', e, h1, h2, h3⟩ := h
  injection e with e1 e2 e3
  subst e1 e3
  have hl : (l.take k).length = k := by rw [List.length_take]; omega
  refine ⟨A, c, by rw [hl], by omega, h2, fun hn => ?_⟩
  obtain ⟨b, off, e4, hlt, hc⟩ := h3 (by omega)
  refine ⟨b, off, e4, hlt, fun i a ha j v hv => hc i a ?_ j v hv⟩
  rw [List.getElem?_take] at ha
  split at ha
  · exact ha
  · cases ha
theorem RdL.empty (h : RdL f sz w s l) (hn : l.length = 0) : ∃ A c, s = .slice A 0 c ∧ c ≤ maxLen := by obtain ⟨A, c, e, h1, h2, h3⟩ := h; rw [hn] at e; exact ⟨A, c, e, h2⟩

/-- A slice of the call's own, read. -/
theorem RdL.of_own {base : Nat} {e : TypeId} {c n : Nat} {A : Option Addr} {xs : List Value} (h : w.ownsRow base e sz (.slice A n c) n xs) (hl : l.length = n) (hx : ∀ (k : Nat) (a : α), l[k]? = some a → ∀ (j : Nat) (v : Value), (f a)[j]? = some v → xs[k * sz + j]? = some v) :
    RdL f sz w (.slice A n c) l := by
  have hc : n ≤ c ∧ c ≤ maxLen := by
    rcases h.2 with ⟨h', _⟩ | ⟨g, cap, cur, h', _, _, h1, h2, _⟩
    · injection h' with h1 h2 h3; subst h2; subst h3; exact ⟨Nat.le_refl _, by decide⟩
    · injection h' with h3 h4 h5; subst h5; exact ⟨h1, h2⟩
  refine ⟨A, c, by rw [hl], by omega, hc.2, fun hn => ?_⟩
  rcases h.2 with ⟨h', h0, _⟩ | ⟨g, cap, cur, hv, _, hg, _⟩
  · omega
  have hA : A = some ⟨g, 0, none⟩ := by injection hv
  subst hA
  have hlt : g < w.heap.size := by
    rcases Nat.lt_or_ge g w.heap.size with h1 | h1
    · exact h1
    · rw [Array.getElem?_eq_none h1] at hg; cases hg
  refine ⟨g, 0, rfl, hlt, fun k a ha j v hv => ?_⟩
  have h1 := World.ownsRow.cells h (g := g) rfl (k * sz + j) v (hx k a ha j v hv)
  rw [add_at] at h1
  rw [Nat.add_assoc]
  exact h1
end

section
variable {H : Type} {enc : TypeId × Value → H} {P : Program} {w : World} {base : Nat} {spare : Nat → Bool} {held : Bool}

theorem cell_spot {w : World} {a : Addr} {v : Value} (h : w.cell? a = some v) : a.spot = none := by
  unfold World.cell? at h
  split at h
  · split at h
    · cases h
    · rename_i h1; cases hs : a.spot with
      | none => rfl
      | some x => rw [hs] at h1; simp at h1
  · cases h

theorem cell_block {w : World} {a : Addr} {v : Value} (h : w.cell? a = some v) : a.block < w.heap.size := by
  unfold World.cell? at h
  split at h
  · rename_i h1
    rcases Nat.lt_or_ge a.block w.heap.size with hlt | hge
    · exact hlt
    · rw [Array.getElem?_eq_none hge] at h1; cases h1
  · cases h

theorem list_of {α : Type} {p : Nat → α → Prop} : ∀ (n : Nat), (∀ i, i < n → ∃ a, p i a) → ∃ l : List α, l.length = n ∧ ∀ i a, l[i]? = some a → p i a
  | 0, _ => ⟨[], rfl, fun i a h => by simp at h⟩
  | n + 1, h => by
    obtain ⟨l, hl, hp⟩ := list_of n (fun i hi => h i (by omega))
    obtain ⟨a, ha⟩ := h n (by omega)
    refine ⟨l ++ [a], by simp [hl], fun i b hb => ?_⟩
    by_cases c : i < n
    · rw [List.getElem?_append_left (by omega)] at hb; exact hp i b hb
    · rw [List.getElem?_append_right (by omega)] at hb
      have h0 : i - l.length = 0 := by
        rcases Nat.eq_zero_or_pos (i - l.length) with h0 | h0
        · exact h0
        · rw [List.getElem?_eq_none (by show 1 ≤ _; omega)] at hb; cases hb
      rw [h0] at hb
      injection hb with hb
      subst hb
      have : i = n := by omega
      rw [this]; exact ha

/-- A slice that came in, opened: by what one element is opened to. -/
theorem open_rdl {α : Type} (f : α → List Value) (Ok : α → Prop) {t e : TypeId} {fuel : Nat} {cs : List Value} {x : DataW H × List MemPlace} (ht : P.underlying t = some (.slice e)) (hsz : 0 < P.cellsOf e)
    (hel : ∀ (n : Nat) (cs : List Value) (y : DataW H × List MemPlace), DataW.trod enc P w base spare held n e cs = some y → ∃ a : α, cs = f a ∧ Ok a)
    (h : DataW.trod enc P w base spare held fuel t cs = some x) : ∃ (s : Value) (l : List α), cs = [s] ∧ RdL f (P.cellsOf e) w s l ∧ ∀ a ∈ l, Ok a := by
  rcases open_slice ht h with ⟨h0, _⟩ | ⟨a, len, cap, m, n, D, Pl, hcs, hb, hl, hm, hmm, hx, hi⟩
  · exact ⟨_, [], h0, RdL.nil _ _ _, fun a ha => by simp at ha⟩
  · have hlm : len ≤ m := by rw [hmm]; split <;> omega
    obtain ⟨l, hll, hp⟩ := list_of (p := fun i (b : α) => w.cells? base (a.add (i * P.cellsOf e)) (P.cellsOf e) = some (f b) ∧ Ok b) len (fun i hil => by
      obtain ⟨cs', h1, h2⟩ := hi i (by omega)
      obtain ⟨b, rfl, hok⟩ := hel n cs' _ h2
      exact ⟨b, h1, hok⟩)
    refine ⟨_, l, hcs, ⟨some a, cap, by rw [hll], by omega, hm, fun hn => ?_⟩, fun b hb' => ?_⟩
    · have h0 : l[0]? = some l[0] := List.getElem?_eq_getElem hn
      obtain ⟨hc0, _⟩ := hp 0 _ h0
      obtain ⟨_, hc1, hc2⟩ := World.cells?_some hc0
      have hz := hc2 0 hsz
      have hf0 : 0 < (f l[0]).length := by omega
      rw [List.getElem?_eq_getElem hf0] at hz
      have hz1 : (a.add (0 * P.cellsOf e)).add 0 = a := by simp [Addr.add]
      rw [hz1] at hz
      have hspot := cell_spot hz
      have hblk := cell_block hz
      obtain ⟨b, off, sp⟩ := a
      dsimp only at hspot hblk
      subst hspot
      refine ⟨b, off, rfl, hblk, fun k c hk j v hv => ?_⟩
      obtain ⟨hck, _⟩ := hp k c hk
      obtain ⟨_, hck1, hck2⟩ := World.cells?_some hck
      have hj : j < (f c).length := by
        rcases Nat.lt_or_ge j (f c).length with h1 | h1
        · exact h1
        · rw [List.getElem?_eq_none h1] at hv; cases hv
      have hkj := hck2 j (by omega)
      rw [hv, add_add] at hkj
      rw [add_at, ← Nat.add_assoc] at hkj
      exact hkj
    · obtain ⟨i, hib⟩ := List.getElem?_of_mem hb'
      exact (hp i b hib).2
end

end Go.Proofs.YteepjngkbjbheaaDoor
