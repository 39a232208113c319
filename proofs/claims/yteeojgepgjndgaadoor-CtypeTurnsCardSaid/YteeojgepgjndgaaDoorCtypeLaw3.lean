/-
  Layouts go by what the types are, not by where they lie.
-/
import Derived.Test.YteeojgepgjndgaaDoorCtypeLaw2
namespace Go.Proofs.YteeojgepgjndgaaDoor
set_option linter.unusedVariables false

def erF (f : Fd) : List UInt8 × Er × Int := (f.name.toList, er f.ty, f.off)
def erN (f : Fd) : List UInt8 × Er := (f.name.toList, er f.ty)
def erL (y : Ly) : List UInt8 × Bool × Int × Int × List (List UInt8 × Er × Int) := (y.name.toList, y.union, y.size, y.align, y.fields.map erF)

theorem find_er : ∀ (K K' : List Ly) (n : List UInt8), K.map erL = K'.map erL → (find K n).map erL = (find K' n).map erL
  | [], [], n, h => rfl
  | [], y :: K', n, h => by simp at h
  | y :: K, [], n, h => by simp at h
  | y :: K, y' :: K', n, h => by
    simp only [List.map_cons, List.cons.injEq] at h
    have ih := find_er K K' n h.2
    have hn : y.name.toList = y'.name.toList := congrArg Prod.fst h.1
    unfold find at ih ⊢
    simp only [List.find?_cons, hn]
    split
    · simp [h.1]
    · exact ih

theorem complete_er (K K' : List Ly) (hK : K.map erL = K'.map erL) : ∀ (t t' : Ty), er t = er t' → complete K t = complete K' t' := by
  intro t
  induction t using Ty.rec (motive_2 := fun _ => True) with
  | arr sv n t ih =>
    intro t' h
    cases t' <;> simp [er] at h
    obtain ⟨rfl, h⟩ := h
    unfold complete
    rw [ih _ h]
  | rcd u n =>
    intro t' h
    cases t' <;> simp [er] at h
    rename_i u' n'
    obtain ⟨rfl, h⟩ := h
    unfold complete
    rw [← h]
    have := find_er K K' n.toList hK
    cases h1 : find K n.toList <;> cases h2 : find K' n.toList <;> rw [h1, h2] at this <;> simp [erL] at this <;> simp [this]
  | num s u => intro t' h; cases t' <;> simp [er] at h; obtain ⟨rfl, rfl⟩ := h; rfl
  | nil => trivial
  | cons => trivial
  | _ => intro t' h; cases t' <;> simp [er] at h <;> rfl

theorem layGo_er (u : Bool) (K K' : List Ly) (hK : K.map erL = K'.map erL) : ∀ (l l' : List Fd) (i : Nat) (seen : List (List UInt8)) (e a : Int) (out out' : List Fd),
    l.map erN = l'.map erN → out.map erF = out'.map erF →
    (layGo u K l i seen e a out).map (fun r => (r.1, r.2.1, r.2.2.map erF)) = (layGo u K' l' i seen e a out').map (fun r => (r.1, r.2.1, r.2.2.map erF))
  | [], [], i, seen, e, a, out, out', h, ho => by simp [layGo, Except.map, ho]
  | [], f :: l', i, seen, e, a, out, out', h, ho => by simp at h
  | f :: l, [], i, seen, e, a, out, out', h, ho => by simp at h
  | f :: l, f' :: l', i, seen, e, a, out, out', h, ho => by
    simp only [List.map_cons, List.cons.injEq, erN, Prod.mk.injEq] at h
    obtain ⟨⟨h1, h2⟩, h3⟩ := h
    unfold layGo
    rw [h1, complete_er K K' hK _ _ h2]
    split
    · rfl
    split
    · rfl
    · exact layGo_er u K K' hK l l' _ _ _ _ _ _ h3 (by simp [ho, erF, h1, h2])

/-- What a layout is, wherever it lies. -/
def layE (u : Bool) (K : List Ly) (l : List Fd) : Except (Int × Int) (Int × Int × List (List UInt8 × Er × Int)) :=
  (layF u K l).map (fun r => (r.1, r.2.1, r.2.2.map erF))
theorem layE_er (u : Bool) (K K' : List Ly) (hK : K.map erL = K'.map erL) (l l' : List Fd) (h : l.map erN = l'.map erN) : layE u K l = layE u K' l' := by
  have g := layGo_er u K K' hK l l' 0 [] 0 1 [] [] h rfl
  unfold layE layF
  cases h1 : layGo u K l 0 [] 0 1 [] with
  | error p =>
    cases h2 : layGo u K' l' 0 [] 0 1 [] with
    | error q =>
      rw [h1, h2] at g
      simp [Except.map] at g
      subst g
      rfl
    | ok q => rw [h1, h2] at g; simp [Except.map] at g
  | ok p =>
    cases h2 : layGo u K' l' 0 [] 0 1 [] with
    | error q => rw [h1, h2] at g; simp [Except.map] at g
    | ok q =>
      obtain ⟨e, a, o⟩ := p
      obtain ⟨e', a', o'⟩ := q
      rw [h1, h2] at g
      simp [Except.map] at g
      obtain ⟨rfl, rfl, g⟩ := g
      dsimp only
      split
      · rfl
      · simp [Except.map, g]
end Go.Proofs.YteeojgepgjndgaaDoor
