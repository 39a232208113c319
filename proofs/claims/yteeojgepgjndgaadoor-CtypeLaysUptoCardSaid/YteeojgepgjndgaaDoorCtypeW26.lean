/-
  What Lay answers, in one form for all its ways.
-/
import Derived.Test.YteeojgepgjndgaaDoorCtypeW18
import Derived.Test.YteeojgepgjndgaaDoorCtypeW19
namespace Go.Proofs.YteeojgepgjndgaaDoor
open Go.RowKit
set_option linter.unusedVariables false
set_option linter.unusedSimpArgs false

/-- The parts of the answer. -/
def LayD (nm : ByteArray) (u : Bool) (K : List Ly) (l : List Fd) (B : Nat) (w' : World) (n' : ByteArray) (u' : Bool) (A' : Option Addr) (m' c' : Nat) (S' L' i c : Int) : Prop :=
  (layF u K l = .error (i, c) ∧ n' = ⟨#[]⟩ ∧ u' = false ∧ A' = none ∧ m' = 0 ∧ c' = 0 ∧ S' = 0 ∧ L' = 0) ∨
  (i = -1 ∧ c = 0 ∧ n' = nm ∧ u' = u ∧ ∃ out, layF u K l = .ok (S', L', out) ∧ RdFs w' (.slice A' m' c') out ∧ m' = out.length ∧ (∀ b, (Value.slice A' m' c').ownBlock = some b → B ≤ b) ∧ ∀ f ∈ out, ∃ g ∈ l, f.ty = g.ty)
def LayQ (nm : ByteArray) (u : Bool) (K : List Ly) (l : List Fd) (w : World) (e : Ending) (w' : World) : Prop :=
  ∃ (n' : ByteArray) (u' : Bool) (A' : Option Addr) (m' c' : Nat) (S' L' i c : Int), e = .returned (.tuple #[.agg #[.string n', .bool u', .slice A' m' c', .int .i64 S', .int .i64 L'], .int .i64 i, .int .i64 c]) ∧ Below w.heap.size w w' ∧ LayD nm u K l w.heap.size w' n' u' A' m' c' S' L' i c
theorem layGo_tys (u : Bool) (K : List Ly) : ∀ (l : List Fd) (i : Nat) (seen : List (List UInt8)) (e a : Int) (out : List Fd) (r : Int × Int × List Fd), layGo u K l i seen e a out = .ok r → ∀ f ∈ r.2.2, f ∈ out ∨ ∃ g ∈ l, f.ty = g.ty
  | [], i, seen, e, a, out, r, h => by
    simp [layGo] at h
    subst h
    exact fun f hf => .inl hf
  | g :: l, i, seen, e, a, out, r, h => by
    unfold layGo at h
    split at h
    · cases h
    · split at h
      · cases h
      · intro f hf
        rcases layGo_tys u K l _ _ _ _ _ r h f hf with h1 | ⟨g', hg, h1⟩
        · rcases List.mem_append.1 h1 with h1 | h1
          · exact .inl h1
          · simp at h1
            exact .inr ⟨g, List.mem_cons_self .., by rw [h1]⟩
        · exact .inr ⟨g', List.mem_cons_of_mem _ hg, h1⟩
theorem layF_tys {u : Bool} {K : List Ly} {l : List Fd} {S A : Int} {out : List Fd} (h : layF u K l = .ok (S, A, out)) : ∀ f ∈ out, ∃ g ∈ l, f.ty = g.ty := by
  unfold layF at h
  split at h
  · cases h
  · rename_i e a out' hg
    split at h
    · cases h
    · injection h with h
      injection h with h1 h
      injection h with h2 h3
      subst h3
      intro f hf
      rcases layGo_tys u K l _ _ _ _ _ _ hg f hf with h1 | h1
      · cases h1
      · exact h1
theorem layQ_of {nm : ByteArray} {u : Bool} {K : List Ly} {l : List Fd} {w : World} {e : Ending} {w' : World} (h : LayP nm u K l w e w') : LayQ nm u K l w e w' := by
  rcases h with ⟨i, c, h, rfl, hb⟩ | ⟨S, A, out, sv, h, rfl, hrd, how, hb⟩
  · exact ⟨_, _, _, _, _, _, _, _, _, rfl, hb, .inl ⟨h, rfl, rfl, rfl, rfl, rfl, rfl, rfl⟩⟩
  · obtain ⟨A', c', rfl⟩ := hrd.1.form
    exact ⟨nm, u, A', out.length, c', S, A, -1, 0, rfl, hb, .inr ⟨rfl, rfl, rfl, rfl, out, h, hrd, rfl, how, layF_tys h⟩⟩
/-- Behind stores to a block that is none of it. -/
theorem LayD.keep {nm : ByteArray} {u : Bool} {K : List Ly} {l : List Fd} {B : Nat} {w w' : World} {n' : ByteArray} {u' : Bool} {A' : Option Addr} {m' c' : Nat} {S' L' i c : Int} (h : LayD nm u K l B w n' u' A' m' c' S' L' i c) {g : Nat} (hg : g < B) (hl : ∀ f ∈ l, InT (fun b => b ≠ g) f.ty)
    (hb : ∀ b, b ≠ g → w'.heap[b]? = w.heap[b]?) : LayD nm u K l B w' n' u' A' m' c' S' L' i c := by
  rcases h with h | ⟨h1, h2, h3, h4, out, h5, h6, h7, h8, h9⟩
  · exact .inl h
  · refine .inr ⟨h1, h2, h3, h4, out, h5, ⟨h6.1.keepB fun b hs hlt => keep_of hlt (hb b (by have := h8 b hs; omega)), fun f hf => ?_⟩, h7, h8, h9⟩
    obtain ⟨x, hx, e⟩ := h9 f hf
    have h10 := h6.2 f hf
    rw [e] at h10 ⊢
    exact h10.keepS (S := fun b => b ≠ g) (fun b hb' _ => hb b hb') _ (hl x hx)
theorem LayD.next {nm : ByteArray} {u : Bool} {K : List Ly} {l : List Fd} {B : Nat} {w w' : World} {n' : ByteArray} {u' : Bool} {A' : Option Addr} {m' c' : Nat} {S' L' i c : Int} (h : LayD nm u K l B w n' u' A' m' c' S' L' i c) (hb : Below w.heap.size w w') : LayD nm u K l B w' n' u' A' m' c' S' L' i c := by
  rcases h with h | ⟨h1, h2, h3, h4, out, h5, h6, h7⟩
  · exact .inl h
  · exact .inr ⟨h1, h2, h3, h4, out, h5, h6.next hb, h7⟩
theorem layq_any (nm : ByteArray) (u : Bool) (s sK : Value) (l : List Fd) (K : List Ly) (w : World) (hK : KOk K) (hs : RdFs w s l) (hk : RdLs w sK K) (hn : ∀ f ∈ l, f.name.size ≤ maxLen) (hl : l.length ≤ 1048576) :
    Calls Tryd.prog 34 #[.string nm, .bool u, s, sK] w (LayQ nm u K l w) := (lay_any nm u s sK l K w hK hs hk hn hl).mono fun e w' h => layQ_of h
theorem rlayq_any (nm : ByteArray) (u : Bool) (s sK : Value) (l : List Fd) (K : List Ly) (w : World) (hK : KOk K) (hs : RdFs w s l) (hk : RdLs w sK K) (hl : l.length ≤ 1048576) :
    Calls Tryd.prog 46 #[.string nm, .bool u, s, sK] w (LayQ nm u K l w) := (rlay_any nm u s sK l K w hK hs hk hl).mono fun e w' h => layQ_of h
theorem RdLs.nil (w : World) : RdLs w (.slice none 0 0) [] := ⟨RdL.nil _ _ _, fun y hy => by cases hy⟩
theorem KOk.nil : KOk [] := fun y hy => by cases hy
end Go.Proofs.YteeojgepgjndgaaDoor
