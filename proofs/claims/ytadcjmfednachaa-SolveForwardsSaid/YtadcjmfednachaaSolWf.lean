/-
  Rows of rows of numbers that came in, opened.
-/
import Derived.Test.YtadcjmfednachaaProg
import Derived.Test.YtadcjmfednachaaArgs
import Derived.Test.YtadcjmfednachaaSolMap
import Derived.Test.YtadcjmfednachaaMat
namespace Go.Proofs.Ytadcjmfednachaa
open Go.RowKit Go.WideShapes Go.ChangeShapes Go.Deep
set_option linter.unusedVariables false
set_option maxRecDepth 100000

structure RwS where
  sv : Value
  l : List Int
section
variable {H : Type} {enc : TypeId × Value → H} {w : World} {base : Nat} {spare : Nat → Bool} {held : Bool} {n : Nat} {cs : List Value}
theorem cells_i : Try.prog.cellsOf 3 = 1 := by kernel_rfl
theorem cells_is : Try.prog.cellsOf 28 = 1 := by kernel_rfl
theorem el_int (n : Nat) (cs : List Value) (y : DataW H × List MemPlace) (h : DataW.trod enc Try.prog w base spare held n 3 cs = some y) : ∃ a : Int, cs = intC a ∧ I64w a := by
  obtain ⟨k, e, _, wk⟩ := DataW.trod_int Try.underlying3 h
  exact ⟨k, e, wk⟩
theorem el_row (n : Nat) (cs : List Value) (y : DataW H × List MemPlace) (h : DataW.trod enc Try.prog w base spare held n 28 cs = some y) : ∃ r : RwS, cs = [r.sv] ∧ (RdL intC 1 w r.sv r.l ∧ ∀ a ∈ r.l, I64w a) := by
  obtain ⟨s, l, h1, h2, h3⟩ := open_rdl intC I64w Try.underlying28 (by rw [cells_i]; decide) el_int h
  rw [cells_i] at h2
  exact ⟨⟨s, l⟩, h1, h2, h3⟩
theorem RdL.maps {α β : Type} {f : α → List Value} {g : β → List Value} {sz : Nat} {s : Value} {l : List α} (h : RdL f sz w s l) (m : α → β) (hf : ∀ a, g (m a) = f a) : RdL g sz w s (l.map m) := by
  obtain ⟨A, c, rfl, h1, h2, h3⟩ := h
  refine ⟨A, c, by rw [List.length_map], by rw [List.length_map]; exact h1, h2, fun hn => ?_⟩
  rw [List.length_map] at hn
  obtain ⟨b, off, e, hb, hc⟩ := h3 hn
  refine ⟨b, off, e, hb, fun k y hk j v hv => ?_⟩
  rw [List.getElem?_map] at hk
  cases ha : l[k]? with
  | none => rw [ha] at hk; cases hk
  | some a =>
    rw [ha] at hk
    injection hk with hk
    subst hk
    rw [hf] at hv
    exact hc k a ha j v hv
theorem open_mat {r : Reach} {b0 : Nat} {v : Value} {d : DataW H} {ps : List MemPlace} (hv : Value.okWide Try.prog w r b0 22 v) (h : DataW.Trod enc Try.prog w base spare held 22 v d ps) :
    ∃ (A : Option Addr) (c : Nat) (m : List (List Int)), v = .slice A m.length c ∧ RdM w (.slice A m.length c) m ∧ ∀ l ∈ m, ∀ x ∈ l, I64w x := by
  obtain ⟨A, c, l, e, hl, hok, _⟩ := arg_rdl (fun r : RwS => [r.sv]) (fun r => RdL intC 1 w r.sv r.l ∧ ∀ a ∈ r.l, I64w a) Try.underlying22 (by rw [cells_is]; decide) el_row hv h
  rw [cells_is] at hl
  have hlen : (l.map RwS.l).length = l.length := by simp
  refine ⟨A, c, l.map RwS.l, by rw [hlen]; exact e, ?_, fun l' hl' => ?_⟩
  · rw [hlen]
    refine ⟨l.map RwS.sv, hl.maps RwS.sv (fun _ => rfl), by simp, fun i v l' h1 h2 => ?_⟩
    rw [List.getElem?_map] at h1 h2
    cases ha : l[i]? with
    | none => rw [ha] at h1; cases h1
    | some a =>
      rw [ha] at h1 h2
      injection h1 with h1
      injection h2 with h2
      subst h1 h2
      exact (hok a (List.mem_of_getElem? ha)).1
  · obtain ⟨a, ha, rfl⟩ := List.mem_map.1 hl'
    exact (hok a ha).2
theorem open_row {r : Reach} {b0 : Nat} {v : Value} {d : DataW H} {ps : List MemPlace} (hv : Value.okWide Try.prog w r b0 28 v) (h : DataW.Trod enc Try.prog w base spare held 28 v d ps) :
    ∃ (A : Option Addr) (c : Nat) (l : List Int), v = .slice A l.length c ∧ RdL intC 1 w (.slice A l.length c) l ∧ ∀ x ∈ l, I64w x := by
  obtain ⟨A, c, l, e, hl, hok, _⟩ := arg_rdl intC I64w Try.underlying28 (by rw [cells_i]; decide) el_int hv h
  rw [cells_i] at hl
  exact ⟨A, c, l, e, hl, hok⟩
end
end Go.Proofs.Ytadcjmfednachaa
