/-
  Events and outcomes that came in, opened.
-/
import Derived.Test.YteepjngkbjbheaaDoorTraceDefs
import Derived.Test.YteepjngkbjbheaaDoorMachWf
namespace Go.Proofs.YteepjngkbjbheaaDoor
open Go.RowKit Go.WideShapes Go.ChangeShapes Go.Joins
set_option linter.unusedVariables false
set_option maxRecDepth 100000

def VOk (v : V) : Prop := I64 v.k ∧ U64 v.b ∧ I64 v.l
structure EvOk (e : Ev) : Prop where
  name : e.name.size ≤ maxLen
  args : ∀ v ∈ e.args, VOk v
  res : VOk e.res
section
variable {H : Type} {enc : TypeId × Value → H} {w : World} {base : Nat} {spare : Nat → Bool} {held : Bool} {n : Nat} {cs : List Value}

theorem cells_V : Tryd.prog.cellsOf 30 = 3 := by kernel_rfl
theorem cells_Ev : Tryd.prog.cellsOf 32 = 5 := by kernel_rfl
theorem cells_int : Tryd.prog.cellsOf 3 = 1 := by kernel_rfl
theorem cells_u64 : Tryd.prog.cellsOf 28 = 1 := by kernel_rfl
theorem cells_str : Tryd.prog.cellsOf 9 = 1 := by kernel_rfl
theorem cells_Vs : Tryd.prog.cellsOf 25 = 1 := by kernel_rfl

theorem getx {α : Type} {xs : List α} {n i : Nat} (h : xs.length = n) (hi : i < n) : ∃ a, xs[i]? = some a := ⟨xs[i]'(by omega), List.getElem?_eq_getElem (by omega)⟩

theorem trod_V {y : DataW H × List MemPlace} (h : DataW.trod enc Tryd.prog w base spare held n 30 cs = some y) : ∃ v : V, cs = vCells v ∧ VOk v := by
  obtain ⟨xs, m, _, _, hl, hx, hi⟩ := DataW.trod_struct Tryd.underlying30 h
  rw [cells_V] at hl
  have hx3 : xs.length = 3 := hx
  obtain ⟨y0, e0⟩ := getx (i := 0) hx3 (by omega)
  obtain ⟨y1, e1⟩ := getx (i := 1) hx3 (by omega)
  obtain ⟨y2, e2⟩ := getx (i := 2) hx3 (by omega)
  match cs, hl with
  | [c0, c1, c2], _ =>
    have h0 : DataW.trod enc Tryd.prog w base spare held m 3 (([c0, c1, c2].drop 0).take (Tryd.prog.cellsOf 3)) = some y0 := (hi 0 _ rfl).trans e0
    have h1 : DataW.trod enc Tryd.prog w base spare held m 28 (([c0, c1, c2].drop 1).take (Tryd.prog.cellsOf 28)) = some y1 := (hi 1 _ rfl).trans e1
    have h2 : DataW.trod enc Tryd.prog w base spare held m 3 (([c0, c1, c2].drop 2).take (Tryd.prog.cellsOf 3)) = some y2 := (hi 2 _ rfl).trans e2
    obtain ⟨k, f0, _, w0⟩ := DataW.trod_int Tryd.underlying3 h0
    obtain ⟨b, f1, _, w1⟩ := DataW.trod_int Tryd.underlying28 h1
    obtain ⟨l, f2, _, w2⟩ := DataW.trod_int Tryd.underlying3 h2
    rw [cells_int] at f0 f2
    rw [cells_u64] at f1
    simp at f0 f1 f2
    subst f0 f1 f2
    exact ⟨⟨k, b, l⟩, rfl, wf_i64 w0, wf_u64 w1, wf_i64 w2⟩

theorem trod_Vs {y : DataW H × List MemPlace} (h : DataW.trod enc Tryd.prog w base spare held n 25 cs = some y) : ∃ (s : Value) (l : List V), cs = [s] ∧ RdL vCells 3 w s l ∧ ∀ a ∈ l, VOk a := by
  obtain ⟨s, l, h1, h2, h3⟩ := open_rdl vCells VOk Tryd.underlying25 (by rw [cells_V]; decide) (fun n cs y h => trod_V h) h
  rw [cells_V] at h2
  exact ⟨s, l, h1, h2, h3⟩

theorem trod_Ev {y : DataW H × List MemPlace} (h : DataW.trod enc Tryd.prog w base spare held n 32 cs = some y) : ∃ e : Ev, cs = evCells e ∧ (RdL vCells 3 w e.sv e.args ∧ EvOk e) := by
  obtain ⟨xs, m, _, _, hl, hx, hi⟩ := DataW.trod_struct Tryd.underlying32 h
  rw [cells_Ev] at hl
  have hx3 : xs.length = 3 := hx
  obtain ⟨y0, e0⟩ := getx (i := 0) hx3 (by omega)
  obtain ⟨y1, e1⟩ := getx (i := 1) hx3 (by omega)
  obtain ⟨y2, e2⟩ := getx (i := 2) hx3 (by omega)
  match cs, hl with
  | [c0, c1, c2, c3, c4], _ =>
    have h0 : DataW.trod enc Tryd.prog w base spare held m 9 (([c0, c1, c2, c3, c4].drop 0).take (Tryd.prog.cellsOf 9)) = some y0 := (hi 0 _ rfl).trans e0
    have h1 : DataW.trod enc Tryd.prog w base spare held m 25 (([c0, c1, c2, c3, c4].drop 1).take (Tryd.prog.cellsOf 25)) = some y1 := (hi 1 _ rfl).trans e1
    have h2 : DataW.trod enc Tryd.prog w base spare held m 30 (([c0, c1, c2, c3, c4].drop 2).take (Tryd.prog.cellsOf 30)) = some y2 := (hi 2 _ rfl).trans e2
    obtain ⟨s, f0, _, w0⟩ := DataW.trod_string Tryd.underlying9 h0
    obtain ⟨sv, l, f1, hr, hok⟩ := trod_Vs h1
    obtain ⟨v, f2, hv⟩ := trod_V h2
    rw [cells_str] at f0
    rw [cells_Vs] at f1
    rw [cells_V] at f2
    simp at f0 f1
    simp [vCells] at f2
    obtain ⟨g2, g3, g4⟩ := f2
    subst f0 f1 g2 g3 g4
    exact ⟨⟨s, c1, l, v⟩, rfl, hr, w0, hok, hv⟩

theorem trod_Evs {y : DataW H × List MemPlace} (h : DataW.trod enc Tryd.prog w base spare held n 38 cs = some y) : ∃ (s : Value) (l : List Ev), cs = [s] ∧ RdEvs w s l ∧ ∀ a ∈ l, EvOk a := by
  obtain ⟨s, l, h1, h2, h3⟩ := open_rdl evCells (fun e => RdL vCells 3 w e.sv e.args ∧ EvOk e) Tryd.underlying38 (by rw [cells_Ev]; decide) (fun n cs y h => trod_Ev h) h
  rw [cells_Ev] at h2
  exact ⟨s, l, h1, ⟨h2, fun e he => (h3 e he).1⟩, fun e he => (h3 e he).2⟩

theorem open_O {r : Reach} {b0 : Nat} {v : Value} {d : DataW H} {ps : List MemPlace}
    (hv : Value.okWide Tryd.prog w r b0 40 v) (h : DataW.Trod enc Tryd.prog w base spare held 40 v d ps) :
    ∃ (s : Value) (a : Out), v = .agg #[s, .int .i64 a.st, .int .i32 a.code, .int .i64 a.steps] ∧ RdEvs w s a.tr ∧ (∀ e ∈ a.tr, EvOk e) ∧ I64 a.st ∧ I32 a.code ∧ I64 a.steps := by
  obtain ⟨c0, c1, c2, c3, y0, y1, y2, y3, m, rfl, rfl, rfl, h0, h1, h2, h3⟩ := open_agg4 Tryd.underlying40 (by kernel_rfl) (by kernel_rfl) hv h
  obtain ⟨s, l, e0, hr, hok⟩ := trod_Evs h0
  obtain ⟨k, e1, _, w1⟩ := DataW.trod_int Tryd.underlying3 h1
  obtain ⟨b, e2, _, w2⟩ := DataW.trod_int Tryd.underlying21 h2
  obtain ⟨z, e3, _, w3⟩ := DataW.trod_int Tryd.underlying3 h3
  simp at e0 e1 e2 e3
  subst e0 e1 e2 e3
  exact ⟨c0, ⟨l, k, b, z⟩, rfl, hr, hok, wf_i64 w1, wf_i32 w2, wf_i64 w3⟩
end
end Go.Proofs.YteepjngkbjbheaaDoor
