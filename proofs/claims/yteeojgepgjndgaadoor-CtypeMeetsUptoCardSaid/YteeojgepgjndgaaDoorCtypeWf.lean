/-
  Records that came in, opened.
-/
import Derived.Test.YteeojgepgjndgaaDoorCtypeW25
import Derived.Test.YteeojgepgjndgaaDoorMachWf
import Derived.Test.YteeojgepgjndgaaDoorArgs
import Derived.Test.YteeojgepgjndgaaDoorBulk
namespace Go.Proofs.YteeojgepgjndgaaDoor
open Go.RowKit Go.WideShapes Go.ChangeShapes Go.Joins
set_option linter.unusedVariables false
set_option maxRecDepth 100000

section
variable {H : Type} {enc : TypeId × Value → H} {w : World} {base : Nat} {spare : Nat → Bool} {held : Bool} {n : Nat} {cs : List Value}
theorem cells_i : Tryd.prog.cellsOf 3 = 1 := by kernel_rfl
theorem cells_is : Tryd.prog.cellsOf 23 = 1 := by kernel_rfl
theorem cells_iss : Tryd.prog.cellsOf 51 = 1 := by kernel_rfl
theorem cells_b : Tryd.prog.cellsOf 4 = 1 := by kernel_rfl
theorem cells_Rc : Tryd.prog.cellsOf 53 = 5 := by kernel_rfl
theorem getx {α : Type} {xs : List α} {n i : Nat} (h : xs.length = n) (hi : i < n) : ∃ a, xs[i]? = some a := ⟨xs[i]'(by omega), List.getElem?_eq_getElem (by omega)⟩
theorem el_int (n : Nat) (cs : List Value) (y : DataW H × List MemPlace) (h : DataW.trod enc Tryd.prog w base spare held n 3 cs = some y) : ∃ a : Int, cs = intC a ∧ I64 a := by
  obtain ⟨k, e, _, wk⟩ := DataW.trod_int Tryd.underlying3 h
  exact ⟨k, e, wf_i64 wk⟩
theorem trod_ints {y : DataW H × List MemPlace} (h : DataW.trod enc Tryd.prog w base spare held n 23 cs = some y) : ∃ (s : Value) (l : List Int), cs = [s] ∧ RdL intC 1 w s l ∧ ∀ a ∈ l, I64 a := by
  obtain ⟨s, l, h1, h2, h3⟩ := open_rdl intC I64 Tryd.underlying23 (by rw [cells_i]; decide) el_int h
  rw [cells_i] at h2
  exact ⟨s, l, h1, h2, h3⟩
theorem trod_rows {y : DataW H × List MemPlace} (h : DataW.trod enc Tryd.prog w base spare held n 51 cs = some y) : ∃ (s : Value) (l : List Rw), cs = [s] ∧ RdRows w s l ∧ l.length ≤ Rows.uptoBulk y.1 := by
  obtain ⟨s, l, h1, h2, h3⟩ := open_rdl rwC (fun r : Rw => RdL intC 1 w r.sv r.l ∧ ∀ x ∈ r.l, I64 x) Tryd.underlying51 (by rw [cells_is]; decide) (fun n cs y h => by
    obtain ⟨s, l, h1, h2, h3⟩ := trod_ints h
    exact ⟨⟨s, l⟩, h1, h2, h3⟩) h
  rw [cells_is] at h2
  subst h1
  refine ⟨s, l, rfl, ⟨h2, h3⟩, ?_⟩
  obtain ⟨A, c, e⟩ := h2.form
  subst e
  rcases datum_len Tryd.underlying51 h with h0 | ⟨elems, sp, h1, h4⟩
  · omega
  · have := bulks.slice_le elems sp
    rw [h1]
    omega
theorem trod_Rc {y : DataW H × List MemPlace} (h : DataW.trod enc Tryd.prog w base spare held n 53 cs = some y) : ∃ r : Rc, cs = rcC r ∧ RdL intC 1 w r.nsv r.names ∧ RdRows w r.tsv r.rows ∧ r.rows.length ≤ Rows.uptoBulk y.1 := by
  obtain ⟨xs, m, _, hy, hl, hx, hi⟩ := DataW.trod_struct Tryd.underlying53 h
  rw [cells_Rc] at hl
  have hx3 : xs.length = 5 := hx
  obtain ⟨y0, e0⟩ := getx (i := 0) hx3 (by omega)
  obtain ⟨y1, e1⟩ := getx (i := 1) hx3 (by omega)
  obtain ⟨y2, e2⟩ := getx (i := 2) hx3 (by omega)
  obtain ⟨y3, e3⟩ := getx (i := 3) hx3 (by omega)
  obtain ⟨y4, e4⟩ := getx (i := 4) hx3 (by omega)
  match cs, hl with
  | [c0, c1, c2, c3, c4], _ =>
    have h0 : DataW.trod enc Tryd.prog w base spare held m 3 (([c0, c1, c2, c3, c4].drop 0).take (Tryd.prog.cellsOf 3)) = some y0 := (hi 0 _ rfl).trans e0
    have h1 : DataW.trod enc Tryd.prog w base spare held m 4 (([c0, c1, c2, c3, c4].drop 1).take (Tryd.prog.cellsOf 4)) = some y1 := (hi 1 _ rfl).trans e1
    have h2 : DataW.trod enc Tryd.prog w base spare held m 23 (([c0, c1, c2, c3, c4].drop 2).take (Tryd.prog.cellsOf 23)) = some y2 := (hi 2 _ rfl).trans e2
    have h3 : DataW.trod enc Tryd.prog w base spare held m 51 (([c0, c1, c2, c3, c4].drop 3).take (Tryd.prog.cellsOf 51)) = some y3 := (hi 3 _ rfl).trans e3
    have h4 : DataW.trod enc Tryd.prog w base spare held m 4 (([c0, c1, c2, c3, c4].drop 4).take (Tryd.prog.cellsOf 4)) = some y4 := (hi 4 _ rfl).trans e4
    obtain ⟨k, f0, _, w0⟩ := DataW.trod_int Tryd.underlying3 h0
    obtain ⟨u, f1, _⟩ := DataW.trod_bool Tryd.underlying4 h1
    obtain ⟨s2, l2, f2, hr2, _⟩ := trod_ints h2
    obtain ⟨s3, l3, f3, hr3, hb3⟩ := trod_rows h3
    obtain ⟨g, f4, _⟩ := DataW.trod_bool Tryd.underlying4 h4
    rw [cells_i] at f0
    rw [cells_b] at f1 f4
    rw [cells_is] at f2
    rw [cells_iss] at f3
    simp at f0 f1 f2 f3 f4
    subst f0 f1 f2 f3 f4
    refine ⟨⟨k, u, c2, l2, c3, l3, g⟩, rfl, hr2, hr3, ?_⟩
    have hy1 : y.1 = .agg (xs.map (·.1)) := by rw [hy]
    have hm : y3.1 ∈ xs.map (·.1) := List.mem_map_of_mem (List.mem_of_getElem? e3)
    have h5 := bulks.part_le hm
    rw [hy1]
    simp only [Rows.uptoBulk]
    have h6 : l3.length ≤ Rows.uptoBulk y3.1 := hb3
    show l3.length ≤ _
    omega
theorem open_Rc {r : Reach} {b0 : Nat} {v : Value} {d : DataW H} {ps : List MemPlace}
    (hv : Value.okWide Tryd.prog w r b0 53 v) (h : DataW.Trod enc Tryd.prog w base spare held 53 v d ps) :
    ∃ r : Rc, v = .agg (rcC r).toArray ∧ RdL intC 1 w r.nsv r.names ∧ RdRows w r.tsv r.rows ∧ r.rows.length ≤ Rows.uptoBulk d := by
  obtain ⟨cs, rfl, hsz⟩ := okWide_struct Tryd.underlying53 hv
  obtain ⟨fuel, hf⟩ := h
  obtain ⟨r, e, h1, h2, h3⟩ := trod_Rc hf
  refine ⟨r, ?_, h1, h2, h3⟩
  have e2 : cs.toList = rcC r := by simpa [Value.cells] using e
  rw [← e2]
end
end Go.Proofs.YteeojgepgjndgaaDoor
