/-
  Records that came in, opened.
-/
import Derived.Test.YteeojgepgjndgaaDoorCtypeW25
import Derived.Test.YteeojgepgjndgaaDoorMachWf
import Derived.Test.YteeojgepgjndgaaDoorArgs
import Derived.Test.YteeojgepgjndgaaDoorBulk
namespace Go.Proofs.YteeojgepgjndgaaDoor
open Go.RowKit Go.WideShapes Go.ChangeShapes Go.Joins Go.Deep
set_option linter.unusedVariables false
set_option maxRecDepth 100000

section
variable {H : Type} {enc : TypeId × Value → H} {w : World} {base : Nat} {spare : Nat → Bool} {held : Bool} {n : Nat} {cs : List Value}
theorem cells_i : Tryd.prog.cellsOf 3 = 1 := by kernel_rfl
theorem cells_is : Tryd.prog.cellsOf 23 = 1 := by kernel_rfl
theorem cells_iss : Tryd.prog.cellsOf 51 = 1 := by kernel_rfl
theorem cells_b : Tryd.prog.cellsOf 4 = 1 := by kernel_rfl
theorem cells_Rc : Tryd.prog.cellsOf 53 = 5 := by kernel_rfl
theorem getx {α : Type} {xs : List α} {n i : Nat} (h : xs.length = n) (hi : i < n) : ∃ a, xs[i]? = some a := ⟨xs[i]'(by omega), List.getElem?_eq_getElem (by omega)⟩
theorem el_int (n : Nat) (cs : List Value) (y : DataW H × List MemPlace) (h : DataW.trod enc Tryd.prog w base spare held n 3 cs = some y) : ∃ a : Int, cs = intC a ∧ I64 a := by
  obtain ⟨k, e, _, wk⟩ := DataW.trod_int Tryd.underlying3 h
  exact ⟨k, e, wf_i64 wk⟩
theorem trod_ints {y : DataW H × List MemPlace} (h : DataW.trod enc Tryd.prog w base spare held n 23 cs = some y) : ∃ (s : Value) (l : List Int), cs = [s] ∧ RdL intC 1 w s l ∧ ∀ a ∈ l, I64 a := by
  obtain ⟨s, l, h1, h2, h3⟩ := open_rdl intC I64 Tryd.underlying23 (by rw [cells_i]; decide) el_int h
  rw [cells_i] at h2
  exact ⟨s, l, h1, h2, h3⟩
theorem trod_rows {y : DataW H × List MemPlace} (h : DataW.trod enc Tryd.prog w base spare held n 51 cs = some y) : ∃ (s : Value) (l : List Rw), cs = [s] ∧ RdRows w s l ∧ l.length ≤ Rows.uptoBulk y.1 := by
  obtain ⟨s, l, h1, h2, h3⟩ := open_rdl rwC (fun r : Rw => RdL intC 1 w r.sv r.l ∧ ∀ x ∈ r.l, I64 x) Tryd.underlying51 (by rw [cells_is]; decide) (fun n cs y h => by
    obtain ⟨s, l, h1, h2, h3⟩ := trod_ints h
    exact ⟨⟨s, l⟩, h1, h2, h3⟩) h
  rw [cells_is] at h2
  subst h1
  refine ⟨s, l, rfl, ⟨h2, h3⟩, ?_⟩
  obtain ⟨A, c, e⟩ := h2.form
  subst e
  rcases datum_len Tryd.underlying51 h with h0 | ⟨elems, sp, h1, h4⟩
  · omega
  · have := bulks.slice_le elems sp
    rw [h1]
    omega
theorem trod_Rc {y : DataW H × List MemPlace} (h : DataW.trod enc Tryd.prog w base spare held n 53 cs = some y) : ∃ r : Rc, cs = rcC r ∧ RdL intC 1 w r.nsv r.names ∧ RdRows w r.tsv r.rows ∧ r.rows.length ≤ Rows.uptoBulk y.1 := by
  obtain ⟨xs, m, _, hy, hl, hx, hi⟩ := DataW.trod_struct Tryd.underlying53 h
  rw [cells_Rc] at hl
  have hx3 : xs.length = 5 := hx
  obtain ⟨y0, e0⟩ := getx (i := 0) hx3 (by omega)
  obtain ⟨y1, e1⟩ := getx (i := 1) hx3 (by omega)
  obtain ⟨y2, e2⟩ := getx (i := 2) hx3 (by omega)
  obtain ⟨y3, e3⟩ := getx (i := 3) hx3 (by omega)
  obtain ⟨y4, e4⟩ := getx (i := 4) hx3 (by omega)
  match cs, hl with
  | [c0, c1, c2, c3, c4], _ =>
    have h0 : DataW.trod enc Tryd.prog w base spare held m 3 (([c0, c1, c2, c3, c4].drop 0).take (Tryd.prog.cellsOf 3)) = some y0 := (hi 0 _ rfl).trans e0
    have h1 : DataW.trod enc Tryd.prog w base spare held m 4 (([c0, c1, c2, c3, c4].drop 1).take (Tryd.prog.cellsOf 4)) = some y1 := (hi 1 _ rfl).trans e1
    have h2 : DataW.trod enc Tryd.prog w base spare held m 23 (([c0, c1, c2, c3, c4].drop 2).take (Tryd.prog.cellsOf 23)) = some y2 := (hi 2 _ rfl).trans e2
    have h3 : DataW.trod enc Tryd.prog w base spare held m 51 (([c0, c1, c2, c3, c4].drop 3).take (Tryd.prog.cellsOf 51)) = some y3 := (hi 3 _ rfl).trans e3
    have h4 : DataW.trod enc Tryd.prog w base spare held m 4 (([c0, c1, c2, c3, c4].drop 4).take (Tryd.prog.cellsOf 4)) = some y4 := (hi 4 _ rfl).trans e4
    obtain ⟨k, f0, _, w0⟩ := DataW.trod_int Tryd.underlying3 h0
    obtain ⟨u, f1, _⟩ := DataW.trod_bool Tryd.underlying4 h1
    obtain ⟨s2, l2, f2, hr2, _⟩ := trod_ints h2
    obtain ⟨s3, l3, f3, hr3, hb3⟩ := trod_rows h3
    obtain ⟨g, f4, _⟩ := DataW.trod_bool Tryd.underlying4 h4
    rw [cells_i] at f0
    rw [cells_b] at f1 f4
    rw [cells_is] at f2
    rw [cells_iss] at f3
    simp at f0 f1 f2 f3 f4
    subst f0 f1 f2 f3 f4
    refine ⟨⟨k, u, c2, l2, c3, l3, g⟩, rfl, hr2, hr3, ?_⟩
    have hy1 : y.1 = .agg (xs.map (·.1)) := by rw [hy]
    have hm : y3.1 ∈ xs.map (·.1) := List.mem_map_of_mem (List.mem_of_getElem? e3)
    have h5 := bulks.part_le hm
    rw [hy1]
    simp only [Rows.uptoBulk]
    have h6 : l3.length ≤ Rows.uptoBulk y3.1 := hb3
    show l3.length ≤ _
    omega
theorem open_Rc {r : Reach} {b0 : Nat} {v : Value} {d : DataW H} {ps : List MemPlace}
    (hv : Value.okWide Tryd.prog w r b0 53 v) (h : DataW.Trod enc Tryd.prog w base spare held 53 v d ps) :
    ∃ r : Rc, v = .agg (rcC r).toArray ∧ RdL intC 1 w r.nsv r.names ∧ RdRows w r.tsv r.rows ∧ r.rows.length ≤ Rows.uptoBulk d := by
  obtain ⟨cs, rfl, hsz⟩ := okWide_struct Tryd.underlying53 hv
  obtain ⟨fuel, hf⟩ := h
  obtain ⟨r, e, h1, h2, h3⟩ := trod_Rc hf
  refine ⟨r, ?_, h1, h2, h3⟩
  have e2 : cs.toList = rcC r := by simpa [Value.cells] using e
  rw [← e2]
theorem bulk_elem {H : Type} {l : List (DataW H)} {d : DataW H} (h : d ∈ l) (sp : List (DataW H)) : Rows.uptoBulk d ≤ Rows.uptoBulk (.slice l sp) := by
  have h1 := bulks.part_le h
  have h2 := bulks.slice_elems l sp
  omega
section
variable {P : Program}
/-- A slice that came in, opened: by what one element is opened to. -/
theorem open_rdlD {α : Type} (f : α → List Value) (Ok : α → DataW H → Prop) {t e : TypeId} {fuel : Nat} {cs : List Value} {x : DataW H × List MemPlace} (ht : P.underlying t = some (.slice e)) (hsz : 0 < P.cellsOf e)
    (hel : ∀ (n : Nat) (cs : List Value) (y : DataW H × List MemPlace), DataW.trod enc P w base spare held n e cs = some y → ∃ a : α, cs = f a ∧ Ok a y.1)
    (h : DataW.trod enc P w base spare held fuel t cs = some x) : ∃ (s : Value) (l : List α), cs = [s] ∧ RdL f (P.cellsOf e) w s l ∧ ∀ a ∈ l, ∃ elems sp d, x.1 = .slice elems sp ∧ d ∈ elems ∧ Ok a d := by
  rcases open_slice ht h with ⟨h0, _⟩ | ⟨a, len, cap, m, n, D, Pl, hcs, hb, hl, hm, hmm, hx, hi⟩
  · exact ⟨_, [], h0, RdL.nil _ _ _, fun a ha => by simp at ha⟩
  · have hlm : len ≤ m := by rw [hmm]; split <;> omega
    obtain ⟨l, hll, hp⟩ := list_of (p := fun i (b : α) => w.cells? base (a.add (i * P.cellsOf e)) (P.cellsOf e) = some (f b) ∧ Ok b (D i)) len (fun i hil => by
      obtain ⟨cs', h1, h2⟩ := hi i (by omega)
      obtain ⟨b, rfl, hok⟩ := hel n cs' _ h2
      exact ⟨b, h1, hok⟩)
    refine ⟨_, l, hcs, ⟨some a, cap, by rw [hll], by omega, hm, fun hn => ?_⟩, fun b hb' => ?_⟩
    · have h0 : l[0]? = some l[0] := List.getElem?_eq_getElem hn
      obtain ⟨hc0, _⟩ := hp 0 _ h0
      obtain ⟨_, hc1, hc2⟩ := World.cells?_some hc0
      have hz := hc2 0 hsz
      have hf0 : 0 < (f l[0]).length := by omega
      rw [List.getElem?_eq_getElem hf0] at hz
      have hz1 : (a.add (0 * P.cellsOf e)).add 0 = a := by simp [Addr.add]
      rw [hz1] at hz
      have hspot := cell_spot hz
      have hblk := cell_block hz
      obtain ⟨b, off, sp⟩ := a
      dsimp only at hspot hblk
      subst hspot
      refine ⟨b, off, rfl, hblk, fun k c hk j v hv => ?_⟩
      obtain ⟨hck, _⟩ := hp k c hk
      obtain ⟨_, hck1, hck2⟩ := World.cells?_some hck
      have hj : j < (f c).length := by
        rcases Nat.lt_or_ge j (f c).length with h1 | h1
        · exact h1
        · rw [List.getElem?_eq_none h1] at hv; cases hv
      have hkj := hck2 j (by omega)
      rw [hv, add_add] at hkj
      rw [add_at, ← Nat.add_assoc] at hkj
      exact hkj
    · obtain ⟨i, hib⟩ := List.getElem?_of_mem hb'
      have hil : i < len := by
        rcases Nat.lt_or_ge i len with h1 | h1
        · exact h1
        · rw [List.getElem?_eq_none (by omega)] at hib; cases hib
      exact ⟨_, _, D i, by rw [hx], List.mem_map_of_mem (List.mem_range.2 hil), (hp i b hib).2⟩
end
theorem open_recs {r : Reach} {b0 : Nat} {v : Value} {d : DataW H} {ps : List MemPlace}
    (hv : Value.okWide Tryd.prog w r b0 22 v) (h : DataW.Trod enc Tryd.prog w base spare held 22 v d ps) :
    ∃ (A : Option Addr) (c : Nat) (l : List Rc), v = .slice A l.length c ∧ RdL rcC 5 w (.slice A l.length c) l ∧ ∀ r ∈ l, RdL intC 1 w r.nsv r.names ∧ RdRows w r.tsv r.rows ∧ r.rows.length ≤ Rows.uptoBulk d := by
  obtain ⟨A, n, c, rfl⟩ := okWide_slice Tryd.underlying22 hv
  obtain ⟨fuel, hf⟩ := h
  obtain ⟨s, l, g1, g2, g3⟩ := open_rdlD rcC (fun (r : Rc) (d : DataW H) => RdL intC 1 w r.nsv r.names ∧ RdRows w r.tsv r.rows ∧ r.rows.length ≤ Rows.uptoBulk d) Tryd.underlying22 (by rw [cells_Rc]; decide) (fun n' cs y hy => by
    obtain ⟨r, h1, h2, h3, h4⟩ := trod_Rc hy
    exact ⟨r, h1, h2, h3, h4⟩) hf
  rw [cells_Rc] at g2
  have g4 := cells_slice g1
  subst g4
  obtain ⟨A', c', e, k1, k2, k3⟩ := g2
  injection e with e1 e2 e3
  subst e1 e2 e3
  refine ⟨_, _, l, rfl, ⟨_, _, rfl, k1, k2, k3⟩, fun r hr => ?_⟩
  obtain ⟨elems, sp, d', h1, h2, h3, h4, h5⟩ := g3 r hr
  have h6 : d = .slice elems sp := h1
  rw [h6]
  exact ⟨h3, h4, Nat.le_trans h5 (bulk_elem h2 sp)⟩
end
end Go.Proofs.YteeojgepgjndgaaDoor
