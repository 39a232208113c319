/-
  Outcomes that came in, opened, with the bound of the texts out of the bulk.
-/
import Derived.Test.YteepjngkbjbheaaDoorTraceWf
import Derived.Test.YteepjngkbjbheaaDoorTraceLaw1
import Derived.Test.YteepjngkbjbheaaDoorBulk
namespace Go.Proofs.YteepjngkbjbheaaDoor
open Go.RowKit Go.WideShapes Go.ChangeShapes Go.Joins Go.Deep
set_option linter.unusedVariables false
set_option maxRecDepth 100000

section
variable {H : Type} {enc : TypeId × Value → H} {w : World} {base : Nat} {spare : Nat → Bool} {held : Bool} {n : Nat} {cs : List Value}
section
variable {P : Program}
/-- A slice that came in, opened: by what one element is opened to; with the data of its elements. -/
theorem open_rdlS {α : Type} (f : α → List Value) (Ok : α → DataW H → Prop) {t e : TypeId} {fuel : Nat} {cs : List Value} {x : DataW H × List MemPlace} (ht : P.underlying t = some (.slice e)) (hsz : 0 < P.cellsOf e)
    (hel : ∀ (n : Nat) (cs : List Value) (y : DataW H × List MemPlace), DataW.trod enc P w base spare held n e cs = some y → ∃ a : α, cs = f a ∧ Ok a y.1)
    (h : DataW.trod enc P w base spare held fuel t cs = some x) : ∃ (s : Value) (l : List α) (ds : List (DataW H)), cs = [s] ∧ RdL f (P.cellsOf e) w s l ∧ ds.length = l.length ∧ (∀ (i : Nat) (a : α) (d : DataW H), l[i]? = some a → ds[i]? = some d → Ok a d) ∧ Rows.uptoBulkAll ds + 1 ≤ Rows.uptoBulk x.1 := by
  rcases open_slice ht h with ⟨h0, hx0⟩ | ⟨a, len, cap, m, n, D, Pl, hcs, hb, hl, hm, hmm, hx, hi⟩
  · exact ⟨_, [], [], h0, RdL.nil _ _ _, rfl, fun i a d ha => by simp at ha, by rw [hx0]; simp [Rows.uptoBulkAll, Rows.uptoBulk]⟩
  · have hlm : len ≤ m := by rw [hmm]; split <;> omega
    obtain ⟨l, hll, hp⟩ := list_of (p := fun i (b : α) => w.cells? base (a.add (i * P.cellsOf e)) (P.cellsOf e) = some (f b) ∧ Ok b (D i)) len (fun i hil => by
      obtain ⟨cs', h1, h2⟩ := hi i (by omega)
      obtain ⟨b, rfl, hok⟩ := hel n cs' _ h2
      exact ⟨b, h1, hok⟩)
    refine ⟨_, l, (List.range len).map D, hcs, ⟨some a, cap, by rw [hll], by omega, hm, fun hn => ?_⟩, by simp [hll], fun i b d hib hd => ?_, by rw [hx]; exact bulks.slice_elems _ _⟩
    · have h0 : l[0]? = some l[0] := List.getElem?_eq_getElem hn
      obtain ⟨hc0, _⟩ := hp 0 _ h0
      obtain ⟨_, hc1, hc2⟩ := World.cells?_some hc0
      have hz := hc2 0 hsz
      have hf0 : 0 < (f l[0]).length := by omega
      rw [List.getElem?_eq_getElem hf0] at hz
      have hz1 : (a.add (0 * P.cellsOf e)).add 0 = a := by simp [Addr.add]
      rw [hz1] at hz
      have hspot := cell_spot hz
      have hblk := cell_block hz
      obtain ⟨b, off, sp⟩ := a
      dsimp only at hspot hblk
      subst hspot
      refine ⟨b, off, rfl, hblk, fun k c hk j v hv => ?_⟩
      obtain ⟨hck, _⟩ := hp k c hk
      obtain ⟨_, hck1, hck2⟩ := World.cells?_some hck
      have hj : j < (f c).length := by
        rcases Nat.lt_or_ge j (f c).length with h1 | h1
        · exact h1
        · rw [List.getElem?_eq_none h1] at hv; cases hv
      have hkj := hck2 j (by omega)
      rw [hv, add_add] at hkj
      rw [add_at, ← Nat.add_assoc] at hkj
      exact hkj
    · have hil : i < len := by
        rcases Nat.lt_or_ge i len with h1 | h1
        · exact h1
        · rw [List.getElem?_eq_none (by omega)] at hib; cases hib
      have hdi : d = D i := by
        rw [List.getElem?_map, List.getElem?_range hil] at hd
        exact (Option.some.inj hd).symm
      rw [hdi]
      exact (hp i b hib).2
end

theorem bulk_in {xs : List (DataW H × List MemPlace)} {i : Nat} {y : DataW H × List MemPlace} (h : xs[i]? = some y) : Rows.uptoBulk y.1 ≤ Rows.uptoBulkAll (xs.map (·.1)) :=
  bulks.part_le (List.mem_map_of_mem (List.mem_of_getElem? h))

theorem trod_EvB {y : DataW H × List MemPlace} (h : DataW.trod enc Tryd.prog w base spare held n 32 cs = some y) : ∃ e : Ev, cs = evCells e ∧ (RdL vCells 3 w e.sv e.args ∧ EvOk e ∧ evC e ≤ 64 * Rows.uptoBulk y.1) := by
  obtain ⟨xs, m, _, hy, hl, hx, hi⟩ := DataW.trod_struct Tryd.underlying32 h
  rw [cells_Ev] at hl
  have hx3 : xs.length = 3 := hx
  obtain ⟨y0, e0⟩ := getx (i := 0) hx3 (by omega)
  obtain ⟨y1, e1⟩ := getx (i := 1) hx3 (by omega)
  obtain ⟨y2, e2⟩ := getx (i := 2) hx3 (by omega)
  match cs, hl with
  | [c0, c1, c2, c3, c4], _ =>
    have h0 : DataW.trod enc Tryd.prog w base spare held m 9 (([c0, c1, c2, c3, c4].drop 0).take (Tryd.prog.cellsOf 9)) = some y0 := (hi 0 _ rfl).trans e0
    have h1 : DataW.trod enc Tryd.prog w base spare held m 25 (([c0, c1, c2, c3, c4].drop 1).take (Tryd.prog.cellsOf 25)) = some y1 := (hi 1 _ rfl).trans e1
    have h2 : DataW.trod enc Tryd.prog w base spare held m 30 (([c0, c1, c2, c3, c4].drop 2).take (Tryd.prog.cellsOf 30)) = some y2 := (hi 2 _ rfl).trans e2
    obtain ⟨s, f0, d0, w0⟩ := DataW.trod_string Tryd.underlying9 h0
    obtain ⟨sv, l, ds, f1, hr, hdl, hok, hb⟩ := open_rdlS vCells (fun v _ => VOk v) Tryd.underlying25 (by rw [cells_V]; decide) (fun n cs y h => trod_V h) h1
    obtain ⟨v, f2, hv⟩ := trod_V h2
    have hok' : ∀ a ∈ l, VOk a := fun a ha => by
      obtain ⟨i, hi⟩ := List.getElem?_of_mem ha
      have hil : i < l.length := (List.getElem?_eq_some_iff.1 hi).1
      exact hok i a _ hi (List.getElem?_eq_getElem (by omega))
    have hb0 := bulk_in e0
    have hlen := bulks.length_le ds
    have hsum : Rows.uptoBulk y0.1 + Rows.uptoBulk y1.1 + Rows.uptoBulk y2.1 ≤ Rows.uptoBulkAll (xs.map (·.1)) := by
      match xs, hx3, e0, e1, e2 with
      | [z0, z1, z2], _, g0, g1, g2 =>
        injection g0 with g0; injection g1 with g1; injection g2 with g2
        subst g0 g1 g2
        simp [Rows.uptoBulkAll]; try omega
    have hy1 : Rows.uptoBulk y.1 = Rows.uptoBulkAll (xs.map (·.1)) + 1 := by rw [hy]; simp [Rows.uptoBulk]
    have hs0 : Rows.uptoBulk y0.1 = s.size + 1 := by
      rw [d0, bulks.string_eq, Array.length_toList]
      try rfl
    rw [cells_V] at hr
    rw [cells_str] at f0
    rw [cells_Vs] at f1
    rw [cells_V] at f2
    simp at f0 f1
    simp [vCells] at f2
    obtain ⟨g2, g3, g4⟩ := f2
    subst f0 f1 g2 g3 g4
    refine ⟨⟨s, c1, l, v⟩, rfl, hr, ⟨w0, hok', hv⟩, ?_⟩
    show s.size + 24 * l.length + 40 ≤ _
    omega

theorem evsC_bulk : ∀ (l : List Ev) (ds : List (DataW H)), ds.length = l.length → (∀ (i : Nat) (a : Ev) (d : DataW H), l[i]? = some a → ds[i]? = some d → evC a ≤ 64 * Rows.uptoBulk d) → evsC l ≤ 64 * Rows.uptoBulkAll ds
  | [], ds, _, _ => by simp [evsC]
  | a :: l, [], h, _ => by simp at h
  | a :: l, d :: ds, h, hp => by
    have h1 := hp 0 a d rfl rfl
    have h2 := evsC_bulk l ds (by simpa using h) (fun i a d ha hd => hp (i + 1) a d (by simpa using ha) (by simpa using hd))
    have h3 : evsC (a :: l) = evC a + evsC l := by simp [evsC]
    rw [h3]
    simp only [Rows.uptoBulkAll]
    omega

theorem open_OB {r : Reach} {b0 : Nat} {v : Value} {d : DataW H} {ps : List MemPlace}
    (hv : Value.okWide Tryd.prog w r b0 40 v) (h : DataW.Trod enc Tryd.prog w base spare held 40 v d ps) :
    ∃ (s : Value) (a : Out), v = .agg #[s, .int .i64 a.st, .int .i32 a.code, .int .i64 a.steps] ∧ RdEvs w s a.tr ∧ (∀ e ∈ a.tr, EvOk e) ∧ I64 a.st ∧ I32 a.code ∧ I64 a.steps ∧ evsC a.tr ≤ 64 * Rows.uptoBulk d := by
  obtain ⟨c0, c1, c2, c3, y0, y1, y2, y3, m, rfl, hd, rfl, h0, h1, h2, h3⟩ := open_agg4 Tryd.underlying40 (by kernel_rfl) (by kernel_rfl) hv h
  obtain ⟨s, l, ds, e0, hr, hdl, hok, hb⟩ := open_rdlS evCells (fun (e : Ev) (d : DataW H) => RdL vCells 3 w e.sv e.args ∧ EvOk e ∧ evC e ≤ 64 * Rows.uptoBulk d) Tryd.underlying38 (by rw [cells_Ev]; decide) (fun n cs y h => trod_EvB h) h0
  obtain ⟨k, e1, _, w1⟩ := DataW.trod_int Tryd.underlying3 h1
  obtain ⟨b, e2, _, w2⟩ := DataW.trod_int Tryd.underlying21 h2
  obtain ⟨z, e3, _, w3⟩ := DataW.trod_int Tryd.underlying3 h3
  have hal : ∀ a ∈ l, ∃ d, RdL vCells 3 w a.sv a.args ∧ EvOk a ∧ evC a ≤ 64 * Rows.uptoBulk (H := H) d := fun a ha => by
    obtain ⟨i, hi⟩ := List.getElem?_of_mem ha
    have hil : i < l.length := (List.getElem?_eq_some_iff.1 hi).1
    exact ⟨_, hok i a _ hi (List.getElem?_eq_getElem (by omega))⟩
  have hsum := evsC_bulk l ds hdl (fun i a d ha hd => (hok i a d ha hd).2.2)
  have hdb : Rows.uptoBulk y0.1 ≤ Rows.uptoBulk d := by
    rw [hd]; simp [Rows.uptoBulk, Rows.uptoBulkAll]; omega
  rw [cells_Ev] at hr
  simp at e0 e1 e2 e3
  subst e0 e1 e2 e3
  refine ⟨c0, ⟨l, k, b, z⟩, rfl, ⟨hr, fun e he => (hal e he).elim fun _ h => h.1⟩, fun e he => (hal e he).elim fun _ h => h.2.1, wf_i64 w1, wf_i32 w2, wf_i64 w3, ?_⟩
  show evsC l ≤ _
  omega
end
end Go.Proofs.YteepjngkbjbheaaDoor
