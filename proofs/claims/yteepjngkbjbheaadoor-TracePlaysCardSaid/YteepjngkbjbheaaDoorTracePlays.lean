/-
  TracePlays: the walk.
-/
import Derived.Test.YteepjngkbjbheaaDoorTraceR2
import Derived.Test.YteepjngkbjbheaaDoorTraceW7
import Derived.Deep.DeepCutAuto
namespace Go.Proofs.YteepjngkbjbheaaDoor
open Go.RowKit
set_option linter.unusedVariables false
set_option linter.unusedSimpArgs false

theorem v_one (l : List V) : ∀ u ∈ l.flatMap vCells, u.oneCell' = true := by
  intro u hu
  rw [List.mem_flatMap] at hu
  obtain ⟨a, _, hu⟩ := hu
  simp only [vCells, List.mem_cons, List.not_mem_nil, or_false] at hu
  rcases hu with rfl | rfl | rfl <;> rfl
theorem l_one (l : List Int) : ∀ u ∈ l.flatMap longCells, u.oneCell' = true := by
  intro u hu
  rw [List.mem_flatMap] at hu
  obtain ⟨a, _, hu⟩ := hu
  simp only [longCells, List.mem_cons, List.not_mem_nil, or_false] at hu
  subst hu; rfl
theorem i64_info : (Tryd.prog.info? 2).map (fun i => (i.zero, i.size, i.bytes)) = some (some (.int .i64 0), 1, 8) := by kernel_rfl

theorem mine_at (l : List V) : l.flatMap vCells ++ [.int .i64 77, .int .u64 0, .int .i64 0] = (l ++ [(⟨77, 0, 0⟩ : V)]).flatMap vCells := by simp [vCells]
/-- The values as they lie in the copy: the last is a mark. -/
def mineCells (l : List V) : List Value := l.flatMap vCells ++ [.int .i64 77, .int .u64 0, .int .i64 0]

/-- Like W, but for the first cells of one block. -/
def Turned (g j : Nat) (W wr : World) : Prop :=
  wr.heap.size = W.heap.size ∧ (∀ b, b ≠ g → ∀ o, wr.cell? ⟨b, o, none⟩ = W.cell? ⟨b, o, none⟩) ∧ (∀ o, j ≤ o → wr.cell? ⟨g, o, none⟩ = W.cell? ⟨g, o, none⟩) ∧ (∀ b o, wr.frozen? ⟨b, o, none⟩ = W.frozen? ⟨b, o, none⟩) ∧ Below g W wr
theorem Turned.refl (g j : Nat) (W : World) : Turned g j W W := ⟨rfl, fun _ _ _ => rfl, fun _ _ => rfl, fun _ _ => rfl, Below.refl _ _⟩
theorem frozen_set (w : World) (a : Addr) (v : Value) (b o : Nat) : (w.setCell a v).frozen? ⟨b, o, none⟩ = w.frozen? ⟨b, o, none⟩ := by simp
theorem Turned.step {g j : Nat} {W wr : World} (h : Turned g j W wr) (o j' : Nat) (v : Value) (h1 : o < j') (h2 : j ≤ j') : Turned g j' W (wr.setCell ⟨g, o, none⟩ v) := by
  obtain ⟨a, b, c, d, e⟩ := h
  refine ⟨by rw [World.size_setCell]; exact a, fun b' hb o' => ?_, fun o' ho => ?_, fun b' o' => (frozen_set _ _ _ _ _).trans (d b' o'), e.setCell (Nat.le_refl _) _⟩
  · rw [cell_set_if, if_neg hb]; exact b b' hb o'
  · rw [cell_set_if, if_pos rfl, if_neg (by omega)]; exact c o' (by omega)
theorem Turned.drewN {g j : Nat} {W wr : World} (h : Turned g j W wr) (n : Nat) : Turned g j W (wr.drewN n) := ⟨h.1, h.2.1, h.2.2.1, h.2.2.2.1, below_drewN h.2.2.2.2 n⟩
theorem RdL.turned {α : Type} {f : α → List Value} {sz g j : Nat} {W0 W wr : World} {s : Value} {l : List α} (h : RdL f sz W0 s l) (hb : Below W0.heap.size W0 W) (t : Turned g j W wr) (hne : ∀ b, s.ownBlock = some b → b < W0.heap.size → b ≠ g) : RdL f sz wr s l := by
  refine h.keepB fun b hs hlt => ⟨?_, fun o => ?_⟩
  · have := hb.size; have := t.1; omega
  · rw [t.2.1 b (hne b hs hlt) o]
    exact hb.cell (p := ⟨b, o, none⟩) hlt

theorem sameE_mk (n : ByteArray) (s1 s2 : Value) (l : List V) (v : V) : SameE ⟨n, s1, l, v⟩ ⟨n, s2, l, v⟩ := ⟨rfl, rfl, rfl⟩
theorem flat_len (l : List V) : (l.flatMap vCells).length = l.length * 3 := by
  induction l with
  | nil => simp
  | cons a l ih => simp [List.flatMap_cons, ih, vCells]; omega

set_option maxRecDepth 100000 in
set_option maxHeartbeats 16000000 in
theorem plays_core (name : ByteArray) (A1 A2 A3 : Option Addr) (n2 c1 c2 c3 : Nat) (l : List V) (ks sc : List Int) (r n : Int) (w : World) (h1 : RdL vCells 3 w (.slice A1 l.length c1) l) (h2 : RdL intCells 1 w (.slice A2 n2 c2) ks) (h3 : RdL longCells 1 w (.slice A3 sc.length c3) sc)
    (hsz : (l.length + 1) * 24 ≤ 140737488355328) (hs3 : sc.length * 8 ≤ 140737488355328) (hsc : ∀ x ∈ sc, I64 x) :
    Calls Tryd.prog 3 #[.string name, .agg #[.slice A2 n2 c2, .int .i64 r], .slice A1 l.length c1, .slice A3 sc.length c3, .int .i64 n] w fun e w' => e = .returned (.bool true) ∧ Below w.heap.size w w' := by
  obtain ⟨i0, hi0, hz0, hz1, hz2⟩ := info_parts v_info
  obtain ⟨i3, hi3, hy0, hy1, hy2⟩ := info_parts i64_info
  obtain ⟨name', l', v', ok, hT, hR⟩ := calls_agree name l ks sc r n (by omega) hsc
  have HT := Lib.hid hT
  have HR := Lib.hid hR
  have HO := Lib.hid (v_one l)
  have HO3 := Lib.hid (l_one sc)
  have H1 := Lib.hid h1
  have H2 := Lib.hid h2
  have H3 := Lib.hid h3
  obtain ⟨_, hr1⟩ := h1.reads (fun _ => rfl)
  obtain ⟨_, hr3⟩ := h3.reads (fun _ => rfl)
  have HR1 := Lib.hid hr1
  have HR3 := Lib.hid hr3
  clear hT hR h1 h2 h3 hr1 hr3
  have hA1 := cell_alloc_if
  have hA2 := frozen_alloc_if
  have hA3 := cell_set_if
  go_enter Tryd.func3, Tryd.ntmps3
  go_wp2_with (first
    | (go_at_call 6; (with_reducible refine (fixed_any _).mono ?_); rintro e w' ⟨rfl, hbl⟩; obtain ⟨hc, hf, hz⟩ := cif hbl; (try simp only [World.size_alloc, World.size_setCell, World.size_drew, World.heap_drewN] at hz))
    | (at_builtin
       refine wpList_append_any _ rfl (.tmp 20) (.tmp 21) _ rfl w'.heap.size 30 i0 _ 3 24 Tryd.underlying25 hi0 hz0 hz1 hz2 rfl (by omega) (.slice (some ⟨_, 0, none⟩) 0 0) 0 [] rfl
         (World.ownsRow_lit w' #[] 0 (Nat.le_refl _) (by decide) rfl) w.heap.size A1 l.length c1 (l.flatMap vCells) rfl (HR1.out.below (by (repeat' (first | (with_reducible exact Below.refl _ _) | (with_reducible assumption) | (with_reducible refine Below.setCell ?_ ?_ _) | (with_reducible refine Below.alloc ?_ ?_ _) | (with_reducible refine Below.drew ?_) | (with_reducible refine below_drewN ?_ _) | (with_reducible refine below_next ?_ (by with_reducible assumption)) | omega | (dsimp only; omega) | (simp only [World.size_alloc, World.size_setCell, World.size_drew, World.heap_drewN]; omega))))) HO.out (by unfold maxLen; omega) (by omega) (by first | omega | (simp; done) | (simp; omega)) ?_
       intro v1 w1 hown1 hg1 hat1
       have hb1 : Below w'.heap.size w' w1 := Below.grown (by (repeat' (first | (with_reducible exact Below.refl _ _) | (with_reducible assumption) | (with_reducible refine Below.setCell ?_ ?_ _) | (with_reducible refine Below.alloc ?_ ?_ _) | (with_reducible refine Below.drew ?_) | (with_reducible refine below_drewN ?_ _) | (with_reducible refine below_next ?_ (by with_reducible assumption)) | omega | (dsimp only; omega) | (simp only [World.size_alloc, World.size_setCell, World.size_drew, World.heap_drewN]; omega)))) hg1 (by first | exact Nat.le_refl _ | (simp; done) | (simp; omega)) (by simp [Value.ownBlock])
       obtain ⟨hc1, hf1, hz1'⟩ := cif hb1
       obtain ⟨A4, c4, rfl⟩ := own_form hown1
       rw [Nat.zero_add, List.nil_append] at hown1
       clear hat1 hg1)
    | (at_builtin
       refine wpList_append_any _ rfl (.tmp 22) (.tmp 24) _ rfl w'.heap.size 30 i0 _ 3 24 Tryd.underlying25 hi0 hz0 hz1 hz2 rfl (by omega) (.slice A4 l.length c4) l.length (l.flatMap vCells) rfl
         (own_below hown1 (by (repeat' (first | (with_reducible exact Below.refl _ _) | (with_reducible assumption) | (with_reducible refine Below.setCell ?_ ?_ _) | (with_reducible refine Below.alloc ?_ ?_ _) | (with_reducible refine Below.drew ?_) | (with_reducible refine below_drewN ?_ _) | (with_reducible refine below_next ?_ (by with_reducible assumption)) | omega | (dsimp only; omega) | (simp only [World.size_alloc, World.size_setCell, World.size_drew, World.heap_drewN]; omega))))) _ (some ⟨w1.heap.size, 0, none⟩) 1 1 _ rfl (Reads.of_own (World.ownsRow_lit (base := 0) w1 #[.int .i64 77, .int .u64 0, .int .i64 0] 1 (Nat.zero_le _) (by decide) rfl)) (by intro u hu; simp at hu; rcases hu with rfl | rfl | rfl <;> rfl) (by unfold maxLen; omega) (by omega) (by first | omega | (simp; done) | (simp; omega)) ?_
       intro v2 w2 hown2 hg2 hat2
       have hb2 : Below w'.heap.size w' w2 := Below.grown (by (repeat' (first | (with_reducible exact Below.refl _ _) | (with_reducible assumption) | (with_reducible refine Below.setCell ?_ ?_ _) | (with_reducible refine Below.alloc ?_ ?_ _) | (with_reducible refine Below.drew ?_) | (with_reducible refine below_drewN ?_ _) | (with_reducible refine below_next ?_ (by with_reducible assumption)) | omega | (dsimp only; omega) | (simp only [World.size_alloc, World.size_setCell, World.size_drew, World.heap_drewN]; omega)))) hg2 (by first | exact Nat.le_refl _ | (simp; done) | (simp; omega)) (fun k hk => (World.ownsRow.lt hown1 k hk).1)
       obtain ⟨hc2, hf2, hz2'⟩ := cif hb2
       obtain ⟨g5, c5, hv5, hge5, hlt5⟩ := hown2.form (by omega)
       subst hv5
       clear hat2 hg2)
    | (at_builtin
       refine wpList_append_any _ rfl (.tmp 26) (.tmp 27) _ rfl w2.heap.size 2 i3 _ 1 8 Tryd.underlying26 hi3 hy0 hy1 hy2 rfl (by omega) (.slice (some ⟨_, 0, none⟩) 0 0) 0 [] rfl
         (World.ownsRow_lit w2 #[] 0 (Nat.le_refl _) (by decide) rfl) w.heap.size A3 sc.length c3 (sc.flatMap longCells) rfl (HR3.out.below (by (repeat' (first | (with_reducible exact Below.refl _ _) | (with_reducible assumption) | (with_reducible refine Below.setCell ?_ ?_ _) | (with_reducible refine Below.alloc ?_ ?_ _) | (with_reducible refine Below.drew ?_) | (with_reducible refine below_drewN ?_ _) | (with_reducible refine below_next ?_ (by with_reducible assumption)) | omega | (dsimp only; omega) | (simp only [World.size_alloc, World.size_setCell, World.size_drew, World.heap_drewN]; omega))))) HO3.out (by unfold maxLen; omega) (by omega) (by first | omega | (simp; done) | (simp; omega)) ?_
       intro v3 w3 hown3 hg3 hat3
       have hb3 : Below w2.heap.size w2 w3 := Below.grown (by (repeat' (first | (with_reducible exact Below.refl _ _) | (with_reducible assumption) | (with_reducible refine Below.setCell ?_ ?_ _) | (with_reducible refine Below.alloc ?_ ?_ _) | (with_reducible refine Below.drew ?_) | (with_reducible refine below_drewN ?_ _) | (with_reducible refine below_next ?_ (by with_reducible assumption)) | omega | (dsimp only; omega) | (simp only [World.size_alloc, World.size_setCell, World.size_drew, World.heap_drewN]; omega)))) hg3 (by first | exact Nat.le_refl _ | (simp; done) | (simp; omega)) (by simp [Value.ownBlock])
       obtain ⟨hc3, hf3, hz3'⟩ := cif hb3
       obtain ⟨A6, c6, rfl⟩ := own_form hown3
       rw [Nat.zero_add, List.nil_append] at hown3
       clear hat3 hg3))
  have hrm : RdL vCells 3 w2 (.slice (some ⟨g5, 0, none⟩) (l.length + 1) c5) (l ++ [(⟨77, 0, 0⟩ : V)]) := RdL.of_own hown2 (by simp) (by
    rw [show l.flatMap vCells ++ _ = (l ++ [(⟨77, 0, 0⟩ : V)]).flatMap vCells from mine_at l]; exact flat_at (f := vCells) (sz := 3) (fun _ => rfl) _)
  have HM := Lib.hid hrm
  have hcap : l.length + 1 ≤ c5 ∧ c5 ≤ 9223372036854775807 := by
    obtain ⟨A, c, e, k1, k2, _⟩ := hrm
    simp only [Value.slice.injEq] at e
    obtain ⟨_, e1, rfl⟩ := e
    unfold maxLen at k2
    simp at k1
    exact ⟨k1, k2⟩
  obtain ⟨hcap1, hcap2⟩ := hcap
  have HL : Hid (RdL vCells 3 w2 (.slice (some ⟨g5, 0, none⟩) l.length c5) l) := Lib.hid (by simpa using hrm.take l.length (by simp))
  have HN : Hid (RdL longCells 1 w3 (.slice A6 sc.length c6) sc) := Lib.hid (RdL.of_own hown3 rfl (flat_at (f := longCells) (sz := 1) (fun _ => rfl) sc))
  have HW := Lib.hid hown2
  have HFN := Lib.hid hown3.lt
  clear hrm hown1 hown2 hown3
  have hcap3 : l.length ≤ c5 := by omega
  have hcap4 : (0 : Int) ≤ (l.length : Int) := by omega
  have hcap5 : (l.length : Int) ≤ (c5 : Int) := by omega
  go_cut [13, 14] (fun s13 s14 wx => ∃ (ba : Nat) (A7 : Option Addr) (c7 : Nat), s13 = .pointer (some ⟨ba, 0, none⟩) ∧ s14 = .bool ok ∧ Ext w3 wx ∧ w3.heap.size ≤ ba ∧ ba < wx.heap.size ∧
    wx.cell? ⟨ba, 0, none⟩ = some (.string name') ∧ wx.cell? ⟨ba, 1, none⟩ = some (.slice A7 l'.length c7) ∧ wx.cell? ⟨ba, 2, none⟩ = some (.int .i64 v'.k) ∧ wx.cell? ⟨ba, 3, none⟩ = some (.int .u64 v'.b) ∧ wx.cell? ⟨ba, 4, none⟩ = some (.int .i64 v'.l) ∧
    Hid (RdL vCells 3 wx (.slice A7 l'.length c7) l') ∧ Hid (∀ b, (Value.slice A7 l'.length c7).ownBlock = some b → w3.heap.size ≤ b))
  case first =>
    go_region_held3 (fun w' => Ext w3 w' ∧ w'.cell? ⟨w.heap.size, 0, none⟩ = some (.slice A2 n2 c2) ∧ w'.cell? ⟨w.heap.size, 1, none⟩ = some (.int .i64 r))
      (first | exact ⟨by unfold Ext at *; (repeat' (first | (with_reducible exact Below.refl _ _) | (with_reducible assumption) | (with_reducible refine Below.setCell ?_ ?_ _) | (with_reducible refine Below.alloc ?_ ?_ _) | (with_reducible refine Below.drew ?_) | (with_reducible refine below_drewN ?_ _) | (with_reducible refine below_next ?_ (by with_reducible assumption)) | omega | (dsimp only; omega) | (simp only [World.size_alloc, World.size_setCell, World.size_drew, World.heap_drewN]; omega))), by simp [*, ↓IntWalk.iteOmega], by simp [*, ↓IntWalk.iteOmega]⟩)
      (first
        | (go_at_call 7
           refine (HT.out _ _ _ _ _ _ _ _ (HL.out.next (by unfold Ext at *; (repeat' (first | (with_reducible exact Below.refl _ _) | (with_reducible assumption) | (with_reducible refine Below.setCell ?_ ?_ _) | (with_reducible refine Below.alloc ?_ ?_ _) | (with_reducible refine Below.drew ?_) | (with_reducible refine below_drewN ?_ _) | (with_reducible refine below_next ?_ (by with_reducible assumption)) | omega | (dsimp only; omega) | (simp only [World.size_alloc, World.size_setCell, World.size_drew, World.heap_drewN]; omega))))) (H2.out.next (by unfold Ext at *; (repeat' (first | (with_reducible exact Below.refl _ _) | (with_reducible assumption) | (with_reducible refine Below.setCell ?_ ?_ _) | (with_reducible refine Below.alloc ?_ ?_ _) | (with_reducible refine Below.drew ?_) | (with_reducible refine below_drewN ?_ _) | (with_reducible refine below_next ?_ (by with_reducible assumption)) | omega | (dsimp only; omega) | (simp only [World.size_alloc, World.size_setCell, World.size_drew, World.heap_drewN]; omega))))) (HN.out.next (by unfold Ext at *; (repeat' (first | (with_reducible exact Below.refl _ _) | (with_reducible assumption) | (with_reducible refine Below.setCell ?_ ?_ _) | (with_reducible refine Below.alloc ?_ ?_ _) | (with_reducible refine Below.drew ?_) | (with_reducible refine below_drewN ?_ _) | (with_reducible refine below_next ?_ (by with_reducible assumption)) | omega | (dsimp only; omega) | (simp only [World.size_alloc, World.size_setCell, World.size_drew, World.heap_drewN]; omega)))))).mono ?_
           rintro e w4 ⟨s4, rfl, hrd4, hb4, hfr4⟩
           obtain ⟨A7, c7, rfl⟩ := hrd4.form
           obtain ⟨hc4, hf4, hz4⟩ := cif hb4
           (try simp only [World.size_alloc, World.size_setCell, World.size_drew, World.heap_drewN] at hz4)))
    · have hrd5 := Lib.hid (hrd4.next (w' := w4.alloc (.cells #[.string name', .slice A7 l'.length c7, .int .i64 v'.k, .int .u64 v'.b, .int .i64 v'.l] 32)) (by (repeat' (first | (with_reducible exact Below.refl _ _) | (with_reducible assumption) | (with_reducible refine Below.setCell ?_ ?_ _) | (with_reducible refine Below.alloc ?_ ?_ _) | (with_reducible refine Below.drew ?_) | (with_reducible refine below_drewN ?_ _) | (with_reducible refine below_next ?_ (by with_reducible assumption)) | omega | (dsimp only; omega) | (simp only [World.size_alloc, World.size_setCell, World.size_drew, World.heap_drewN]; omega)))))
      have hfr5 := Lib.hid hfr4
      clear hrd4 hfr4
      go_wp2_with fail
      go_meet
      exact ⟨_, A7, c7, rfl, rfl, by unfold Ext at *; (repeat' (first | (with_reducible exact Below.refl _ _) | (with_reducible assumption) | (with_reducible refine Below.setCell ?_ ?_ _) | (with_reducible refine Below.alloc ?_ ?_ _) | (with_reducible refine Below.drew ?_) | (with_reducible refine below_drewN ?_ _) | (with_reducible refine below_next ?_ (by with_reducible assumption)) | omega | (dsimp only; omega) | (simp only [World.size_alloc, World.size_setCell, World.size_drew, World.heap_drewN]; omega))), by omega, by simp, by simp [*], by simp [*], by simp [*], by simp [*], by simp [*], hrd5, hfr5⟩
    · have hrd5 := Lib.hid hrd4
      have hfr5 := Lib.hid hfr4
      clear hrd4 hfr4
      go_wp2_with fail
      go_meet
      have hs4 : w3.heap.size + 1 ≤ w4.heap.size := by simpa using hb4.size
      refine ⟨_, A7, c7, rfl, rfl, by unfold Ext at *; (repeat' (first | (with_reducible exact Below.refl _ _) | (with_reducible assumption) | (with_reducible refine Below.setCell ?_ ?_ _) | (with_reducible refine Below.alloc ?_ ?_ _) | (with_reducible refine Below.drew ?_) | (with_reducible refine below_drewN ?_ _) | (with_reducible refine below_next ?_ (by with_reducible assumption)) | omega | (dsimp only; omega) | (simp only [World.size_alloc, World.size_setCell, World.size_drew, World.heap_drewN]; omega))), by omega, by simp; omega, by simp [*], by simp [*], by simp [*], by simp [*], by simp [*], ?_, ?_⟩
      · refine Lib.hid (hrd5.out.keepB fun b hb hlt => ?_)
        have h1 := hfr5.out b hb
        simp only [World.size_alloc, World.size_setCell, World.size_drew, World.heap_drewN] at h1 ⊢
        refine ⟨hlt, fun o => ?_⟩
        rw [cell_set_if, if_neg (by omega), cell_set_if, if_neg (by omega), cell_set_if, if_neg (by omega), cell_set_if, if_neg (by omega), cell_set_if, if_neg (by omega)]
      · refine Lib.hid fun b hb => ?_
        have h1 := hfr5.out b hb
        simp only [World.size_alloc, World.size_setCell, World.size_drew, World.heap_drewN] at h1
        omega
  case rest =>
    obtain ⟨ba, A7, c7, rfl, rfl, hX5, hba1, hba2, x0, x1, x2, x3, x4, HRA, HFA⟩ := hcut
    have hX5b := Ext.of hX5
    have hz5 := hX5b.size
    have y0 : wc.cell? ⟨w.heap.size, 0, none⟩ = some (.slice A2 n2 c2) := by rw [(hX5b.cell (p := ⟨w.heap.size, _, none⟩) (by show w.heap.size < _; omega))]; simp [*, ↓IntWalk.iteOmega]
    have y1 : wc.cell? ⟨w.heap.size, 1, none⟩ = some (.int .i64 r) := by rw [(hX5b.cell (p := ⟨w.heap.size, _, none⟩) (by show w.heap.size < _; omega))]; simp [*, ↓IntWalk.iteOmega]
    have m0 : wc.cell? ⟨g5, l.length * 3, none⟩ = some (.int .i64 77) := by
      have h := HW.out.cellAt (l.length * 3) (by omega)
      rw [(hX5b.cell (p := ⟨g5, _, none⟩) (by show g5 < _; omega)), (hb3.cell (p := ⟨g5, _, none⟩) hlt5), h, List.getElem?_append_right (by rw [flat_len]; omega), flat_len]
      simp
    have b5 : Below w.heap.size w wc := by unfold Ext at *; (repeat' (first | (with_reducible exact Below.refl _ _) | (with_reducible assumption) | (with_reducible refine Below.setCell ?_ ?_ _) | (with_reducible refine Below.alloc ?_ ?_ _) | (with_reducible refine Below.drew ?_) | (with_reducible refine below_drewN ?_ _) | (with_reducible refine below_next ?_ (by with_reducible assumption)) | omega | (dsimp only; omega) | (simp only [World.size_alloc, World.size_setCell, World.size_drew, World.heap_drewN]; omega)))
    clear hc hf hc1 hf1 hc2 hf2 hc3 hf3
    go_wp2_with (first
      | (go_at_call 8
         refine (HR.out _ _ _ _ _ _ _ _ (H1.out.next (by (repeat' (first | (with_reducible exact Below.refl _ _) | (with_reducible assumption) | (with_reducible refine Below.setCell ?_ ?_ _) | (with_reducible refine Below.alloc ?_ ?_ _) | (with_reducible refine Below.drew ?_) | (with_reducible refine below_drewN ?_ _) | (with_reducible refine below_next ?_ (by with_reducible assumption)) | omega | (dsimp only; omega) | (simp only [World.size_alloc, World.size_setCell, World.size_drew, World.heap_drewN]; omega))))) (H2.out.next (by (repeat' (first | (with_reducible exact Below.refl _ _) | (with_reducible assumption) | (with_reducible refine Below.setCell ?_ ?_ _) | (with_reducible refine Below.alloc ?_ ?_ _) | (with_reducible refine Below.drew ?_) | (with_reducible refine below_drewN ?_ _) | (with_reducible refine below_next ?_ (by with_reducible assumption)) | omega | (dsimp only; omega) | (simp only [World.size_alloc, World.size_setCell, World.size_drew, World.heap_drewN]; omega))))) (H3.out.next (by (repeat' (first | (with_reducible exact Below.refl _ _) | (with_reducible assumption) | (with_reducible refine Below.setCell ?_ ?_ _) | (with_reducible refine Below.alloc ?_ ?_ _) | (with_reducible refine Below.drew ?_) | (with_reducible refine below_drewN ?_ _) | (with_reducible refine below_next ?_ (by with_reducible assumption)) | omega | (dsimp only; omega) | (simp only [World.size_alloc, World.size_setCell, World.size_drew, World.heap_drewN]; omega)))))).mono ?_
         rintro e w6 ⟨s6, rfl, hrd6, hb6, hfr6⟩
         obtain ⟨A8, c8, rfl⟩ := hrd6.form
         obtain ⟨hc6, hf6, hz6⟩ := cif hb6
         have HRB := Lib.hid hrd6
         have HFB := Lib.hid hfr6
         clear hrd6 hfr6)
      | (go_at_call 9
         (with_reducible refine (boolp_yes (ref_sameEvent_any ⟨name', .slice A7 l'.length c7, l', v'⟩ ⟨name', .slice A8 l'.length c8, l', v'⟩ _ (HRA.out.next (by (repeat' (first | (with_reducible exact Below.refl _ _) | (with_reducible assumption) | (with_reducible refine Below.setCell ?_ ?_ _) | (with_reducible refine Below.alloc ?_ ?_ _) | (with_reducible refine Below.drew ?_) | (with_reducible refine below_drewN ?_ _) | (with_reducible refine below_next ?_ (by with_reducible assumption)) | omega | (dsimp only; omega) | (simp only [World.size_alloc, World.size_setCell, World.size_drew, World.heap_drewN]; omega))))) (HRB.out.next (by (repeat' (first | (with_reducible exact Below.refl _ _) | (with_reducible assumption) | (with_reducible refine Below.setCell ?_ ?_ _) | (with_reducible refine Below.alloc ?_ ?_ _) | (with_reducible refine Below.drew ?_) | (with_reducible refine below_drewN ?_ _) | (with_reducible refine below_next ?_ (by with_reducible assumption)) | omega | (dsimp only; omega) | (simp only [World.size_alloc, World.size_setCell, World.size_drew, World.heap_drewN]; omega)))))) (sameE_mk _ _ _ _ _)).mono ?_)
         rintro e w7 ⟨rfl, hb7⟩
         obtain ⟨hc7, hf7, hz7⟩ := cif hb7
         (try simp only [World.size_alloc, World.size_setCell, World.size_drew, World.heap_drewN] at hz7)))
    have hb6' := hb6
    (try simp only [World.heap_drewN, World.size_drew] at hb6')
    have h67 : Below w6.heap.size w6 w7 := below_step ((Below.refl _ _).alloc (Nat.le_refl _) _) hb7
    have hb67 : Below wc.heap.size wc w7 := below_step hb6 h67
    have hb37 : Below w3.heap.size w3 w7 := below_step hX5b hb67
    have hb27 : Below w2.heap.size w2 w7 := below_step hb3 hb37
    have HM7 := Lib.hid (HM.out.next hb27)
    have hfz : ∀ o, w7.frozen? ⟨g5, o, none⟩ = false := fun o => ((hb7.frozen (p := ⟨g5, o, none⟩) (by simp; omega)).trans ((by rw [frozen_alloc_if, if_pos (by omega)]; exact (hb6.frozen (p := ⟨g5, o, none⟩) (by show g5 < _; omega)).trans ((hX5b.frozen (p := ⟨g5, o, none⟩) (by show g5 < _; omega)).trans ((hb3.frozen (p := ⟨g5, o, none⟩) hlt5).trans (HW.out.frozenAt o))))))
    have a0 : w7.cell? ⟨ba, 0, none⟩ = some (.string name') := by simp [*, ↓IntWalk.iteOmega]
    have a1 : w7.cell? ⟨ba, 1, none⟩ = some (.slice A7 l'.length c7) := by simp [*, ↓IntWalk.iteOmega]
    have a2 : w7.cell? ⟨ba, 2, none⟩ = some (.int .i64 v'.k) := by simp [*, ↓IntWalk.iteOmega]
    have a3 : w7.cell? ⟨ba, 3, none⟩ = some (.int .u64 v'.b) := by simp [*, ↓IntWalk.iteOmega]
    have a4 : w7.cell? ⟨ba, 4, none⟩ = some (.int .i64 v'.l) := by simp [*, ↓IntWalk.iteOmega]
    have d0 : w7.cell? ⟨w6.heap.size, 0, none⟩ = some (.string name') := by simp [*, ↓IntWalk.iteOmega]
    have d1 : w7.cell? ⟨w6.heap.size, 1, none⟩ = some (.slice A8 l'.length c8) := by simp [*, ↓IntWalk.iteOmega]
    have d2 : w7.cell? ⟨w6.heap.size, 2, none⟩ = some (.int .i64 v'.k) := by simp [*, ↓IntWalk.iteOmega]
    have d3 : w7.cell? ⟨w6.heap.size, 3, none⟩ = some (.int .u64 v'.b) := by simp [*, ↓IntWalk.iteOmega]
    have d4 : w7.cell? ⟨w6.heap.size, 4, none⟩ = some (.int .i64 v'.l) := by simp [*, ↓IntWalk.iteOmega]
    have e0 : w7.cell? ⟨w.heap.size, 0, none⟩ = some (.slice A2 n2 c2) := by simp [*, ↓IntWalk.iteOmega]
    have e1 : w7.cell? ⟨w.heap.size, 1, none⟩ = some (.int .i64 r) := by simp [*, ↓IntWalk.iteOmega]
    have HB6 := Lib.hid h67
    have HB37 := Lib.hid hb37
    have HB67 := Lib.hid hb67
    have hbw7 : Below w.heap.size w w7 := below_step b5 hb67
    clear hb6' h67 hb27 hc6 hf6 hc7 hf7 x0 x1 x2 x3 x4 y0 y1 m0 hb37 hb67 hb6 hb7 hX5 hX5b
    go_loopw [17, 70] (fun u i wr => ∃ k : Nat, k ≤ l.length ∧ i = .int .i64 k ∧ Hid (Turned g5 (k * 3) w7 wr)) (fun _ i _ => l.length - (intOf i).toNat)
    case atStart => exact ⟨0, by omega, rfl, Lib.hid (Turned.refl _ _ _)⟩
    case round =>
      obtain ⟨k, hk, rfl, HTU⟩ := hrel
      by_cases hlt : k < l.length
      · obtain ⟨x, ex⟩ : ∃ x, l[k]? = some x := ⟨_, List.getElem?_eq_getElem hlt⟩
        obtain ⟨b1, o1, d1', f1, _, _, hb1', hc1'⟩ := H1.out.some_ (by omega)
        injection f1 with f1 f1' f1''
        subst f1
        obtain ⟨p1, p2, p3⟩ := RdL.vAt hc1' ex
        obtain ⟨b2, o2, d2', f2, _, _, hb2', hc2'⟩ := HM7.out.some_ (by simp)
        injection f2 with f2 f2' f2''
        injection f2 with f2
        injection f2 with f2 f3
        subst f2 f3
        obtain ⟨q1, q2, q3⟩ := RdL.vAt hc2' (k := k) (x := x) (by rw [List.getElem?_append_left hlt]; exact ex)
        simp only [Nat.zero_add] at q1 q2 q3
        have hT := HTU.out
        have p1' := (hT.2.1 b1 (by omega) _).trans ((hbw7.cell (p := ⟨b1, _, none⟩) hb1').trans p1)
        have p2' := (hT.2.1 b1 (by omega) _).trans ((hbw7.cell (p := ⟨b1, _, none⟩) hb1').trans p2)
        have p3' := (hT.2.1 b1 (by omega) _).trans ((hbw7.cell (p := ⟨b1, _, none⟩) hb1').trans p3)
        have q1' := (hT.2.2.1 (k * 3) (by omega)).trans q1
        have q2' := (hT.2.2.1 (k * 3 + 1) (by omega)).trans q2
        have q3' := (hT.2.2.1 (k * 3 + 2) (by omega)).trans q3
        have rf : ∀ o, wr.frozen? ⟨g5, o, none⟩ = false := fun o => (hT.2.2.2.1 g5 o).trans (hfz o)
        have hrun := eqV_yes x
        clear hT p1 p2 p3 q1 q2 q3 hc1' hc2' f1' f1'' f2' f2''
        go_wp2
        go_quiet (fail)
        go_wp2
        go_roundw
        case rel => exact ⟨k + 1, by omega, by go_num, Lib.hid ((((HTU.out.drewN _).step (k * 3) ((k + 1) * 3) _ (by omega) (by omega)).step (k * 3 + 1) ((k + 1) * 3) _ (by omega) (by omega)).step (k * 3 + 2) ((k + 1) * 3) _ (by omega) (by omega))⟩
        case measure => simp [intOf]; omega
      · have hkn : k = l.length := by omega
        subst hkn
        have hT := HTU.out
        have LA := Lib.hid (HRA.out.turned HB67.out hT (fun b hb _ => by have := HFA.out b hb; omega))
        have LB := Lib.hid (HRB.out.turned HB6.out hT (fun b hb _ => by have := HFB.out b hb; (try simp only [World.heap_drewN, World.size_drew] at this); omega))
        have LN := Lib.hid (HN.out.turned HB37.out hT (fun b hb _ => by have := (HFN.out b hb).1; omega))
        have LS := Lib.hid (H3.out.turned hbw7 hT (fun b hb _ => by omega))
        have t1 := hT.1
        have g0 := (hT.2.1 ba (by omega) 0).trans a0
        have g1 := (hT.2.1 ba (by omega) 1).trans a1
        have g2 := (hT.2.1 ba (by omega) 2).trans a2
        have g3 := (hT.2.1 ba (by omega) 3).trans a3
        have g4 := (hT.2.1 ba (by omega) 4).trans a4
        have k0 := (hT.2.1 w6.heap.size (by omega) 0).trans d0
        have k1 := (hT.2.1 w6.heap.size (by omega) 1).trans d1
        have k2 := (hT.2.1 w6.heap.size (by omega) 2).trans d2
        have k3 := (hT.2.1 w6.heap.size (by omega) 3).trans d3
        have k4 := (hT.2.1 w6.heap.size (by omega) 4).trans d4
        have s0 := (hT.2.1 w.heap.size (by omega) 0).trans e0
        have s1 := (hT.2.1 w.heap.size (by omega) 1).trans e1
        have hbr : Below w.heap.size w wr := hbw7.trans (hT.2.2.2.2.mono (by omega))
        have hrun := eqlV_yes (answerV r (scriptAt sc n))
        have hsa : ba < wr.heap.size := by omega
        have hsb : w6.heap.size < wr.heap.size := by omega
        have hss : w.heap.size < wr.heap.size := by omega
        clear hT a0 a1 a2 a3 a4 d0 d1 d2 d3 d4 e0 e1
        go_wp2
        refine wp_region_ext (by kernel_rfl) (by kernel_rfl) ?_
        repeat (first | go_big_quiet_skip | (go_big_quiet_want; go_big_quiet_op; first | go_big_quiet_on | (apply Exists.intro; refine ⟨fun W hW => ?_, ?_⟩; (focus (first
          | (go_at_call 9; (with_reducible refine (boolp_yes (ref_sameEvent_any ⟨name', .slice A7 l'.length c7, l', v'⟩ ⟨name', .slice A8 l'.length c8, l', v'⟩ _ (LA.out.next (Ext.of hW)) (LB.out.next (Ext.of hW))) (sameE_mk _ _ _ _ _)).mono ?_); rintro e w1 ⟨rfl, hb⟩; exact ⟨rfl, Ext.next hW hb⟩)
            | (go_at_call 10; (with_reducible refine (boolp_yes (sameEvent_any ⟨name', .slice A7 l'.length c7, l', v'⟩ ⟨name', .slice A8 l'.length c8, l', v'⟩ _ (LA.out.next (Ext.of hW)) (LB.out.next (Ext.of hW))) (sameE_mk _ _ _ _ _)).mono ?_); rintro e w1 ⟨rfl, hb⟩; exact ⟨rfl, Ext.next hW hb⟩)
            | (go_at_call 11; (with_reducible refine (answer_any r n _ sc _ (LN.out.next (Ext.of hW)) hsc).mono ?_); rintro e w1 ⟨rfl, hb⟩; exact ⟨rfl, Ext.next hW hb⟩)
            | (go_at_call 12; (with_reducible refine (ref_answer_any r n _ sc _ (LS.out.next (Ext.of hW)) hsc).mono ?_); rintro e w1 ⟨rfl, hb⟩; exact ⟨rfl, Ext.next hW hb⟩)
          | exact rfl | (obtain ⟨hcW, hfW, hzW⟩ := cif (Ext.of hW); (try simp only [World.size_alloc, World.size_setCell, World.size_drew, World.heap_drewN] at hzW); simp [go_sem, *, ↓IntWalk.iteOmega]; (try exact rfl)))); go_big_quiet_on)))
        refine wpQuiet_nil ?_
        intro w' hw'
        have hbl := Ext.of hw'
        obtain ⟨hc, hf, hz⟩ := cif hbl
        (try simp only [World.size_alloc, World.size_setCell, World.size_drew, World.heap_drewN] at hz)
        clear hw'
        go_wp2
        go_returns
        exact ⟨rfl, below_step hbr hbl⟩

end Go.Proofs.YteepjngkbjbheaaDoor
