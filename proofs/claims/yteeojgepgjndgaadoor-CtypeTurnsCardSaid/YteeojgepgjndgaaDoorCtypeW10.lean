/-
  How deep a type nests: the program's, the reference's.
-/
import Derived.Test.YteeojgepgjndgaaDoorCtypeW9
import Derived.Test.YteeojgepgjndgaaDoorCtypeMk
namespace Go.Proofs.YteeojgepgjndgaaDoor
open Go.RowKit
set_option linter.unusedVariables false
set_option linter.unusedSimpArgs false
attribute [local go_sem] ta_nil_Void ta_yes_Void ta_no_Number_Void ta_no_Float_Void ta_no_Record_Void ta_no_Pointer_Void ta_no_Array_Void ta_no_Function_Void ta_nil_Number ta_yes_Number ta_no_Void_Number ta_no_Float_Number ta_no_Record_Number ta_no_Pointer_Number ta_no_Array_Number ta_no_Function_Number ta_nil_Float ta_yes_Float ta_no_Void_Float ta_no_Number_Float ta_no_Record_Float ta_no_Pointer_Float ta_no_Array_Float ta_no_Function_Float ta_nil_Record ta_yes_Record ta_no_Void_Record ta_no_Number_Record ta_no_Float_Record ta_no_Pointer_Record ta_no_Array_Record ta_no_Function_Record ta_nil_Pointer ta_yes_Pointer ta_no_Void_Pointer ta_no_Number_Pointer ta_no_Float_Pointer ta_no_Record_Pointer ta_no_Array_Pointer ta_no_Function_Pointer ta_nil_Array ta_yes_Array ta_no_Void_Array ta_no_Number_Array ta_no_Float_Array ta_no_Record_Array ta_no_Pointer_Array ta_no_Function_Array ta_nil_Function ta_yes_Function ta_no_Void_Function ta_no_Number_Function ta_no_Float_Function ta_no_Record_Function ta_no_Pointer_Function ta_no_Array_Function

theorem ErsOk.mem : ∀ {l : List Ty}, ErsOk (ers l) → ∀ x ∈ l, ErOk (er x)
  | [], _, x, hx => by simp at hx
  | t :: l, h, x, hx => by
    simp only [ers, ErsOk] at h
    rcases List.mem_cons.1 hx with rfl | hx
    · exact h.1
    · exact ErsOk.mem h.2 x hx
theorem ErOk.kids {t : Ty} (h : ErOk (er t)) : (∀ x ∈ kids t, ErOk (er x)) ∧ (kids t).length ≤ 9 := by
  cases t <;> simp only [er, ErOk] at h <;> simp only [Go.Proofs.YteeojgepgjndgaaDoor.kids] <;> simp
  case ptr => exact h
  case arr => exact h.2
  case fn => exact ⟨⟨h.1, h.2.1.mem⟩, by have := h.2.2; rw [ers_map] at this; simpa using this⟩
theorem depths_mem : ∀ {l : List Ty} {x : Ty}, x ∈ l → depth (er x) ≤ depths (ers l)
  | t :: l, x, h => by
    simp only [ers, depths]
    rcases List.mem_cons.1 h with rfl | h
    · exact Nat.le_max_left _ _
    · exact Nat.le_trans (depths_mem h) (Nat.le_max_right _ _)
theorem depth_kids {t : Ty} (hn : ¬ t = .none) : depth (er t) = depths (ers (kids t)) + 1 := by
  cases t <;> simp [er, depth, kids, ers, depths] at hn ⊢
theorem depths_snoc : ∀ (l : List Ty) (x : Ty), depths (ers (l ++ [x])) = max (depths (ers l)) (depth (er x))
  | [], x => by simp [ers, depths]
  | t :: l, x => by
    simp only [List.cons_append, ers, depths, depths_snoc l x, Nat.max_assoc]
theorem depths_take (l : List Ty) (k : Nat) : depths (ers (l.take k)) ≤ depths (ers l) := by
  induction l generalizing k with
  | nil => simp [ers, depths]
  | cons t l ih =>
    cases k with
    | zero => simp [ers, depths]
    | succ k =>
      simp only [List.take_succ_cons, ers, depths]
      have := ih k
      omega

/-- The types that a type is made of are answered. -/
def PartsP (l : List Ty) (w : World) (e : Ending) (w' : World) : Prop := ∃ A c, e = .returned (.slice A l.length c) ∧ RdL tyC 6 w' (.slice A l.length c) l ∧ Below w.heap.size w w'
set_option maxRecDepth 100000 in
set_option maxHeartbeats 2000000 in
theorem parts_any (t : Ty) (w : World) (h : RdT w t) (hs : (kids t).length ≤ 9) : Calls Tryd.prog 63 #[tyV t] w (PartsP (kids t) w) := by
  obtain ⟨i0, hi0, hz0, hz1, hz2⟩ := info_parts ty_info
  have h' := h
  obtain ⟨k, s, l, f, n, A, m, c, vw, e0, hv, hcase⟩ := ty_view t h
  rw [tyV_of e0]
  have HV := Lib.hid hv
  have HT := Lib.hid h
  clear e0 hv h
  rcases hcase with ⟨rfl, rfl, rfl⟩ | ⟨rfl, rfl, rfl⟩ | ⟨rfl, rfl, rfl⟩ | ⟨rfl, rfl, rfl⟩ | ⟨rfl, rfl, rfl⟩ | ⟨t1, k1, s1, l1, f1, n1, A1, m1, c1, e1, r1, q1, rfl, rfl, rfl⟩ | ⟨t1, k1, s1, l1, f1, n1, A1, m1, c1, e1, r1, q1, rfl, rfl, rfl⟩ | ⟨t1, ps, k1, s1, l1, f1, n1, A1, m1, c1, A2, m2, c2, e1, r1, q1, rps, q2, rfl, rfl, rfl⟩
  all_goals (try (have E1 := Lib.hid e1; have R1 := Lib.hid r1; have Q1 := Lib.hid q1; clear e1 r1 q1))
  all_goals (try (have RPS := Lib.hid rps; have Q2 := Lib.hid q2; clear rps q2))
  case inr.inr.inr.inr.inr.inl =>
    have hA1 := cell_alloc_if
    have hA2 := frozen_alloc_if
    have hA3 := cell_set_if
    go_enter Tryd.func63, Tryd.ntmps63
    go_wp2_with (go_at_call 48; (with_reducible refine (HV.out _ (by (repeat' (first | (with_reducible exact Below.refl _ _) | (with_reducible assumption) | (with_reducible refine Below.setCell ?_ ?_ _) | (with_reducible refine Below.alloc ?_ ?_ _) | (with_reducible refine Below.drew ?_) | (with_reducible refine below_drewN ?_ _) | (with_reducible refine below_next ?_ (by with_reducible assumption)) | omega | (dsimp only; omega) | (simp only [World.size_alloc, World.size_setCell, World.size_drew, World.heap_drewN]; omega))))).mono ?_); rintro e w' ⟨rfl, hbl⟩; obtain ⟨hc, hf, hz⟩ := cif hbl; (try simp only [World.size_alloc, World.size_setCell, World.size_drew, World.heap_drewN] at hz))
    go_returns
    refine ⟨_, _, rfl, RdL.one E1.out ?_ ?_, by (repeat' (first | (with_reducible exact Below.refl _ _) | (with_reducible assumption) | (with_reducible refine Below.setCell ?_ ?_ _) | (with_reducible refine Below.alloc ?_ ?_ _) | (with_reducible refine Below.drew ?_) | (with_reducible refine below_drewN ?_ _) | (with_reducible refine below_next ?_ (by with_reducible assumption)) | omega | (dsimp only; omega) | (simp only [World.size_alloc, World.size_setCell, World.size_drew, World.heap_drewN]; omega)))⟩
    · simp
    · simp [go_sem, cell_alloc_if, *]
  case inr.inr.inr.inr.inr.inr.inl =>
    have hA1 := cell_alloc_if
    have hA2 := frozen_alloc_if
    have hA3 := cell_set_if
    go_enter Tryd.func63, Tryd.ntmps63
    go_wp2_with (go_at_call 48; (with_reducible refine (HV.out _ (by (repeat' (first | (with_reducible exact Below.refl _ _) | (with_reducible assumption) | (with_reducible refine Below.setCell ?_ ?_ _) | (with_reducible refine Below.alloc ?_ ?_ _) | (with_reducible refine Below.drew ?_) | (with_reducible refine below_drewN ?_ _) | (with_reducible refine below_next ?_ (by with_reducible assumption)) | omega | (dsimp only; omega) | (simp only [World.size_alloc, World.size_setCell, World.size_drew, World.heap_drewN]; omega))))).mono ?_); rintro e w' ⟨rfl, hbl⟩; obtain ⟨hc, hf, hz⟩ := cif hbl; (try simp only [World.size_alloc, World.size_setCell, World.size_drew, World.heap_drewN] at hz))
    go_returns
    refine ⟨_, _, rfl, RdL.one E1.out ?_ ?_, by (repeat' (first | (with_reducible exact Below.refl _ _) | (with_reducible assumption) | (with_reducible refine Below.setCell ?_ ?_ _) | (with_reducible refine Below.alloc ?_ ?_ _) | (with_reducible refine Below.drew ?_) | (with_reducible refine below_drewN ?_ _) | (with_reducible refine below_next ?_ (by with_reducible assumption)) | omega | (dsimp only; omega) | (simp only [World.size_alloc, World.size_setCell, World.size_drew, World.heap_drewN]; omega)))⟩
    · simp
    · simp [go_sem, cell_alloc_if, *]
  case inr.inr.inr.inr.inr.inr.inr =>
    simp only [kids, List.length_cons] at hs
    have HO : Hid (∀ a ∈ ps, ∀ u ∈ tyC a, u.oneCell' = true) := Lib.hid (fun a ha u hu => tyC_one (RPS.out.mem a ha) u hu)
    have Q2' := Q2
    clear h'
    have hA1 := cell_alloc_if
    have hA2 := frozen_alloc_if
    have hA3 := cell_set_if
    go_enter Tryd.func63, Tryd.ntmps63
    go_wp2_with (first
      | (go_at_call 48; (with_reducible refine (HV.out _ (by (repeat' (first | (with_reducible exact Below.refl _ _) | (with_reducible assumption) | (with_reducible refine Below.setCell ?_ ?_ _) | (with_reducible refine Below.alloc ?_ ?_ _) | (with_reducible refine Below.drew ?_) | (with_reducible refine below_drewN ?_ _) | (with_reducible refine below_next ?_ (by with_reducible assumption)) | omega | (dsimp only; omega) | (simp only [World.size_alloc, World.size_setCell, World.size_drew, World.heap_drewN]; omega))))).mono ?_); rintro e w' ⟨rfl, hbl⟩; obtain ⟨hc, hf, hz⟩ := cif hbl; (try simp only [World.size_alloc, World.size_setCell, World.size_drew, World.heap_drewN] at hz))
      | (at_builtin; refine wpList_app (e := 30) (f := tyC) rfl _ _ 28 rfl w'.heap.size i0 _ 72 Tryd.underlying28 hi0 hz0 hz1 hz2 rfl (by decide) tyC_len _ [t1] rfl (OwnL.lit _ _ [t1] _ ?c0 ?c1 ?c2 rfl ?c3) A2 m2 c2 ps rfl ?c4 HO.out (by decide) ?c5 ?c6 ?_))
    case c0 => simp
    case c1 => simp; try omega
    case c2 => simp [maxLen]
    case c3 => simp [E1.out]
    case c4 => exact Q2'.out.next (by (repeat' (first | (with_reducible exact Below.refl _ _) | (with_reducible assumption) | (with_reducible refine Below.setCell ?_ ?_ _) | (with_reducible refine Below.alloc ?_ ?_ _) | (with_reducible refine Below.drew ?_) | (with_reducible refine below_drewN ?_ _) | (with_reducible refine below_next ?_ (by with_reducible assumption)) | omega | (dsimp only; omega) | (simp only [World.size_alloc, World.size_setCell, World.size_drew, World.heap_drewN]; omega))))
    case c5 => simp; omega
    case c6 => simp; try omega
    intro A9 c9 w9 hown hg hB hor
    have HR9 := Lib.hid (hown.rdl tyC_len)
    have hb9 : Below w.heap.size w w9 := Below.trans (by (repeat' (first | (with_reducible exact Below.refl _ _) | (with_reducible assumption) | (with_reducible refine Below.setCell ?_ ?_ _) | (with_reducible refine Below.alloc ?_ ?_ _) | (with_reducible refine Below.drew ?_) | (with_reducible refine below_drewN ?_ _) | (with_reducible refine below_next ?_ (by with_reducible assumption)) | omega | (dsimp only; omega) | (simp only [World.size_alloc, World.size_setCell, World.size_drew, World.heap_drewN]; omega)))) (hB.mono (by omega))
    clear hown hg hB hor
    go_wp2
    go_returns
    exact ⟨A9, c9, congrArg (fun n => Ending.returned (.slice A9 n c9)) (by simp [kids]; omega), by simpa [Nat.add_comm, kids] using HR9.out, hb9⟩
  all_goals (
    have hA1 := cell_alloc_if
    have hA2 := frozen_alloc_if
    have hA3 := cell_set_if
    go_enter Tryd.func63, Tryd.ntmps63
    go_wp2_with (go_at_call 48; (with_reducible refine (HV.out _ (by (repeat' (first | (with_reducible exact Below.refl _ _) | (with_reducible assumption) | (with_reducible refine Below.setCell ?_ ?_ _) | (with_reducible refine Below.alloc ?_ ?_ _) | (with_reducible refine Below.drew ?_) | (with_reducible refine below_drewN ?_ _) | (with_reducible refine below_next ?_ (by with_reducible assumption)) | omega | (dsimp only; omega) | (simp only [World.size_alloc, World.size_setCell, World.size_drew, World.heap_drewN]; omega))))).mono ?_); rintro e w' ⟨rfl, hbl⟩; obtain ⟨hc, hf, hz⟩ := cif hbl; (try simp only [World.size_alloc, World.size_setCell, World.size_drew, World.heap_drewN] at hz))
    go_returns
    exact ⟨_, _, rfl, RdL.nil _ _ _, by (repeat' (first | (with_reducible exact Below.refl _ _) | (with_reducible assumption) | (with_reducible refine Below.setCell ?_ ?_ _) | (with_reducible refine Below.alloc ?_ ?_ _) | (with_reducible refine Below.drew ?_) | (with_reducible refine below_drewN ?_ _) | (with_reducible refine below_next ?_ (by with_reducible assumption)) | omega | (dsimp only; omega) | (simp only [World.size_alloc, World.size_setCell, World.size_drew, World.heap_drewN]; omega)))⟩)

def DepthAt (F : FuncId) (x : Ty) : Prop := ∀ (W : World), RdT W x → Calls Tryd.prog F #[tyV x] W fun e w' => e = .returned (.int .i64 (depth (er x))) ∧ Below W.heap.size W w'
set_option maxRecDepth 100000 in
set_option maxHeartbeats 4000000 in
theorem depth_step (t : Ty) (w : World) (h : RdT w t) (hok : ErOk (er t)) (hd : depth (er t) ≤ 1000) (hn : ¬ t = .none) (ih : ∀ x ∈ kids t, DepthAt 21 x) : Calls Tryd.prog 21 #[tyV t] w fun e w' => e = .returned (.int .i64 (depth (er t))) ∧ Below w.heap.size w w' := by
  obtain ⟨s0, l0, f0, n0, A0, m0, c0, k1, s1, l1, f1, n1, A1, m1, c1, e0, q1, rs1, e1⟩ := ty_kids t h
  have hp := fun W (hW : Below w.heap.size w W) => parts_any t W (h.next hW) hok.kids.2
  have hl := hok.kids.2
  rw [tyV_of e0] at hp ⊢
  have hk : ¬ kN t = 0 := fun h => hn ((none_iff t).2 h)
  have hdk := depth_kids hn
  rw [hdk] at hd ⊢
  have HP := Lib.hid hp
  have RS := Lib.hid rs1
  have IH := Lib.hid ih
  clear e0 e1 q1 rs1 ih hp hdk h hok hn
  generalize kN t = k at *
  generalize kids t = ts at *
  have hk2 : (k == 0) = false := by simpa using hk
  have hA1 := cell_alloc_if
  have hA2 := frozen_alloc_if
  have hA3 := cell_set_if
  go_enter Tryd.func21, Tryd.ntmps21
  go_wp2_with (first
    | (go_at_call 36; (with_reducible refine (none_any _ _ _ _ _ _ _ _ _).mono ?_); rintro e w' ⟨rfl, hbl⟩; obtain ⟨hc, hf, hz⟩ := cif hbl; (try simp only [World.size_alloc, World.size_setCell, World.size_drew, World.heap_drewN] at hz))
    | (go_at_call 63; (with_reducible refine (HP.out _ (by (repeat' (first | (with_reducible exact Below.refl _ _) | (with_reducible assumption) | (with_reducible refine Below.setCell ?_ ?_ _) | (with_reducible refine Below.alloc ?_ ?_ _) | (with_reducible refine Below.drew ?_) | (with_reducible refine below_drewN ?_ _) | (with_reducible refine below_next ?_ (by with_reducible assumption)) | omega | (dsimp only; omega) | (simp only [World.size_alloc, World.size_setCell, World.size_drew, World.heap_drewN]; omega))))).mono ?_); rintro e w3 ⟨A3, c3, rfl, hrd, hb3⟩; obtain ⟨hc3, hf3, hz3⟩ := cif hb3; (try simp only [World.size_alloc, World.size_setCell, World.size_drew, World.heap_drewN] at hz3); have HRD := Lib.hid hrd; clear hrd))
  have hw3 : Below w.heap.size w w3 := by (repeat' (first | (with_reducible exact Below.refl _ _) | (with_reducible assumption) | (with_reducible refine Below.setCell ?_ ?_ _) | (with_reducible refine Below.alloc ?_ ?_ _) | (with_reducible refine Below.drew ?_) | (with_reducible refine below_drewN ?_ _) | (with_reducible refine below_next ?_ (by with_reducible assumption)) | omega | (dsimp only; omega) | (simp only [World.size_alloc, World.size_setCell, World.size_drew, World.heap_drewN]; omega)))
  by_cases h0 : ts.length = 0
  · have hts : ts = [] := List.eq_nil_of_length_eq_zero h0
    subst hts
    clear hc3 hf3
    go_loop [3, 11] (fun t i => i = .int .i64 0 ∧ t = .int .i64 0) (fun _ _ => 0)
    case atStart => exact ⟨rfl, rfl⟩
    case round =>
      obtain ⟨rfl, rfl⟩ := hrel
      go_wp2
      go_returns
      exact ⟨rfl, by (repeat' (first | (with_reducible exact Below.refl _ _) | (with_reducible assumption) | (with_reducible refine Below.setCell ?_ ?_ _) | (with_reducible refine Below.alloc ?_ ?_ _) | (with_reducible refine Below.drew ?_) | (with_reducible refine below_drewN ?_ _) | (with_reducible refine below_next ?_ (by with_reducible assumption)) | omega | (dsimp only; omega) | (simp only [World.size_alloc, World.size_setCell, World.size_drew, World.heap_drewN]; omega)))⟩
  · obtain ⟨b, off, cc, ev, _, _, hlt3, hcc⟩ := HRD.out.some_ (by omega)
    injection ev with ev0 ev1 ev2
    subst ev0 ev2
    clear ev1 hc3 hf3
    have HCC := Lib.hid hcc
    clear hcc
    go_loopw [3, 11] (fun t i wr => ∃ k : Nat, k ≤ ts.length ∧ i = .int .i64 k ∧ t = .int .i64 (depths (ers (ts.take k))) ∧ Ext w3 wr) (fun _ i _ => ts.length - (intOf i).toNat)
    case atStart => exact ⟨0, by omega, rfl, rfl, Below.refl _ _⟩
    case round =>
      obtain ⟨k, hk, rfl, rfl, hX⟩ := hrel
      have hXb := Ext.of hX
      have hz8 := hXb.size
      have hdt := depths_take ts k
      by_cases hlt : k < ts.length
      · obtain ⟨x, e1⟩ : ∃ x, ts[k]? = some x := ⟨_, List.getElem?_eq_getElem hlt⟩
        have hwr : Below w.heap.size w wr := by unfold Ext at *; (repeat' (first | (with_reducible exact Below.refl _ _) | (with_reducible assumption) | (with_reducible refine Below.setCell ?_ ?_ _) | (with_reducible refine Below.alloc ?_ ?_ _) | (with_reducible refine Below.drew ?_) | (with_reducible refine below_drewN ?_ _) | (with_reducible refine below_next ?_ (by with_reducible assumption)) | omega | (dsimp only; omega) | (simp only [World.size_alloc, World.size_setCell, World.size_drew, World.heap_drewN]; omega)))
        have q1 := RS.out.mem x (List.mem_of_getElem? e1)
        obtain ⟨ka, sa, la, fa, na, Aa, ma, ca, ea⟩ := tyC_form x q1
        obtain ⟨p1, p2, p3, p4, p5, p6⟩ := RdL.tyAt HCC.out e1 ea
        have p1' := (hXb.cell (p := ⟨b, _, none⟩) hlt3).trans p1
        have p2' := (hXb.cell (p := ⟨b, _, none⟩) hlt3).trans p2
        have p3' := (hXb.cell (p := ⟨b, _, none⟩) hlt3).trans p3
        have p4' := (hXb.cell (p := ⟨b, _, none⟩) hlt3).trans p4
        have p5' := (hXb.cell (p := ⟨b, _, none⟩) hlt3).trans p5
        have p6' := (hXb.cell (p := ⟨b, _, none⟩) hlt3).trans p6
        have HI : Hid (∀ W, Below wr.heap.size wr W → Calls Tryd.prog 21 #[.agg #[.int .i64 ka, .int .i64 sa, .int .i64 la, .bool fa, .string na, .slice Aa ma ca]] W fun e w' => e = .returned (.int .i64 (depth (er x))) ∧ Below W.heap.size W w') := Lib.hid fun W hW => by
          have h := IH.out x (List.mem_of_getElem? e1) W ((q1.next hwr).next hW)
          rw [tyV_of ea] at h
          exact h
        have hdx := depths_mem (List.mem_of_getElem? e1)
        have HT := Lib.hid (show depths (ers (ts.take (k + 1))) = max (depths (ers (ts.take k))) (depth (er x)) by rw [List.take_add_one, e1]; exact depths_snoc _ _)
        clear p1 p2 p3 p4 p5 p6 e1 q1 ea
        go_wp2_with (go_at_call 21; (with_reducible refine (HI.out _ (by (repeat' (first | (with_reducible exact Below.refl _ _) | (with_reducible assumption) | (with_reducible refine Below.setCell ?_ ?_ _) | (with_reducible refine Below.alloc ?_ ?_ _) | (with_reducible refine Below.drew ?_) | (with_reducible refine below_drewN ?_ _) | (with_reducible refine below_next ?_ (by with_reducible assumption)) | omega | (dsimp only; omega) | (simp only [World.size_alloc, World.size_setCell, World.size_drew, World.heap_drewN]; omega))))).mono ?_); rintro e w' ⟨rfl, hbl⟩; obtain ⟨hc, hf, hz⟩ := cif hbl; (try simp only [World.size_alloc, World.size_setCell, World.size_drew, World.heap_drewN] at hz))
        all_goals (
          go_roundw
          case rel => exact ⟨k + 1, by omega, by go_num, by rw [HT.out]; first | rfl | (congr 1; omega), by unfold Ext at *; (repeat' (first | (with_reducible exact Below.refl _ _) | (with_reducible assumption) | (with_reducible refine Below.setCell ?_ ?_ _) | (with_reducible refine Below.alloc ?_ ?_ _) | (with_reducible refine Below.drew ?_) | (with_reducible refine below_drewN ?_ _) | (with_reducible refine below_next ?_ (by with_reducible assumption)) | omega | (dsimp only; omega) | (simp only [World.size_alloc, World.size_setCell, World.size_drew, World.heap_drewN]; omega)))⟩
          case measure => simp [intOf]; omega)
      · have hkn : k = ts.length := by omega
        subst hkn
        rw [List.take_length]
        go_wp2
        go_returns
        exact ⟨ret_i64 (by simp), by unfold Ext at *; (repeat' (first | (with_reducible exact Below.refl _ _) | (with_reducible assumption) | (with_reducible refine Below.setCell ?_ ?_ _) | (with_reducible refine Below.alloc ?_ ?_ _) | (with_reducible refine Below.drew ?_) | (with_reducible refine below_drewN ?_ _) | (with_reducible refine below_next ?_ (by with_reducible assumption)) | omega | (dsimp only; omega) | (simp only [World.size_alloc, World.size_setCell, World.size_drew, World.heap_drewN]; omega)))⟩
theorem depth_none (w : World) : Calls Tryd.prog 21 #[tyV .none] w fun e w' => e = .returned (.int .i64 (depth (er .none))) ∧ Below w.heap.size w w' := by
  rw [show tyV .none = .agg #[.int .i64 0, .int .i64 0, .int .i64 0, .bool false, .string ⟨#[]⟩, .slice none 0 0] from rfl]
  have hA1 := cell_alloc_if
  have hA2 := frozen_alloc_if
  have hA3 := cell_set_if
  go_enter Tryd.func21, Tryd.ntmps21
  go_wp2_with (go_at_call 36; (with_reducible refine (none_any _ _ _ _ _ _ _ _ _).mono ?_); rintro e w' ⟨rfl, hbl⟩; obtain ⟨hc, hf, hz⟩ := cif hbl; (try simp only [World.size_alloc, World.size_setCell, World.size_drew, World.heap_drewN] at hz))
  go_returns
  exact ⟨rfl, by (repeat' (first | (with_reducible exact Below.refl _ _) | (with_reducible assumption) | (with_reducible refine Below.setCell ?_ ?_ _) | (with_reducible refine Below.alloc ?_ ?_ _) | (with_reducible refine Below.drew ?_) | (with_reducible refine below_drewN ?_ _) | (with_reducible refine below_next ?_ (by with_reducible assumption)) | omega | (dsimp only; omega) | (simp only [World.size_alloc, World.size_setCell, World.size_drew, World.heap_drewN]; omega)))⟩
mutual
theorem depth_any : ∀ (t : Ty), ErOk (er t) → depth (er t) ≤ 1000 → DepthAt 21 t
  | .none, _, _ => fun w _ => depth_none w
  | .void, h, hd => fun w hr => depth_step _ w hr h hd (by simp) (by simp [kids])
  | .flt, h, hd => fun w hr => depth_step _ w hr h hd (by simp) (by simp [kids])
  | .num s u, h, hd => fun w hr => depth_step _ w hr h hd (by simp) (by simp [kids])
  | .rcd u n, h, hd => fun w hr => depth_step _ w hr h hd (by simp) (by simp [kids])
  | .ptr sv t, h, hd => fun w hr => depth_step _ w hr h hd (by simp) (by
      simp only [er, ErOk, depth] at h hd
      intro x hx
      simp only [kids, List.mem_cons, List.not_mem_nil, or_false] at hx
      rw [hx]
      exact depth_any t h (by omega))
  | .arr sv d t, h, hd => fun w hr => depth_step _ w hr h hd (by simp) (by
      simp only [er, ErOk, depth] at h hd
      intro x hx
      simp only [kids, List.mem_cons, List.not_mem_nil, or_false] at hx
      rw [hx]
      exact depth_any t h.2 (by omega))
  | .fn sv r ps, h, hd => fun w hr => depth_step _ w hr h hd (by simp) (by
      simp only [er, ErOk, depth] at h hd
      intro x hx
      simp only [kids] at hx
      rcases List.mem_cons.1 hx with hx | hx
      · rw [hx]; exact depth_any r h.1 (by omega)
      · exact depth_all ps h.2.1 (by omega) x hx)
theorem depth_all : ∀ (l : List Ty), ErsOk (ers l) → depths (ers l) ≤ 1000 → ∀ x ∈ l, DepthAt 21 x
  | [], _, _, x, hx => by simp at hx
  | t :: l, h, hd, x, hx => by
    simp only [ers, ErsOk, depths] at h hd
    rcases List.mem_cons.1 hx with hx | hx
    · rw [hx]; exact depth_any t h.1 (by omega)
    · exact depth_all l h.2 (by omega) x hx
end

set_option maxRecDepth 100000 in
set_option maxHeartbeats 1000000 in
theorem rdepth_plain (t : Ty) (w : World) (h : RdT w t) (hp : plainT t = true) : Calls Tryd.prog 22 #[tyV t] w fun e w' => e = .returned (.int .i64 (depth (er t))) ∧ Below w.heap.size w w' := by
  obtain ⟨s0, l0, f0, n0, A0, m0, c0, k1, s1, l1, f1, n1, A1, m1, c1, e0, q1, rs1, e1⟩ := ty_kids t h
  rw [tyV_of e0]
  clear e0 e1 q1 rs1 h
  cases t <;> first | (simp [plainT, isP, isA, isFn] at hp; done) | skip
  all_goals (
    simp only [kN, er, depth]
    have hA1 := cell_alloc_if
    have hA2 := frozen_alloc_if
    have hA3 := cell_set_if
    go_enter Tryd.func22, Tryd.ntmps22
    go_wp2
    go_returns
    exact ⟨rfl, by (repeat' (first | (with_reducible exact Below.refl _ _) | (with_reducible assumption) | (with_reducible refine Below.setCell ?_ ?_ _) | (with_reducible refine Below.alloc ?_ ?_ _) | (with_reducible refine Below.drew ?_) | (with_reducible refine below_drewN ?_ _) | (with_reducible refine below_next ?_ (by with_reducible assumption)) | omega | (dsimp only; omega) | (simp only [World.size_alloc, World.size_setCell, World.size_drew, World.heap_drewN]; omega)))⟩)
set_option maxRecDepth 100000 in
set_option maxHeartbeats 1000000 in
theorem rdepth_ptr (sv : Value) (t : Ty) (w : World) (h : RdT w (.ptr sv t)) (hd : depth (er t) ≤ 1000) (ih : DepthAt 22 t) : Calls Tryd.prog 22 #[tyV (.ptr sv t)] w fun e w' => e = .returned (.int .i64 (depth (er (.ptr sv t)))) ∧ Below w.heap.size w w' := by
  obtain ⟨s0, l0, f0, n0, A0, m0, c0, k1, s1, l1, f1, n1, A1, m1, c1, e0, q1, rs1, e1⟩ := ty_kids _ h
  have r1 : RdT w t := by simp only [RdT] at h; exact h.2
  have HI : Hid (∀ W, Below w.heap.size w W → Calls Tryd.prog 22 #[.agg #[.int .i64 k1, .int .i64 s1, .int .i64 l1, .bool f1, .string n1, .slice A1 m1 c1]] W fun e w' => e = .returned (.int .i64 (depth (er t))) ∧ Below W.heap.size W w') := Lib.hid fun W hW => by
    have h := ih W (r1.next hW)
    rw [show tyV t = _ from tyV_of e1] at h
    exact h
  rw [tyV_of e0]
  have Q1 := Lib.hid q1
  have RS1 := Lib.hid rs1
  have E1 := Lib.hid e1
  clear e0 e1 q1 rs1 h r1 ih
  simp only [kN, er, depth]
  generalize depth (er t) = dt at *
  have hA1 := cell_alloc_if
  have hA2 := frozen_alloc_if
  have hA3 := cell_set_if
  go_enter Tryd.func22, Tryd.ntmps22
  go_wp2_with (first
    | (go_at_call 54; (with_reducible refine (pointerOf_any _ _ _ _ _ _ _ _ _ (Q1.out.next (by (repeat' (first | (with_reducible exact Below.refl _ _) | (with_reducible assumption) | (with_reducible refine Below.setCell ?_ ?_ _) | (with_reducible refine Below.alloc ?_ ?_ _) | (with_reducible refine Below.drew ?_) | (with_reducible refine below_drewN ?_ _) | (with_reducible refine below_next ?_ (by with_reducible assumption)) | omega | (dsimp only; omega) | (simp only [World.size_alloc, World.size_setCell, World.size_drew, World.heap_drewN]; omega))))) (RS1.out.next (by (repeat' (first | (with_reducible exact Below.refl _ _) | (with_reducible assumption) | (with_reducible refine Below.setCell ?_ ?_ _) | (with_reducible refine Below.alloc ?_ ?_ _) | (with_reducible refine Below.drew ?_) | (with_reducible refine below_drewN ?_ _) | (with_reducible refine below_next ?_ (by with_reducible assumption)) | omega | (dsimp only; omega) | (simp only [World.size_alloc, World.size_setCell, World.size_drew, World.heap_drewN]; omega))))) E1.out).mono ?_); rintro e w' ⟨rfl, hbl⟩; obtain ⟨hc, hf, hz⟩ := cif hbl; (try simp only [World.size_alloc, World.size_setCell, World.size_drew, World.heap_drewN] at hz))
    | (go_at_call 22; (with_reducible refine (HI.out _ (by (repeat' (first | (with_reducible exact Below.refl _ _) | (with_reducible assumption) | (with_reducible refine Below.setCell ?_ ?_ _) | (with_reducible refine Below.alloc ?_ ?_ _) | (with_reducible refine Below.drew ?_) | (with_reducible refine below_drewN ?_ _) | (with_reducible refine below_next ?_ (by with_reducible assumption)) | omega | (dsimp only; omega) | (simp only [World.size_alloc, World.size_setCell, World.size_drew, World.heap_drewN]; omega))))).mono ?_); rintro e w' ⟨rfl, hbl⟩; obtain ⟨hc, hf, hz⟩ := cif hbl; (try simp only [World.size_alloc, World.size_setCell, World.size_drew, World.heap_drewN] at hz)))
  go_returns
  exact ⟨ret_i64 (by simp), by (repeat' (first | (with_reducible exact Below.refl _ _) | (with_reducible assumption) | (with_reducible refine Below.setCell ?_ ?_ _) | (with_reducible refine Below.alloc ?_ ?_ _) | (with_reducible refine Below.drew ?_) | (with_reducible refine below_drewN ?_ _) | (with_reducible refine below_next ?_ (by with_reducible assumption)) | omega | (dsimp only; omega) | (simp only [World.size_alloc, World.size_setCell, World.size_drew, World.heap_drewN]; omega)))⟩
set_option maxRecDepth 100000 in
set_option maxHeartbeats 1000000 in
theorem rdepth_arr (sv : Value) (d : Int) (t : Ty) (w : World) (h : RdT w (.arr sv d t)) (hd : depth (er t) ≤ 1000) (ih : DepthAt 22 t) : Calls Tryd.prog 22 #[tyV (.arr sv d t)] w fun e w' => e = .returned (.int .i64 (depth (er (.arr sv d t)))) ∧ Below w.heap.size w w' := by
  obtain ⟨s0, l0, f0, n0, A0, m0, c0, k1, s1, l1, f1, n1, A1, m1, c1, e0, q1, rs1, e1⟩ := ty_kids _ h
  have r1 : RdT w t := by simp only [RdT] at h; exact h.2
  have HI : Hid (∀ W, Below w.heap.size w W → Calls Tryd.prog 22 #[.agg #[.int .i64 k1, .int .i64 s1, .int .i64 l1, .bool f1, .string n1, .slice A1 m1 c1]] W fun e w' => e = .returned (.int .i64 (depth (er t))) ∧ Below W.heap.size W w') := Lib.hid fun W hW => by
    have h := ih W (r1.next hW)
    rw [show tyV t = _ from tyV_of e1] at h
    exact h
  rw [tyV_of e0]
  have Q1 := Lib.hid q1
  have RS1 := Lib.hid rs1
  have E1 := Lib.hid e1
  clear e0 e1 q1 rs1 h r1 ih
  simp only [kN, er, depth]
  generalize depth (er t) = dt at *
  have hA1 := cell_alloc_if
  have hA2 := frozen_alloc_if
  have hA3 := cell_set_if
  go_enter Tryd.func22, Tryd.ntmps22
  go_wp2_with (first
    | (go_at_call 55; (with_reducible refine (arrayOf_any _ _ _ _ _ _ _ _ _ (Q1.out.next (by (repeat' (first | (with_reducible exact Below.refl _ _) | (with_reducible assumption) | (with_reducible refine Below.setCell ?_ ?_ _) | (with_reducible refine Below.alloc ?_ ?_ _) | (with_reducible refine Below.drew ?_) | (with_reducible refine below_drewN ?_ _) | (with_reducible refine below_next ?_ (by with_reducible assumption)) | omega | (dsimp only; omega) | (simp only [World.size_alloc, World.size_setCell, World.size_drew, World.heap_drewN]; omega))))) (RS1.out.next (by (repeat' (first | (with_reducible exact Below.refl _ _) | (with_reducible assumption) | (with_reducible refine Below.setCell ?_ ?_ _) | (with_reducible refine Below.alloc ?_ ?_ _) | (with_reducible refine Below.drew ?_) | (with_reducible refine below_drewN ?_ _) | (with_reducible refine below_next ?_ (by with_reducible assumption)) | omega | (dsimp only; omega) | (simp only [World.size_alloc, World.size_setCell, World.size_drew, World.heap_drewN]; omega))))) E1.out).mono ?_); rintro e w' ⟨rfl, hbl⟩; obtain ⟨hc, hf, hz⟩ := cif hbl; (try simp only [World.size_alloc, World.size_setCell, World.size_drew, World.heap_drewN] at hz))
    | (go_at_call 22; (with_reducible refine (HI.out _ (by (repeat' (first | (with_reducible exact Below.refl _ _) | (with_reducible assumption) | (with_reducible refine Below.setCell ?_ ?_ _) | (with_reducible refine Below.alloc ?_ ?_ _) | (with_reducible refine Below.drew ?_) | (with_reducible refine below_drewN ?_ _) | (with_reducible refine below_next ?_ (by with_reducible assumption)) | omega | (dsimp only; omega) | (simp only [World.size_alloc, World.size_setCell, World.size_drew, World.heap_drewN]; omega))))).mono ?_); rintro e w' ⟨rfl, hbl⟩; obtain ⟨hc, hf, hz⟩ := cif hbl; (try simp only [World.size_alloc, World.size_setCell, World.size_drew, World.heap_drewN] at hz)))
  go_returns
  exact ⟨ret_i64 (by simp), by (repeat' (first | (with_reducible exact Below.refl _ _) | (with_reducible assumption) | (with_reducible refine Below.setCell ?_ ?_ _) | (with_reducible refine Below.alloc ?_ ?_ _) | (with_reducible refine Below.drew ?_) | (with_reducible refine below_drewN ?_ _) | (with_reducible refine below_next ?_ (by with_reducible assumption)) | omega | (dsimp only; omega) | (simp only [World.size_alloc, World.size_setCell, World.size_drew, World.heap_drewN]; omega)))⟩
set_option maxRecDepth 100000 in
set_option maxHeartbeats 4000000 in
theorem rdepth_fn (sv : Value) (r : Ty) (ps : List Ty) (w : World) (h : RdT w (.fn sv r ps)) (hd : depth (er (.fn sv r ps)) ≤ 1000) (ih : DepthAt 22 r) (ihs : ∀ x ∈ ps, DepthAt 22 x) : Calls Tryd.prog 22 #[tyV (.fn sv r ps)] w fun e w' => e = .returned (.int .i64 (depth (er (.fn sv r ps)))) ∧ Below w.heap.size w w' := by
  obtain ⟨s0, l0, f0, n0, A0, m0, c0, k1, s1, l1, f1, n1, A1, m1, c1, e0, q1, rs1, e1⟩ := ty_kids _ h
  simp only [RdT] at h
  have HI : Hid (∀ W, Below w.heap.size w W → Calls Tryd.prog 22 #[.agg #[.int .i64 k1, .int .i64 s1, .int .i64 l1, .bool f1, .string n1, .slice A1 m1 c1]] W fun e w' => e = .returned (.int .i64 (depth (er r))) ∧ Below W.heap.size W w') := Lib.hid fun W hW => by
    have h := ih W (h.2.1.next hW)
    rw [show tyV r = _ from tyV_of e1] at h
    exact h
  obtain ⟨A3, m3, c3, h3⟩ : ∃ A3 m3 c3, (restA A0 m0, m0 - 1, restC m0 c0) = (A3, m3, c3) := ⟨_, _, _, rfl⟩
  injection h3 with h30 h3
  injection h3 with h31 h32
  have p1 := q1.rest
  rw [h30, h31, h32] at p1
  have FA := fun W (hW : Below w.heap.size w W) => functionOf_any 7 s0 l0 f0 n0 A0 m0 c0 W (q1.next hW) (rs1.next hW) e1
  rw [h30, h31, h32] at FA
  rw [tyV_of e0]
  have GA := Lib.hid FA
  have P1 : Hid (RdL tyC 6 w (.slice A3 m3 c3) ps) := Lib.hid p1
  have G1 := Lib.hid h.2.2
  have IHS := Lib.hid ihs
  have ml1 : ps.length = m3 := by obtain ⟨_, _, e, _⟩ := P1.out; injection e with _ e _; exact e.symm
  have bl1 := P1.out.len
  unfold maxLen at bl1
  subst ml1
  clear e0 e1 q1 rs1 h ih ihs p1 FA h30 h31 h32
  simp only [kN, er, depth] at hd ⊢
  generalize depth (er r) = dr at *
  have hA1 := cell_alloc_if
  have hA2 := frozen_alloc_if
  have hA3 := cell_set_if
  go_enter Tryd.func22, Tryd.ntmps22
  go_wp2_with (first
    | (go_at_call 56; (with_reducible refine (GA.out _ (by (repeat' (first | (with_reducible exact Below.refl _ _) | (with_reducible assumption) | (with_reducible refine Below.setCell ?_ ?_ _) | (with_reducible refine Below.alloc ?_ ?_ _) | (with_reducible refine Below.drew ?_) | (with_reducible refine below_drewN ?_ _) | (with_reducible refine below_next ?_ (by with_reducible assumption)) | omega | (dsimp only; omega) | (simp only [World.size_alloc, World.size_setCell, World.size_drew, World.heap_drewN]; omega))))).mono ?_); rintro e w5 ⟨rfl, hb5⟩; obtain ⟨hc5, hf5, hz5⟩ := cif hb5; (try simp only [World.size_alloc, World.size_setCell, World.size_drew, World.heap_drewN] at hz5))
    | (go_at_call 22; (with_reducible refine (HI.out _ (by (repeat' (first | (with_reducible exact Below.refl _ _) | (with_reducible assumption) | (with_reducible refine Below.setCell ?_ ?_ _) | (with_reducible refine Below.alloc ?_ ?_ _) | (with_reducible refine Below.drew ?_) | (with_reducible refine below_drewN ?_ _) | (with_reducible refine below_next ?_ (by with_reducible assumption)) | omega | (dsimp only; omega) | (simp only [World.size_alloc, World.size_setCell, World.size_drew, World.heap_drewN]; omega))))).mono ?_); rintro e w7 ⟨rfl, hb7⟩; obtain ⟨hc7, hf7, hz7⟩ := cif hb7; (try simp only [World.size_alloc, World.size_setCell, World.size_drew, World.heap_drewN] at hz7)))
  have hw7 : Below w.heap.size w w7 := by (repeat' (first | (with_reducible exact Below.refl _ _) | (with_reducible assumption) | (with_reducible refine Below.setCell ?_ ?_ _) | (with_reducible refine Below.alloc ?_ ?_ _) | (with_reducible refine Below.drew ?_) | (with_reducible refine below_drewN ?_ _) | (with_reducible refine below_next ?_ (by with_reducible assumption)) | omega | (dsimp only; omega) | (simp only [World.size_alloc, World.size_setCell, World.size_drew, World.heap_drewN]; omega)))
  have z6 : w7.cell? ⟨w5.heap.size, 6, none⟩ = some (.slice A3 ps.length c3) := by simp [*, ↓IntWalk.iteOmega]
  have hx7 : w5.heap.size < w7.heap.size := by omega
  clear hc7 hf7 hc5 hf5
  go_loopw [6, 7] (fun t i wr => ∃ k : Nat, k ≤ ps.length ∧ i = .int .i64 k ∧ t = .int .i64 (max dr (depths (ers (ps.take k))) : Nat) ∧ Ext w7 wr) (fun _ i _ => ps.length - (intOf i).toNat)
  case atStart => exact ⟨0, by omega, rfl, by simp [ers, depths], Below.refl _ _⟩
  case round =>
    obtain ⟨k, hk, rfl, rfl, hX⟩ := hrel
    have hXb := Ext.of hX
    have hz8 := hXb.size
    have u6 := (hXb.cell (p := ⟨w5.heap.size, 6, none⟩) hx7).trans z6
    have hdt := depths_take ps k
    by_cases hlt : k < ps.length
    · obtain ⟨x, e1⟩ : ∃ x, ps[k]? = some x := ⟨_, List.getElem?_eq_getElem hlt⟩
      obtain ⟨g3, o3, cc3, ev3, _, hcc3, hlt3, hc3⟩ := P1.out.some_ (by omega)
      injection ev3 with ev30 ev31 ev32
      subst ev30
      clear ev31 ev32
      have hwr : Below w.heap.size w wr := by unfold Ext at *; (repeat' (first | (with_reducible exact Below.refl _ _) | (with_reducible assumption) | (with_reducible refine Below.setCell ?_ ?_ _) | (with_reducible refine Below.alloc ?_ ?_ _) | (with_reducible refine Below.drew ?_) | (with_reducible refine below_drewN ?_ _) | (with_reducible refine below_next ?_ (by with_reducible assumption)) | omega | (dsimp only; omega) | (simp only [World.size_alloc, World.size_setCell, World.size_drew, World.heap_drewN]; omega)))
      have q1 := G1.out.mem x (List.mem_of_getElem? e1)
      obtain ⟨ka, sa, la, fa, na, Aa, ma, ca, ea⟩ := tyC_form x q1
      obtain ⟨p1, p2, p3, p4, p5, p6⟩ := RdL.tyAt hc3 e1 ea
      have p1' := (hwr.cell (p := ⟨g3, _, none⟩) hlt3).trans p1
      have p2' := (hwr.cell (p := ⟨g3, _, none⟩) hlt3).trans p2
      have p3' := (hwr.cell (p := ⟨g3, _, none⟩) hlt3).trans p3
      have p4' := (hwr.cell (p := ⟨g3, _, none⟩) hlt3).trans p4
      have p5' := (hwr.cell (p := ⟨g3, _, none⟩) hlt3).trans p5
      have p6' := (hwr.cell (p := ⟨g3, _, none⟩) hlt3).trans p6
      have hwz := hwr.size
      have HX : Hid (∀ W, Below wr.heap.size wr W → Calls Tryd.prog 22 #[.agg #[.int .i64 ka, .int .i64 sa, .int .i64 la, .bool fa, .string na, .slice Aa ma ca]] W fun e w' => e = .returned (.int .i64 (depth (er x))) ∧ Below W.heap.size W w') := Lib.hid fun W hW => by
        have h := IHS.out x (List.mem_of_getElem? e1) W ((q1.next hwr).next hW)
        rw [tyV_of ea] at h
        exact h
      have hdx := depths_mem (List.mem_of_getElem? e1)
      have HT := Lib.hid (show depths (ers (ps.take (k + 1))) = max (depths (ers (ps.take k))) (depth (er x)) by rw [List.take_add_one, e1]; exact depths_snoc _ _)
      clear p1 p2 p3 p4 p5 p6 e1 q1 ea hc3 z6
      go_wp2_with (go_at_call 22; (with_reducible refine (HX.out _ (by (repeat' (first | (with_reducible exact Below.refl _ _) | (with_reducible assumption) | (with_reducible refine Below.setCell ?_ ?_ _) | (with_reducible refine Below.alloc ?_ ?_ _) | (with_reducible refine Below.drew ?_) | (with_reducible refine below_drewN ?_ _) | (with_reducible refine below_next ?_ (by with_reducible assumption)) | omega | (dsimp only; omega) | (simp only [World.size_alloc, World.size_setCell, World.size_drew, World.heap_drewN]; omega))))).mono ?_); rintro e w' ⟨rfl, hbl⟩; obtain ⟨hc, hf, hz⟩ := cif hbl; (try simp only [World.size_alloc, World.size_setCell, World.size_drew, World.heap_drewN] at hz))
      all_goals (
        go_roundw
        case rel => exact ⟨k + 1, by omega, by go_num, by rw [HT.out]; first | rfl | (congr 1; omega), by unfold Ext at *; (repeat' (first | (with_reducible exact Below.refl _ _) | (with_reducible assumption) | (with_reducible refine Below.setCell ?_ ?_ _) | (with_reducible refine Below.alloc ?_ ?_ _) | (with_reducible refine Below.drew ?_) | (with_reducible refine below_drewN ?_ _) | (with_reducible refine below_next ?_ (by with_reducible assumption)) | omega | (dsimp only; omega) | (simp only [World.size_alloc, World.size_setCell, World.size_drew, World.heap_drewN]; omega)))⟩
        case measure => simp [intOf]; omega)
    · have hkn : k = ps.length := by omega
      subst hkn
      rw [List.take_length]
      go_wp2
      go_returns
      exact ⟨ret_i64 (by simp), by unfold Ext at *; (repeat' (first | (with_reducible exact Below.refl _ _) | (with_reducible assumption) | (with_reducible refine Below.setCell ?_ ?_ _) | (with_reducible refine Below.alloc ?_ ?_ _) | (with_reducible refine Below.drew ?_) | (with_reducible refine below_drewN ?_ _) | (with_reducible refine below_next ?_ (by with_reducible assumption)) | omega | (dsimp only; omega) | (simp only [World.size_alloc, World.size_setCell, World.size_drew, World.heap_drewN]; omega)))⟩
mutual
theorem rdepth_any : ∀ (t : Ty), depth (er t) ≤ 1000 → DepthAt 22 t
  | .none, _ => fun w h => rdepth_plain _ w h rfl
  | .void, _ => fun w h => rdepth_plain _ w h rfl
  | .flt, _ => fun w h => rdepth_plain _ w h rfl
  | .num s u, _ => fun w h => rdepth_plain _ w h rfl
  | .rcd u n, _ => fun w h => rdepth_plain _ w h rfl
  | .ptr sv t, hd => fun w h => by
    have hd' : depth (er t) ≤ 1000 := by simp only [er, depth] at hd; omega
    exact rdepth_ptr sv t w h hd' (rdepth_any t hd')
  | .arr sv d t, hd => fun w h => by
    have hd' : depth (er t) ≤ 1000 := by simp only [er, depth] at hd; omega
    exact rdepth_arr sv d t w h hd' (rdepth_any t hd')
  | .fn sv r ps, hd => fun w h => by
    have hd' : depth (er r) ≤ 1000 ∧ depths (ers ps) ≤ 1000 := by simp only [er, depth] at hd; omega
    exact rdepth_fn sv r ps w h hd (rdepth_any r hd'.1) (rdepth_all ps hd'.2)
theorem rdepth_all : ∀ (l : List Ty), depths (ers l) ≤ 1000 → ∀ x ∈ l, DepthAt 22 x
  | [], _, x, hx => by simp at hx
  | t :: l, hd, x, hx => by
    simp only [ers, depths] at hd
    rcases List.mem_cons.1 hx with hx | hx
    · rw [hx]; exact rdepth_any t (by omega)
    · exact rdepth_all l (by omega) x hx
end
end Go.Proofs.YteeojgepgjndgaaDoor
