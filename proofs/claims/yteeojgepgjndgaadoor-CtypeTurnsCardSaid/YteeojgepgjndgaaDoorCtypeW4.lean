/-
  Promotions, the reference's chunk and kind, the common type: what the program and the reference compute.
-/
import Derived.Test.YteeojgepgjndgaaDoorCtypeW3
import Derived.Test.YteeojgepgjndgaaDoorCtypeLaw1
import Derived.Deep.DeepCutAuto
namespace Go.Proofs.YteeojgepgjndgaaDoor
open Go.RowKit
set_option linter.unusedVariables false
set_option linter.unusedSimpArgs false

set_option maxRecDepth 100000 in
set_option maxHeartbeats 1000000 in
theorem rchunk_any (t : Ty) (w : World) (h : RdT w t) : Calls Tryd.prog 24 #[tyV t] w fun e w' => e = .returned (.int .i64 (chunk t)) ∧ Below w.heap.size w w' := by
  obtain ⟨k, s, l, f, n, A, m, c, vw, e0, hv, hcase⟩ := ty_view t h
  rw [tyV_of e0]
  have HV := Lib.hid hv
  have HT := Lib.hid h
  clear e0 hv h
  rcases hcase with ⟨rfl, rfl, rfl⟩ | ⟨rfl, rfl, rfl⟩ | ⟨rfl, rfl, rfl⟩ | ⟨rfl, rfl, rfl⟩ | ⟨rfl, rfl, rfl⟩ | ⟨t1, k1, s1, l1, f1, n1, A1, m1, c1, e1, r1, q1, rfl, rfl, rfl⟩ | ⟨t1, k1, s1, l1, f1, n1, A1, m1, c1, e1, r1, q1, rfl, rfl, rfl⟩ | ⟨t1, ps, k1, s1, l1, f1, n1, A1, m1, c1, A2, m2, c2, e1, r1, q1, rps, q2, rfl, rfl, rfl⟩
  all_goals (try (have E1 := Lib.hid e1; have R1 := Lib.hid r1; have Q1 := Lib.hid q1; clear e1 r1 q1))
  all_goals (try (have RPS := Lib.hid rps; have Q2 := Lib.hid q2; clear rps q2))
  all_goals (
    have hA1 := cell_alloc_if
    have hA2 := frozen_alloc_if
    have hA3 := cell_set_if
    go_enter Tryd.func24, Tryd.ntmps24
    go_wp2_with (go_at_call 57; (with_reducible refine (numberOf_any _ _ _ _ _ _ _ _ _).mono ?_); rintro e w' ⟨rfl, hbl⟩; obtain ⟨hc, hf, hz⟩ := cif hbl; (try simp only [World.size_alloc, World.size_setCell, World.size_drew, World.heap_drewN] at hz))
    all_goals (go_returns; refine ⟨?_, by (repeat' (first | (with_reducible exact Below.refl _ _) | (with_reducible assumption) | (with_reducible refine Below.setCell ?_ ?_ _) | (with_reducible refine Below.alloc ?_ ?_ _) | (with_reducible refine Below.drew ?_) | (with_reducible refine below_drewN ?_ _) | (with_reducible refine below_next ?_ (by with_reducible assumption)) | omega | (dsimp only; omega) | (simp only [World.size_alloc, World.size_setCell, World.size_drew, World.heap_drewN]; omega)))⟩; clear hA1 hA2 hA3; refine ret_i64 ?_; first | rfl | grind [chunk]))
set_option maxRecDepth 100000 in
set_option maxHeartbeats 1000000 in
theorem rkind_any (t : Ty) (w : World) (h : RdT w t) : Calls Tryd.prog 26 #[tyV t] w fun e w' => e = .returned (.int .i64 (kindT t)) ∧ Below w.heap.size w w' := by
  have HC : Hid (∀ W, Below w.heap.size w W → Calls Tryd.prog 24 #[tyV t] W fun e w' => e = .returned (.int .i64 (chunk t)) ∧ Below W.heap.size W w') := Lib.hid fun W hW => rchunk_any t W (h.next hW)
  obtain ⟨k, s, l, f, n, A, m, c, e0⟩ := tyC_form t h
  rw [tyV_of e0] at HC ⊢
  unfold kindT
  clear e0 h
  generalize chunk t = q at HC
  have hA1 := cell_alloc_if
  have hA2 := frozen_alloc_if
  have hA3 := cell_set_if
  go_enter Tryd.func26, Tryd.ntmps26
  go_wp2_with (go_at_call 24; (with_reducible refine (HC.out _ (by (repeat' (first | (with_reducible exact Below.refl _ _) | (with_reducible assumption) | (with_reducible refine Below.setCell ?_ ?_ _) | (with_reducible refine Below.alloc ?_ ?_ _) | (with_reducible refine Below.drew ?_) | (with_reducible refine below_drewN ?_ _) | (with_reducible refine below_next ?_ (by with_reducible assumption)) | omega | (dsimp only; omega) | (simp only [World.size_alloc, World.size_setCell, World.size_drew, World.heap_drewN]; omega))))).mono ?_); rintro e w' ⟨rfl, hbl⟩; obtain ⟨hc, hf, hz⟩ := cif hbl; (try simp only [World.size_alloc, World.size_setCell, World.size_drew, World.heap_drewN] at hz))
  all_goals (go_returns; refine ⟨?_, by (repeat' (first | (with_reducible exact Below.refl _ _) | (with_reducible assumption) | (with_reducible refine Below.setCell ?_ ?_ _) | (with_reducible refine Below.alloc ?_ ?_ _) | (with_reducible refine Below.drew ?_) | (with_reducible refine below_drewN ?_ _) | (with_reducible refine below_next ?_ (by with_reducible assumption)) | omega | (dsimp only; omega) | (simp only [World.size_alloc, World.size_setCell, World.size_drew, World.heap_drewN]; omega)))⟩; clear hA1 hA2 hA3; refine ret_i64 ?_; grind)

/-- A small number becomes an int, all else stays. -/
def isSmall : Ty → Bool
  | .num s _ => s == 1 || s == 2
  | _ => false
theorem promote_eq (t : Ty) : promote t = if isSmall t then .num 4 false else t := by
  cases t <;> simp [promote, isSmall]
theorem isSmall_eq (t : Ty) : isSmall t = (okN t && decide ((wholeN t).1 < 4)) := by
  cases t <;> simp [isSmall, okN, numOf, wholeN]
  rename_i s u
  by_cases h : isSz s = true
  · rw [if_pos h]
    simp
    rw [isSz_iff] at h
    grind
  · have : isSz s = false := by simpa using h
    have h2 := mt (isSz_iff s).2 h
    rw [if_neg h]
    simp
    omega
theorem RdT.promote {w : World} {t : Ty} (h : RdT w t) : RdT w (promote t) := by
  rw [promote_eq]; split
  · simp [RdT]
  · exact h
set_option maxRecDepth 100000 in
set_option maxHeartbeats 1000000 in
theorem promote_any (t : Ty) (w : World) (h : RdT w t) : Calls Tryd.prog 27 #[tyV t] w fun e w' => e = .returned (tyV (promote t)) ∧ Below w.heap.size w w' := by
  have HW : Hid (∀ W, Below w.heap.size w W → Calls Tryd.prog 49 #[tyV t] W fun e w' => e = .returned (.tuple #[.agg #[.int .i64 (wholeN t).1, .bool (wholeN t).2], .bool (okN t)]) ∧ Below W.heap.size W w') := Lib.hid fun W hW => whole_any t W (h.next hW)
  rw [promote_eq, isSmall_eq]
  obtain ⟨k, s, l, f, n, A, m, c, e0⟩ := tyC_form t h
  have e1 := tyV_of e0
  rw [e1] at HW ⊢
  have HE := Lib.hid e1
  clear e0 h e1
  generalize (wholeN t).1 = q at *
  generalize (wholeN t).2 = u at *
  generalize okN t = ok at *
  cases ok
  all_goals (
    have hA1 := cell_alloc_if
    have hA2 := frozen_alloc_if
    have hA3 := cell_set_if
    go_enter Tryd.func27, Tryd.ntmps27
    go_wp2_with (first
      | (go_at_call 49; (with_reducible refine (HW.out _ (by (repeat' (first | (with_reducible exact Below.refl _ _) | (with_reducible assumption) | (with_reducible refine Below.setCell ?_ ?_ _) | (with_reducible refine Below.alloc ?_ ?_ _) | (with_reducible refine Below.drew ?_) | (with_reducible refine below_drewN ?_ _) | (with_reducible refine below_next ?_ (by with_reducible assumption)) | omega | (dsimp only; omega) | (simp only [World.size_alloc, World.size_setCell, World.size_drew, World.heap_drewN]; omega))))).mono ?_); rintro e w' ⟨rfl, hbl⟩; obtain ⟨hc, hf, hz⟩ := cif hbl; (try simp only [World.size_alloc, World.size_setCell, World.size_drew, World.heap_drewN] at hz))
      | (go_at_call 39; (with_reducible refine (numberTy_any _ _ _).mono ?_); rintro e w' ⟨rfl, hbl⟩; obtain ⟨hc, hf, hz⟩ := cif hbl; (try simp only [World.size_alloc, World.size_setCell, World.size_drew, World.heap_drewN] at hz)))
    all_goals (((try simp only [Exit.inBlock, Exit.then]); go_light; refine bodyPost_ret (by simp [results, Tryd.results27, go_sem, *, ↓IntWalk.iteOmega]; try rfl) rfl ?_); refine ⟨congrArg Ending.returned ?_, by (repeat' (first | (with_reducible exact Below.refl _ _) | (with_reducible assumption) | (with_reducible refine Below.setCell ?_ ?_ _) | (with_reducible refine Below.alloc ?_ ?_ _) | (with_reducible refine Below.drew ?_) | (with_reducible refine below_drewN ?_ _) | (with_reducible refine below_next ?_ (by with_reducible assumption)) | omega | (dsimp only; omega) | (simp only [World.size_alloc, World.size_setCell, World.size_drew, World.heap_drewN]; omega)))⟩; clear hA1 hA2 hA3; first | rfl | exact HE.out.symm | (split <;> first | rfl | exact HE.out.symm | (exfalso; simp_all; done) | (exfalso; simp_all; omega)) | (exfalso; simp_all; done) | (exfalso; simp_all; omega)))


set_option maxRecDepth 100000 in
set_option maxHeartbeats 4000000 in
theorem rpromote_any (t : Ty) (w : World) (h : RdT w t) : Calls Tryd.prog 28 #[tyV t] w fun e w' => e = .returned (tyV (promote t)) ∧ Below w.heap.size w w' := by
  obtain ⟨k, s, l, f, n, A, m, c, e0⟩ := tyC_form t h
  have e1 := tyV_of e0
  have hk : isSmall t = (k == 2 && (s == 1 || s == 2)) := by
    cases t <;> simp [tyC, tyMk] at e0 <;> obtain ⟨rfl, rfl, _⟩ := e0 <;> simp [isSmall]
  rw [promote_eq, hk]
  have HE := Lib.hid e1
  rw [e1]
  clear hk e0 e1 h
  have hA1 := cell_alloc_if
  have hA2 := frozen_alloc_if
  have hA3 := cell_set_if
  go_enter Tryd.func28, Tryd.ntmps28
  go_wp2
  go_upto_region 1 with (fail)
  go_cut [3, 4] (fun s3 s4 wx => ∃ b, s3 = .pointer (some ⟨b, 0, none⟩) ∧ s4 = .bool (k == 2) ∧ Below w.heap.size w wx ∧ w.heap.size + 1 < b ∧ b < wx.heap.size ∧ wx.cell? ⟨b, 0, none⟩ = some (.int .i64 s) ∧
    (∀ o, wx.cell? ⟨w.heap.size, o, none⟩ = #[.int .i64 k, .int .i64 s, .int .i64 l, .bool f, .string n, .slice A m c][o]?) ∧ (∀ o, wx.cell? ⟨w.heap.size + 1, o, none⟩ = #[.int .i64 0, .int .i64 0, .int .i64 0, .bool false, .string ⟨#[]⟩, .slice none 0 0][o]?) ∧ (∀ o, wx.frozen? ⟨w.heap.size + 1, o, none⟩ = false))
  case first =>
    go_region_held3 (fun w' => Ext w w' ∧ w'.cell? ⟨w.heap.size, 0, none⟩ = some (.int .i64 k) ∧ w'.cell? ⟨w.heap.size, 1, none⟩ = some (.int .i64 s) ∧ w'.cell? ⟨w.heap.size, 2, none⟩ = some (.int .i64 l) ∧ w'.cell? ⟨w.heap.size, 3, none⟩ = some (.bool f) ∧ w'.cell? ⟨w.heap.size, 4, none⟩ = some (.string n) ∧ w'.cell? ⟨w.heap.size, 5, none⟩ = some (.slice A m c))
      (first | exact ⟨by unfold Ext at *; (repeat' (first | (with_reducible exact Below.refl _ _) | (with_reducible assumption) | (with_reducible refine Below.setCell ?_ ?_ _) | (with_reducible refine Below.alloc ?_ ?_ _) | (with_reducible refine Below.drew ?_) | (with_reducible refine below_drewN ?_ _) | (with_reducible refine below_next ?_ (by with_reducible assumption)) | omega | (dsimp only; omega) | (simp only [World.size_alloc, World.size_setCell, World.size_drew, World.heap_drewN]; omega))), by simp [*, ↓IntWalk.iteOmega], by simp [*, ↓IntWalk.iteOmega], by simp [*, ↓IntWalk.iteOmega], by simp [*, ↓IntWalk.iteOmega], by simp [*, ↓IntWalk.iteOmega], by simp [*, ↓IntWalk.iteOmega]⟩)
      (first | (go_at_call 57; (with_reducible refine (numberOf_any _ _ _ _ _ _ _ _ _).mono ?_); rintro e w' ⟨rfl, hbl⟩; obtain ⟨hc, hf, hz⟩ := cif hbl; (try simp only [World.size_alloc, World.size_setCell, World.size_drew, World.heap_drewN] at hz)))
    all_goals (
      go_wp2_with fail
      go_meet
      refine ⟨_, rfl, rfl, by (repeat' (first | (with_reducible exact Below.refl _ _) | (with_reducible assumption) | (with_reducible refine Below.setCell ?_ ?_ _) | (with_reducible refine Below.alloc ?_ ?_ _) | (with_reducible refine Below.drew ?_) | (with_reducible refine below_drewN ?_ _) | (with_reducible refine below_next ?_ (by with_reducible assumption)) | omega | (dsimp only; omega) | (simp only [World.size_alloc, World.size_setCell, World.size_drew, World.heap_drewN]; omega))), ?_, ?_, ?_, ?_, ?_, ?_⟩)
    all_goals (first | omega | (simp; omega) | (simp [*, ↓IntWalk.iteOmega]; done) | (intro o; simp [*, ↓IntWalk.iteOmega]; done))
  case rest =>
    obtain ⟨b, rfl, rfl, hb1, hb2, hb3, x0, x1, x2, x3⟩ := hcut
    by_cases hk : k = 2
    · subst hk
      go_wp2_with (go_at_call 39; (with_reducible refine (numberTy_any _ _ _).mono ?_); rintro e w' ⟨rfl, hbl⟩; obtain ⟨hc, hf, hz⟩ := cif hbl; (try simp only [World.size_alloc, World.size_setCell, World.size_drew, World.heap_drewN] at hz))
      all_goals (((try simp only [Exit.inBlock, Exit.then]); go_light; refine bodyPost_ret (by simp [results, Tryd.results28, go_sem, *, ↓IntWalk.iteOmega]; try rfl) rfl ?_); refine ⟨congrArg Ending.returned ?_, by (repeat' (first | (with_reducible exact Below.refl _ _) | (with_reducible assumption) | (with_reducible refine Below.setCell ?_ ?_ _) | (with_reducible refine Below.alloc ?_ ?_ _) | (with_reducible refine Below.drew ?_) | (with_reducible refine below_drewN ?_ _) | (with_reducible refine below_next ?_ (by with_reducible assumption)) | omega | (dsimp only; omega) | (simp only [World.size_alloc, World.size_setCell, World.size_drew, World.heap_drewN]; omega)))⟩; clear hA1 hA2 hA3 x1 x2 x3; first | (simp_all; done) | (simp_all; rfl) | (simp_all; exact HE.out.symm))
    · have hk2 : (k == 2) = false := by simpa using hk
      go_wp2
      all_goals (((try simp only [Exit.inBlock, Exit.then]); go_light; refine bodyPost_ret (by simp [results, Tryd.results28, go_sem, *, ↓IntWalk.iteOmega]; try rfl) rfl ?_); refine ⟨congrArg Ending.returned ?_, by (repeat' (first | (with_reducible exact Below.refl _ _) | (with_reducible assumption) | (with_reducible refine Below.setCell ?_ ?_ _) | (with_reducible refine Below.alloc ?_ ?_ _) | (with_reducible refine Below.drew ?_) | (with_reducible refine below_drewN ?_ _) | (with_reducible refine below_next ?_ (by with_reducible assumption)) | omega | (dsimp only; omega) | (simp only [World.size_alloc, World.size_setCell, World.size_drew, World.heap_drewN]; omega)))⟩; clear hA1 hA2 hA3 x1 x2 x3; simp [*, HE.out])

set_option maxRecDepth 100000 in
set_option maxHeartbeats 1000000 in
theorem rnumber_any (s : Int) (u : Bool) (w : World) : Calls Tryd.prog 80 #[.agg #[.int .i64 s, .bool u]] w fun e w' => e = .returned (.bool (isSz s)) ∧ Below w.heap.size w w' := by
  have hA1 := cell_alloc_if
  have hA2 := frozen_alloc_if
  have hA3 := cell_set_if
  go_enter Tryd.func80, Tryd.ntmps80
  go_wp2
  all_goals (go_returns; refine ⟨?_, by (repeat' (first | (with_reducible exact Below.refl _ _) | (with_reducible assumption) | (with_reducible refine Below.setCell ?_ ?_ _) | (with_reducible refine Below.alloc ?_ ?_ _) | (with_reducible refine Below.drew ?_) | (with_reducible refine below_drewN ?_ _) | (with_reducible refine below_next ?_ (by with_reducible assumption)) | omega | (dsimp only; omega) | (simp only [World.size_alloc, World.size_setCell, World.size_drew, World.heap_drewN]; omega)))⟩; clear hA1 hA2 hA3; simp_all [isSz]; try grind)

set_option maxRecDepth 100000 in
set_option maxHeartbeats 2000000 in
theorem arithmetic_any (t : Ty) (w : World) (h : RdT w t) : Calls Tryd.prog 67 #[tyV t] w fun e w' => e = .returned (.tuple #[.agg #[.int .i64 (wholeN t).1, .bool (wholeN t).2], .bool (isF t), .bool (isF t || okN t)]) ∧ Below w.heap.size w w' := by
  obtain ⟨k, s, l, f, n, A, m, c, vw, e0, hv, hcase⟩ := ty_view t h
  rw [tyV_of e0]
  have HV := Lib.hid hv
  have HT := Lib.hid h
  clear e0 hv h
  rcases hcase with ⟨rfl, rfl, rfl⟩ | ⟨rfl, rfl, rfl⟩ | ⟨rfl, rfl, rfl⟩ | ⟨rfl, rfl, rfl⟩ | ⟨rfl, rfl, rfl⟩ | ⟨t1, k1, s1, l1, f1, n1, A1, m1, c1, e1, r1, q1, rfl, rfl, rfl⟩ | ⟨t1, k1, s1, l1, f1, n1, A1, m1, c1, e1, r1, q1, rfl, rfl, rfl⟩ | ⟨t1, ps, k1, s1, l1, f1, n1, A1, m1, c1, A2, m2, c2, e1, r1, q1, rps, q2, rfl, rfl, rfl⟩
  all_goals (try (have E1 := Lib.hid e1; have R1 := Lib.hid r1; have Q1 := Lib.hid q1; clear e1 r1 q1))
  all_goals (try (have RPS := Lib.hid rps; have Q2 := Lib.hid q2; clear rps q2))
  case inr.inr.inl =>
    have HQ := Lib.hid (show okN (.num s f) = isSz s by cases hb : isSz s <;> simp [okN, numOf, hb])
    have hA1 := cell_alloc_if
    have hA2 := frozen_alloc_if
    have hA3 := cell_set_if
    go_enter Tryd.func67, Tryd.ntmps67
    go_wp2_with (go_at_call 57; (with_reducible refine (numberOf_any _ _ _ _ _ _ _ _ _).mono ?_); rintro e w' ⟨rfl, hbl⟩; obtain ⟨hc, hf, hz⟩ := cif hbl; (try simp only [World.size_alloc, World.size_setCell, World.size_drew, World.heap_drewN] at hz))
    go_region_held3 (fun W => Ext w W ∧ W.cell? ⟨w'.heap.size, 0, none⟩ = some (.int .i64 s) ∧ W.cell? ⟨w'.heap.size, 1, none⟩ = some (.bool f))
      (first | exact ⟨by unfold Ext at *; (repeat' (first | (with_reducible exact Below.refl _ _) | (with_reducible assumption) | (with_reducible refine Below.setCell ?_ ?_ _) | (with_reducible refine Below.alloc ?_ ?_ _) | (with_reducible refine Below.drew ?_) | (with_reducible refine below_drewN ?_ _) | (with_reducible refine below_next ?_ (by with_reducible assumption)) | omega | (dsimp only; omega) | (simp only [World.size_alloc, World.size_setCell, World.size_drew, World.heap_drewN]; omega))), by simp [*, ↓IntWalk.iteOmega], by simp [*, ↓IntWalk.iteOmega]⟩)
      (first | (go_at_call 80; (with_reducible refine (rnumber_any _ _ _).mono ?_); rintro e w' ⟨rfl, hbl⟩; obtain ⟨hc, hf, hz⟩ := cif hbl; (try simp only [World.size_alloc, World.size_setCell, World.size_drew, World.heap_drewN] at hz)))
    all_goals (go_wp2; ((try simp only [Exit.inBlock, Exit.then]); go_light; refine bodyPost_ret (by simp [results, Tryd.results67, go_sem, *, ↓IntWalk.iteOmega]; try rfl) rfl ?_); refine ⟨congrArg Ending.returned ?_, by (repeat' (first | (with_reducible exact Below.refl _ _) | (with_reducible assumption) | (with_reducible refine Below.setCell ?_ ?_ _) | (with_reducible refine Below.alloc ?_ ?_ _) | (with_reducible refine Below.drew ?_) | (with_reducible refine below_drewN ?_ _) | (with_reducible refine below_next ?_ (by with_reducible assumption)) | omega | (dsimp only; omega) | (simp only [World.size_alloc, World.size_setCell, World.size_drew, World.heap_drewN]; omega)))⟩; simp [HQ.out, wholeN, isF])
  all_goals (
    have hA1 := cell_alloc_if
    have hA2 := frozen_alloc_if
    have hA3 := cell_set_if
    go_enter Tryd.func67, Tryd.ntmps67
    go_wp2
    all_goals (((try simp only [Exit.inBlock, Exit.then]); go_light; refine bodyPost_ret (by simp [results, Tryd.results67, go_sem, *, ↓IntWalk.iteOmega]; try rfl) rfl ?_); exact ⟨rfl, by (repeat' (first | (with_reducible exact Below.refl _ _) | (with_reducible assumption) | (with_reducible refine Below.setCell ?_ ?_ _) | (with_reducible refine Below.alloc ?_ ?_ _) | (with_reducible refine Below.drew ?_) | (with_reducible refine below_drewN ?_ _) | (with_reducible refine below_next ?_ (by with_reducible assumption)) | omega | (dsimp only; omega) | (simp only [World.size_alloc, World.size_setCell, World.size_drew, World.heap_drewN]; omega)))⟩))

/-- The common type, out of what is asked of the two. -/
def commonR (fa oa : Bool) (s : Int) (u : Bool) (fb ob : Bool) (r : Int) (v : Bool) : Ty × Bool :=
  if !(fa || oa) || !(fb || ob) then (.none, false) else if fa || fb then (.flt, true) else if s > r ∨ s = r ∧ u = true then (.num s u, true) else (.num r v, true)
theorem okN_promote (t : Ty) : okN (promote t) = okN t := by
  cases t <;> try rfl
  rename_i s u
  by_cases h : s = 1 ∨ s = 2
  · have h2 : isSz s = true := by rw [isSz_iff]; omega
    simp [promote, h, okN, numOf, h2, isSz]
    omega
  · simp [promote, h]
theorem isF_promote (t : Ty) : isF (promote t) = isF t := by
  cases t <;> try rfl
  rename_i s u
  by_cases h : s = 1 ∨ s = 2 <;> simp [promote, h, isF]
theorem common_R (a b : Ty) : common a b = commonR (isF a) (okN a) (wholeN (promote a)).1 (wholeN (promote a)).2 (isF b) (okN b) (wholeN (promote b)).1 (wholeN (promote b)).2 := by
  have ha : ∀ t, numOf (promote t) = if okN t then some (wholeN (promote t)) else none := by
    intro t
    rw [← okN_promote]
    generalize promote t = x
    unfold okN
    cases hx : numOf x with
    | none => rfl
    | some p =>
      cases x <;> simp [numOf] at hx
      simp [wholeN, hx.2]
  unfold common commonR
  rw [ha a, ha b]
  cases okN a <;> cases okN b <;> cases isF a <;> cases isF b <;> simp

end Go.Proofs.YteeojgepgjndgaaDoor
