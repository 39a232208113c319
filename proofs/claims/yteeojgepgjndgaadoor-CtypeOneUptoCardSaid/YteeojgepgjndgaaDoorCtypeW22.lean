/-
  The text of a type: what the reference writes.
-/
import Derived.Test.YteeojgepgjndgaaDoorCtypeW21
import Derived.Test.YteeojgepgjndgaaDoorCtypeW20
namespace Go.Proofs.YteeojgepgjndgaaDoor
open Go.RowKit
set_option linter.unusedVariables false
set_option linter.unusedSimpArgs false

theorem commas_snoc : ∀ (l : List (List UInt8)) (a : List UInt8), commas (l ++ [a]) = if l = [] then a else commas l ++ [44, 32] ++ a
  | [], a => by simp [commas]
  | [b], a => by simp [commas]
  | b :: c :: l, a => by
    have h := commas_snoc (c :: l) a
    rw [if_neg (by simp)] at h
    rw [if_neg (by simp)]
    simp only [List.cons_append, commas] at h ⊢
    rw [h]
    simp [List.append_assoc]
theorem commas_take : ∀ (l : List (List UInt8)) (k : Nat), (commas (l.take k)).length ≤ (commas l).length
  | [], k => by simp
  | [a], 0 => by simp [commas]
  | [a], k + 1 => by simp [commas]
  | a :: b :: l, 0 => by simp [commas]
  | a :: b :: l, 1 => by simp [commas]
  | a :: b :: l, k + 2 => by
    have h := commas_take (b :: l) (k + 1)
    simp only [List.take_succ_cons, commas, List.length_append] at h ⊢
    omega

set_option maxRecDepth 100000 in
set_option maxHeartbeats 4000000 in
theorem rtext_plain (t : Ty) (w : World) (h : RdT w t) (hp : plainT t = true) (hl : (text (er t)).length ≤ 1099511627776) : Calls Tryd.prog 20 #[tyV t] w fun e w' => e = .returned (.string ⟨(text (er t)).toArray⟩) ∧ Below w.heap.size w w' := by
  cases t with
  | ptr => simp [plainT, isP, isA, isFn] at hp
  | arr => simp [plainT, isP, isA, isFn] at hp
  | fn => simp [plainT, isP, isA, isFn] at hp
  | none =>
    rw [show tyV .none = .agg #[.int .i64 0, .int .i64 0, .int .i64 0, .bool false, .string ⟨#[]⟩, .slice none 0 0] from rfl]
    clear h hl hp
    have hA1 := cell_alloc_if
    have hA2 := frozen_alloc_if
    have hA3 := cell_set_if
    go_enter Tryd.func20, Tryd.ntmps20
    go_wp2
    go_returns
    exact ⟨rfl, by (repeat' (first | (with_reducible exact Below.refl _ _) | (with_reducible assumption) | (with_reducible refine Below.setCell ?_ ?_ _) | (with_reducible refine Below.alloc ?_ ?_ _) | (with_reducible refine Below.drew ?_) | (with_reducible refine below_drewN ?_ _) | (with_reducible refine below_next ?_ (by with_reducible assumption)) | omega | (dsimp only; omega) | (simp only [World.size_alloc, World.size_setCell, World.size_drew, World.heap_drewN]; omega)))⟩
  | void =>
    rw [show tyV .void = .agg #[.int .i64 1, .int .i64 0, .int .i64 0, .bool false, .string ⟨#[]⟩, .slice none 0 0] from rfl]
    clear h hl hp
    have hA1 := cell_alloc_if
    have hA2 := frozen_alloc_if
    have hA3 := cell_set_if
    go_enter Tryd.func20, Tryd.ntmps20
    go_wp2
    go_returns
    exact ⟨rfl, by (repeat' (first | (with_reducible exact Below.refl _ _) | (with_reducible assumption) | (with_reducible refine Below.setCell ?_ ?_ _) | (with_reducible refine Below.alloc ?_ ?_ _) | (with_reducible refine Below.drew ?_) | (with_reducible refine below_drewN ?_ _) | (with_reducible refine below_next ?_ (by with_reducible assumption)) | omega | (dsimp only; omega) | (simp only [World.size_alloc, World.size_setCell, World.size_drew, World.heap_drewN]; omega)))⟩
  | flt =>
    rw [show tyV .flt = .agg #[.int .i64 3, .int .i64 0, .int .i64 0, .bool false, .string ⟨#[]⟩, .slice none 0 0] from rfl]
    clear h hl hp
    have hA1 := cell_alloc_if
    have hA2 := frozen_alloc_if
    have hA3 := cell_set_if
    go_enter Tryd.func20, Tryd.ntmps20
    go_wp2
    go_returns
    exact ⟨rfl, by (repeat' (first | (with_reducible exact Below.refl _ _) | (with_reducible assumption) | (with_reducible refine Below.setCell ?_ ?_ _) | (with_reducible refine Below.alloc ?_ ?_ _) | (with_reducible refine Below.drew ?_) | (with_reducible refine below_drewN ?_ _) | (with_reducible refine below_next ?_ (by with_reducible assumption)) | omega | (dsimp only; omega) | (simp only [World.size_alloc, World.size_setCell, World.size_drew, World.heap_drewN]; omega)))⟩
  | num s u =>
    rw [show tyV (.num s u) = .agg #[.int .i64 2, .int .i64 s, .int .i64 0, .bool u, .string ⟨#[]⟩, .slice none 0 0] from rfl]
    simp only [er, text]
    clear h hl hp
    cases u
    all_goals (
      have hA1 := cell_alloc_if
      have hA2 := frozen_alloc_if
      have hA3 := cell_set_if
      go_enter Tryd.func20, Tryd.ntmps20
      go_wp2_with (go_at_call 57; (with_reducible refine (numberOf_any _ _ _ _ _ _ _ _ _).mono ?_); rintro e w' ⟨rfl, hbl⟩; obtain ⟨hc, hf, hz⟩ := cif hbl; (try simp only [World.size_alloc, World.size_setCell, World.size_drew, World.heap_drewN] at hz))
      all_goals (go_returns; refine ⟨?_, by (repeat' (first | (with_reducible exact Below.refl _ _) | (with_reducible assumption) | (with_reducible refine Below.setCell ?_ ?_ _) | (with_reducible refine Below.alloc ?_ ?_ _) | (with_reducible refine Below.drew ?_) | (with_reducible refine below_drewN ?_ _) | (with_reducible refine below_next ?_ (by with_reducible assumption)) | omega | (dsimp only; omega) | (simp only [World.size_alloc, World.size_setCell, World.size_drew, World.heap_drewN]; omega)))⟩; clear hA1 hA2 hA3; refine ret_str ?_; simp only [beq_iff_eq, beq_eq_false_iff_ne, ne_eq] at *; simp [numText, isSz, numName, *]; try rfl))
  | rcd u n =>
    rw [show tyV (.rcd u n) = .agg #[.int .i64 6, .int .i64 0, .int .i64 0, .bool u, .string n, .slice none 0 0] from rfl]
    simp only [er, text, ByteArray.toList_eq]
    simp only [er, text, ByteArray.toList_eq, List.length_append] at hl
    have hsz : n.size ≤ 1099511627776 := by have h0 : n.size = n.data.size := rfl; rw [h0, ← Array.length_toList]; omega
    clear h hl hp
    cases u
    all_goals (
      have hA1 := cell_alloc_if
      have hA2 := frozen_alloc_if
      have hA3 := cell_set_if
      go_enter Tryd.func20, Tryd.ntmps20
      go_wp2_with (go_at_call 58; (with_reducible refine (recordOf_any _ _ _ _ _ _ _ _ _).mono ?_); rintro e w' ⟨rfl, hbl⟩; obtain ⟨hc, hf, hz⟩ := cif hbl; (try simp only [World.size_alloc, World.size_setCell, World.size_drew, World.heap_drewN] at hz))
      go_returns
      refine ⟨ret_str ?_, by (repeat' (first | (with_reducible exact Below.refl _ _) | (with_reducible assumption) | (with_reducible refine Below.setCell ?_ ?_ _) | (with_reducible refine Below.alloc ?_ ?_ _) | (with_reducible refine Below.drew ?_) | (with_reducible refine below_drewN ?_ _) | (with_reducible refine below_next ?_ (by with_reducible assumption)) | omega | (dsimp only; omega) | (simp only [World.size_alloc, World.size_setCell, World.size_drew, World.heap_drewN]; omega)))⟩
      first | exact ba_app [115, 116, 114, 117, 99, 116, 32] n.data.toList | exact ba_app [117, 110, 105, 111, 110, 32] n.data.toList)

set_option maxRecDepth 100000 in
set_option maxHeartbeats 2000000 in
theorem rtext_ptr (sv : Value) (t : Ty) (w : World) (h : RdT w (.ptr sv t)) (hl : (text (er (.ptr sv t))).length ≤ 1099511627776) (ht : TabW w) (ih : TextAt 20 t) : Calls Tryd.prog 20 #[tyV (.ptr sv t)] w fun e w' => e = .returned (.string ⟨(text (er (.ptr sv t))).toArray⟩) ∧ Below w.heap.size w w' := by
  obtain ⟨s0, l0, f0, n0, A0, m0, c0, k1, s1, l1, f1, n1, A1, m1, c1, e0, q1, rs1, e1⟩ := ty_kids _ h
  have r1 : RdT w t := by simp only [RdT] at h; exact h.2
  obtain ⟨x, hx⟩ : ∃ x, x = ByteArray.mk (text (er t)).toArray := ⟨_, rfl⟩
  have HI : Hid (∀ W, Below w.heap.size w W → Calls Tryd.prog 20 #[.agg #[.int .i64 k1, .int .i64 s1, .int .i64 l1, .bool f1, .string n1, .slice A1 m1 c1]] W fun e w' => e = .returned (.string x) ∧ Below W.heap.size W w') := Lib.hid fun W hW => by
    have h := ih W (r1.next hW) (ht.next hW)
    rw [show tyV t = _ from tyV_of e1] at h
    rw [hx]; exact h
  rw [tyV_of e0]
  simp only [er, text, List.length_append] at hl
  simp only [kN, er, text]
  have hsz : x.size ≤ 1099511627776 := by rw [hx, ba_size]; omega
  have HX := Lib.hid hx
  have Q1 := Lib.hid q1
  have RS1 := Lib.hid rs1
  have E1 := Lib.hid e1
  clear e0 e1 q1 rs1 h r1 ih hx hl ht
  have hA1 := cell_alloc_if
  have hA2 := frozen_alloc_if
  have hA3 := cell_set_if
  go_enter Tryd.func20, Tryd.ntmps20
  go_wp2_with (first
    | (go_at_call 54; (with_reducible refine (pointerOf_any _ _ _ _ _ _ _ _ _ (Q1.out.next (by (repeat' (first | (with_reducible exact Below.refl _ _) | (with_reducible assumption) | (with_reducible refine Below.setCell ?_ ?_ _) | (with_reducible refine Below.alloc ?_ ?_ _) | (with_reducible refine Below.drew ?_) | (with_reducible refine below_drewN ?_ _) | (with_reducible refine below_next ?_ (by with_reducible assumption)) | omega | (dsimp only; omega) | (simp only [World.size_alloc, World.size_setCell, World.size_drew, World.heap_drewN]; omega))))) (RS1.out.next (by (repeat' (first | (with_reducible exact Below.refl _ _) | (with_reducible assumption) | (with_reducible refine Below.setCell ?_ ?_ _) | (with_reducible refine Below.alloc ?_ ?_ _) | (with_reducible refine Below.drew ?_) | (with_reducible refine below_drewN ?_ _) | (with_reducible refine below_next ?_ (by with_reducible assumption)) | omega | (dsimp only; omega) | (simp only [World.size_alloc, World.size_setCell, World.size_drew, World.heap_drewN]; omega))))) E1.out).mono ?_); rintro e w' ⟨rfl, hbl⟩; obtain ⟨hc, hf, hz⟩ := cif hbl; (try simp only [World.size_alloc, World.size_setCell, World.size_drew, World.heap_drewN] at hz))
    | (go_at_call 20; (with_reducible refine (HI.out _ (by (repeat' (first | (with_reducible exact Below.refl _ _) | (with_reducible assumption) | (with_reducible refine Below.setCell ?_ ?_ _) | (with_reducible refine Below.alloc ?_ ?_ _) | (with_reducible refine Below.drew ?_) | (with_reducible refine below_drewN ?_ _) | (with_reducible refine below_next ?_ (by with_reducible assumption)) | omega | (dsimp only; omega) | (simp only [World.size_alloc, World.size_setCell, World.size_drew, World.heap_drewN]; omega))))).mono ?_); rintro e w' ⟨rfl, hbl⟩; obtain ⟨hc, hf, hz⟩ := cif hbl; (try simp only [World.size_alloc, World.size_setCell, World.size_drew, World.heap_drewN] at hz)))
  go_returns
  refine ⟨ret_str ?_, by (repeat' (first | (with_reducible exact Below.refl _ _) | (with_reducible assumption) | (with_reducible refine Below.setCell ?_ ?_ _) | (with_reducible refine Below.alloc ?_ ?_ _) | (with_reducible refine Below.drew ?_) | (with_reducible refine below_drewN ?_ _) | (with_reducible refine below_next ?_ (by with_reducible assumption)) | omega | (dsimp only; omega) | (simp only [World.size_alloc, World.size_setCell, World.size_drew, World.heap_drewN]; omega)))⟩
  rw [HX.out, ← ba_app]

set_option maxRecDepth 100000 in
set_option maxHeartbeats 4000000 in
theorem rtext_arr (sv : Value) (d : Int) (t : Ty) (w : World) (h : RdT w (.arr sv d t)) (hd : I64 d) (hl : (text (er (.arr sv d t))).length ≤ 1099511627776) (ht : TabW w) (ih : TextAt 20 t) : Calls Tryd.prog 20 #[tyV (.arr sv d t)] w fun e w' => e = .returned (.string ⟨(text (er (.arr sv d t))).toArray⟩) ∧ Below w.heap.size w w' := by
  obtain ⟨s0, l0, f0, n0, A0, m0, c0, k1, s1, l1, f1, n1, A1, m1, c1, e0, q1, rs1, e1⟩ := ty_kids _ h
  have r1 : RdT w t := by simp only [RdT] at h; exact h.2
  obtain ⟨x, hx⟩ : ∃ x, x = ByteArray.mk (text (er t)).toArray := ⟨_, rfl⟩
  obtain ⟨y, hy⟩ : ∃ y, y = ByteArray.mk (Lib.itoa d).toArray := ⟨_, rfl⟩
  have HI : Hid (∀ W, Below w.heap.size w W → Calls Tryd.prog 20 #[.agg #[.int .i64 k1, .int .i64 s1, .int .i64 l1, .bool f1, .string n1, .slice A1 m1 c1]] W fun e w' => e = .returned (.string x) ∧ Below W.heap.size W w') := Lib.hid fun W hW => by
    have h := ih W (r1.next hW) (ht.next hW)
    rw [show tyV t = _ from tyV_of e1] at h
    rw [hx]; exact h
  have HJ : Hid (∀ W, Calls Tryd.prog 62 #[.int .i64 d] W fun e w' => e = .returned (.string y) ∧ Below W.heap.size W w') := Lib.hid fun W => by
    rw [hy]; exact rdec_any d hd W
  have GA : Hid (∀ W, Below w.heap.size w W → Calls Tryd.prog 55 #[tyV (.arr sv d t)] W fun e w' => e = .returned (.agg #[.int .i64 k1, .int .i64 s1, .int .i64 l1, .bool f1, .string n1, .slice A1 m1 c1, .int .i64 d]) ∧ Below W.heap.size W w') := Lib.hid fun W hW => by
    have hl0 : l0 = d := by have h0 := congrArg (fun l => l[2]?) e0; simp [tyC, tyMk] at h0; exact h0.symm
    rw [tyV_of e0]
    have := arrayOf_any 5 s0 l0 f0 n0 A0 m0 c0 W (q1.next hW) (rs1.next hW) e1
    rw [hl0] at this ⊢
    exact this
  rw [tyV_of e0] at GA ⊢
  simp only [kN] at GA
  simp only [er, text, List.length_append] at hl
  simp only [kN, er, text]
  have hsz : x.size ≤ 1099511627776 := by rw [hx, ba_size]; omega
  have hsy : y.size ≤ 1099511627776 := by rw [hy, ba_size]; omega
  obtain ⟨hd1, hd2⟩ := hd
  have HX := Lib.hid hx
  have HY := Lib.hid hy
  clear e0 e1 q1 rs1 h r1 ih hx hl ht hy
  have hA1 := cell_alloc_if
  have hA2 := frozen_alloc_if
  have hA3 := cell_set_if
  go_enter Tryd.func20, Tryd.ntmps20
  go_wp2_with (go_at_call 55; (with_reducible refine (GA.out _ (by (repeat' (first | (with_reducible exact Below.refl _ _) | (with_reducible assumption) | (with_reducible refine Below.setCell ?_ ?_ _) | (with_reducible refine Below.alloc ?_ ?_ _) | (with_reducible refine Below.drew ?_) | (with_reducible refine below_drewN ?_ _) | (with_reducible refine below_next ?_ (by with_reducible assumption)) | omega | (dsimp only; omega) | (simp only [World.size_alloc, World.size_setCell, World.size_drew, World.heap_drewN]; omega))))).mono ?_); rintro e w' ⟨rfl, hbl⟩; obtain ⟨hc, hf, hz⟩ := cif hbl; (try simp only [World.size_alloc, World.size_setCell, World.size_drew, World.heap_drewN] at hz))
  go_region_with (first
    | (go_at_call 20; (with_reducible refine (HI.out _ (by (repeat' (first | (with_reducible exact Below.refl _ _) | (with_reducible assumption) | (with_reducible refine Below.setCell ?_ ?_ _) | (with_reducible refine Below.alloc ?_ ?_ _) | (with_reducible refine Below.drew ?_) | (with_reducible refine below_drewN ?_ _) | (with_reducible refine below_next ?_ (by with_reducible assumption)) | omega | (dsimp only; omega) | (simp only [World.size_alloc, World.size_setCell, World.size_drew, World.heap_drewN]; omega))))).mono ?_); rintro e w' ⟨rfl, hbl⟩; obtain ⟨hc, hf, hz⟩ := cif hbl; (try simp only [World.size_alloc, World.size_setCell, World.size_drew, World.heap_drewN] at hz))
    | (go_at_call 62; (with_reducible refine (HJ.out _).mono ?_); rintro e w' ⟨rfl, hbl⟩; obtain ⟨hc, hf, hz⟩ := cif hbl; (try simp only [World.size_alloc, World.size_setCell, World.size_drew, World.heap_drewN] at hz)))
  all_goals (
    go_wp2
    go_returns
    refine ⟨ret_str ?_, by (repeat' (first | (with_reducible exact Below.refl _ _) | (with_reducible assumption) | (with_reducible refine Below.setCell ?_ ?_ _) | (with_reducible refine Below.alloc ?_ ?_ _) | (with_reducible refine Below.drew ?_) | (with_reducible refine below_drewN ?_ _) | (with_reducible refine below_next ?_ (by with_reducible assumption)) | omega | (dsimp only; omega) | (simp only [World.size_alloc, World.size_setCell, World.size_drew, World.heap_drewN]; omega)))⟩
    rw [HX.out, HY.out, ← ba_app, ← ba_app, ← ba_app])

set_option maxRecDepth 100000 in
set_option maxHeartbeats 8000000 in
theorem rtext_fn (sv : Value) (r : Ty) (ps : List Ty) (w : World) (h : RdT w (.fn sv r ps)) (hp8 : ps.length ≤ 8) (hl : (text (er (.fn sv r ps))).length ≤ 1099511627776) (ht : TabW w) (ih : TextAt 20 r) (ihs : ∀ x ∈ ps, TextAt 20 x) : Calls Tryd.prog 20 #[tyV (.fn sv r ps)] w fun e w' => e = .returned (.string ⟨(text (er (.fn sv r ps))).toArray⟩) ∧ Below w.heap.size w w' := by
  obtain ⟨s0, l0, f0, n0, A0, m0, c0, k1, s1, l1, f1, n1, A1, m1, c1, e0, q1, rs1, e1⟩ := ty_kids _ h
  simp only [RdT] at h
  obtain ⟨x, hx⟩ : ∃ x, x = ByteArray.mk (text (er r)).toArray := ⟨_, rfl⟩
  have HI : Hid (∀ W, Below w.heap.size w W → Calls Tryd.prog 20 #[.agg #[.int .i64 k1, .int .i64 s1, .int .i64 l1, .bool f1, .string n1, .slice A1 m1 c1]] W fun e w' => e = .returned (.string x) ∧ Below W.heap.size W w') := Lib.hid fun W hW => by
    have h := ih W (h.2.1.next hW) (ht.next hW)
    rw [show tyV r = _ from tyV_of e1] at h
    rw [hx]; exact h
  obtain ⟨A3, m3, c3, h3⟩ : ∃ A3 m3 c3, (restA A0 m0, m0 - 1, restC m0 c0) = (A3, m3, c3) := ⟨_, _, _, rfl⟩
  injection h3 with h30 h3
  injection h3 with h31 h32
  have p1 := q1.rest
  rw [h30, h31, h32] at p1
  have FA := fun W (hW : Below w.heap.size w W) => functionOf_any 7 s0 l0 f0 n0 A0 m0 c0 W (q1.next hW) (rs1.next hW) e1
  rw [h30, h31, h32] at FA
  rw [tyV_of e0]
  have GA := Lib.hid FA
  have P1 : Hid (RdL tyC 6 w (.slice A3 m3 c3) ps) := Lib.hid p1
  have G1 := Lib.hid h.2.2
  have IHS := Lib.hid ihs
  have HT := Lib.hid ht
  have ml1 : ps.length = m3 := by obtain ⟨_, _, e, _⟩ := P1.out; injection e with _ e _; exact e.symm
  subst ml1
  simp only [er, text, List.length_append, List.length_cons, List.length_nil] at hl
  simp only [kN, er, text]
  have hsz : x.size = (text (er r)).length := by rw [hx, ba_size]
  have hszb : x.size ≤ 1099511627776 := by omega
  have HX := Lib.hid hx
  have HSZ := Lib.hid hsz
  have HL : Hid ((text (er r)).length ≤ 1099511627776 ∧ (commas (texts (ers ps))).length ≤ 1099511627776) := Lib.hid (by omega)
  clear e0 e1 q1 rs1 h ih ihs p1 FA h30 h31 h32 hx ht hl hsz
  have hA1 := cell_alloc_if
  have hA2 := frozen_alloc_if
  have hA3 := cell_set_if
  go_enter Tryd.func20, Tryd.ntmps20
  go_wp2_with (first
    | (go_at_call 56; (with_reducible refine (GA.out _ (by (repeat' (first | (with_reducible exact Below.refl _ _) | (with_reducible assumption) | (with_reducible refine Below.setCell ?_ ?_ _) | (with_reducible refine Below.alloc ?_ ?_ _) | (with_reducible refine Below.drew ?_) | (with_reducible refine below_drewN ?_ _) | (with_reducible refine below_next ?_ (by with_reducible assumption)) | omega | (dsimp only; omega) | (simp only [World.size_alloc, World.size_setCell, World.size_drew, World.heap_drewN]; omega))))).mono ?_); rintro e w5 ⟨rfl, hb5⟩; obtain ⟨hc5, hf5, hz5⟩ := cif hb5; (try simp only [World.size_alloc, World.size_setCell, World.size_drew, World.heap_drewN] at hz5))
    | (go_at_call 20; (with_reducible refine (HI.out _ (by (repeat' (first | (with_reducible exact Below.refl _ _) | (with_reducible assumption) | (with_reducible refine Below.setCell ?_ ?_ _) | (with_reducible refine Below.alloc ?_ ?_ _) | (with_reducible refine Below.drew ?_) | (with_reducible refine below_drewN ?_ _) | (with_reducible refine below_next ?_ (by with_reducible assumption)) | omega | (dsimp only; omega) | (simp only [World.size_alloc, World.size_setCell, World.size_drew, World.heap_drewN]; omega))))).mono ?_); rintro e w7 ⟨rfl, hb7⟩; obtain ⟨hc7, hf7, hz7⟩ := cif hb7; (try simp only [World.size_alloc, World.size_setCell, World.size_drew, World.heap_drewN] at hz7)))
  have hw7 : Below w.heap.size w w7 := by (repeat' (first | (with_reducible exact Below.refl _ _) | (with_reducible assumption) | (with_reducible refine Below.setCell ?_ ?_ _) | (with_reducible refine Below.alloc ?_ ?_ _) | (with_reducible refine Below.drew ?_) | (with_reducible refine below_drewN ?_ _) | (with_reducible refine below_next ?_ (by with_reducible assumption)) | omega | (dsimp only; omega) | (simp only [World.size_alloc, World.size_setCell, World.size_drew, World.heap_drewN]; omega)))
  have z6 : w7.cell? ⟨w5.heap.size, 6, none⟩ = some (.slice A3 ps.length c3) := by simp [*, ↓IntWalk.iteOmega]
  have hx7 : w5.heap.size < w7.heap.size := by omega
  clear hc7 hf7 hc5 hf5
  go_loopw [9, 10] (fun t i wr => ∃ (k : Nat) (s : ByteArray), k ≤ ps.length ∧ i = .int .i64 k ∧ t = .string s ∧ s.size ≤ 4398046511104 ∧ Hid (s = ⟨(text (er r) ++ [40] ++ commas (texts (ers (ps.take k)))).toArray⟩) ∧ Ext w7 wr) (fun _ i _ => ps.length - (intOf i).toNat)
  case atStart =>
    have h40 : ({ data := #[40] } : ByteArray).size = 1 := rfl
    exact ⟨0, _, by omega, rfl, rfl, by simp; omega, Lib.hid (by rw [HX.out, show commas (texts (ers (ps.take 0))) = [] from rfl, List.append_nil, ← ba_app]), Below.refl _ _⟩
  case round =>
    obtain ⟨k, s, hk, rfl, rfl, hss, HS, hX⟩ := hrel
    have hXb := Ext.of hX
    have hz8 := hXb.size
    have u6 := (hXb.cell (p := ⟨w5.heap.size, 6, none⟩) hx7).trans z6
    have hw8 : Below w.heap.size w wr := by unfold Ext at *; (repeat' (first | (with_reducible exact Below.refl _ _) | (with_reducible assumption) | (with_reducible refine Below.setCell ?_ ?_ _) | (with_reducible refine Below.alloc ?_ ?_ _) | (with_reducible refine Below.drew ?_) | (with_reducible refine below_drewN ?_ _) | (with_reducible refine below_next ?_ (by with_reducible assumption)) | omega | (dsimp only; omega) | (simp only [World.size_alloc, World.size_setCell, World.size_drew, World.heap_drewN]; omega)))
    by_cases hlt : k < ps.length
    · obtain ⟨p, e1⟩ : ∃ p, ps[k]? = some p := ⟨_, List.getElem?_eq_getElem hlt⟩
      obtain ⟨g3, o3, cc3, ev3, _, hcc3, hlt3, hc3⟩ := P1.out.some_ (by omega)
      injection ev3 with ev30 ev31 ev32
      subst ev30
      clear ev31 ev32
      have q1 := G1.out.mem p (List.mem_of_getElem? e1)
      obtain ⟨ka, sa, la, fa, na, Aa, ma, ca, ea⟩ := tyC_form p q1
      obtain ⟨p1, p2, p3, p4, p5, p6⟩ := RdL.tyAt hc3 e1 ea
      have p1' := (hw8.cell (p := ⟨g3, _, none⟩) hlt3).trans p1
      have p2' := (hw8.cell (p := ⟨g3, _, none⟩) hlt3).trans p2
      have p3' := (hw8.cell (p := ⟨g3, _, none⟩) hlt3).trans p3
      have p4' := (hw8.cell (p := ⟨g3, _, none⟩) hlt3).trans p4
      have p5' := (hw8.cell (p := ⟨g3, _, none⟩) hlt3).trans p5
      have p6' := (hw8.cell (p := ⟨g3, _, none⟩) hlt3).trans p6
      have hwz := hw8.size
      obtain ⟨z, hz⟩ : ∃ z, z = ByteArray.mk (text (er p)).toArray := ⟨_, rfl⟩
      have hzz : z.size ≤ 1099511627776 := by
        rw [hz, ba_size]
        exact Nat.le_trans (commas_part _ _ (by rw [texts_map, ers_map]; exact List.mem_map_of_mem (List.mem_map_of_mem (List.mem_of_getElem? e1)))) HL.out.2
      have HP : Hid (∀ W, Below wr.heap.size wr W → Calls Tryd.prog 20 #[.agg #[.int .i64 ka, .int .i64 sa, .int .i64 la, .bool fa, .string na, .slice Aa ma ca]] W fun e w' => e = .returned (.string z) ∧ Below W.heap.size W w') := Lib.hid fun W hW => by
        have h := IHS.out p (List.mem_of_getElem? e1) W ((q1.next hw8).next hW) ((HT.out.next hw8).next hW)
        rw [tyV_of ea] at h
        rw [hz]; exact h
      have HE : Hid ((⟨(text (er r) ++ [40] ++ commas (texts (ers (ps.take (k + 1))))).toArray⟩ : ByteArray) = if k = 0 then s ++ z else s ++ ⟨#[44, 32]⟩ ++ z) := Lib.hid (by
        rw [HS.out, hz, show (⟨#[44, 32]⟩ : ByteArray) = ⟨[44, 32].toArray⟩ from rfl, ba_app, ba_app, ba_app]
        rw [List.take_add_one, e1, ers_map, texts_map, List.map_append, List.map_append, Option.toList_some, List.map_cons, List.map_nil, List.map_cons, List.map_nil, commas_snoc]
        rw [ers_map, texts_map]
        by_cases h0 : k = 0
        · subst h0; simp [commas]
        · rw [if_neg h0, if_neg (by cases ps with | nil => simp at hlt | cons a l => cases k with | zero => exact absurd rfl h0 | succ k => simp)]
          simp [List.append_assoc])
      have HLE : Hid ((⟨(text (er r) ++ [40] ++ commas (texts (ers (ps.take (k + 1))))).toArray⟩ : ByteArray).size ≤ 4398046511104) := Lib.hid (by
        have h1 := commas_take (texts (ers ps)) (k + 1)
        rw [ba_size, show texts (ers (ps.take (k + 1))) = (texts (ers ps)).take (k + 1) by simp [ers_map, texts_map, List.map_take]]
        have h2 := HL.out
        simp only [List.length_append, List.length_cons, List.length_nil]
        omega)
      clear p1 p2 p3 p4 p5 p6 e1 q1 ea hc3 hz z6
      by_cases h0 : k = 0
      · have h0i : ¬ (0 : Int) < k := by omega
        have h0n : ¬ 0 < k := by omega
        rw [if_pos h0] at HE
        clear HS h0
        go_wp2_with (go_at_call 20; (with_reducible refine (HP.out _ (by (repeat' (first | (with_reducible exact Below.refl _ _) | (with_reducible assumption) | (with_reducible refine Below.setCell ?_ ?_ _) | (with_reducible refine Below.alloc ?_ ?_ _) | (with_reducible refine Below.drew ?_) | (with_reducible refine below_drewN ?_ _) | (with_reducible refine below_next ?_ (by with_reducible assumption)) | omega | (dsimp only; omega) | (simp only [World.size_alloc, World.size_setCell, World.size_drew, World.heap_drewN]; omega))))).mono ?_); rintro e w' ⟨rfl, hbl⟩; obtain ⟨hc, hf, hz⟩ := cif hbl; (try simp only [World.size_alloc, World.size_setCell, World.size_drew, World.heap_drewN] at hz))
        all_goals (
          go_roundw
          case rel => exact ⟨k + 1, _, by omega, by go_num, rfl, by rw [← HE.out]; exact HLE.out, Lib.hid HE.out.symm, by unfold Ext at *; (repeat' (first | (with_reducible exact Below.refl _ _) | (with_reducible assumption) | (with_reducible refine Below.setCell ?_ ?_ _) | (with_reducible refine Below.alloc ?_ ?_ _) | (with_reducible refine Below.drew ?_) | (with_reducible refine below_drewN ?_ _) | (with_reducible refine below_next ?_ (by with_reducible assumption)) | omega | (dsimp only; omega) | (simp only [World.size_alloc, World.size_setCell, World.size_drew, World.heap_drewN]; omega)))⟩
          case measure => simp [intOf]; omega)
      · have h0i : (0 : Int) < k := by omega
        have h0n : 0 < k := by omega
        rw [if_neg h0] at HE
        clear HS h0
        go_wp2_with (go_at_call 20; (with_reducible refine (HP.out _ (by (repeat' (first | (with_reducible exact Below.refl _ _) | (with_reducible assumption) | (with_reducible refine Below.setCell ?_ ?_ _) | (with_reducible refine Below.alloc ?_ ?_ _) | (with_reducible refine Below.drew ?_) | (with_reducible refine below_drewN ?_ _) | (with_reducible refine below_next ?_ (by with_reducible assumption)) | omega | (dsimp only; omega) | (simp only [World.size_alloc, World.size_setCell, World.size_drew, World.heap_drewN]; omega))))).mono ?_); rintro e w' ⟨rfl, hbl⟩; obtain ⟨hc, hf, hz⟩ := cif hbl; (try simp only [World.size_alloc, World.size_setCell, World.size_drew, World.heap_drewN] at hz))
        all_goals (
          go_roundw
          case rel => exact ⟨k + 1, _, by omega, by go_num, rfl, by rw [← HE.out]; exact HLE.out, Lib.hid HE.out.symm, by unfold Ext at *; (repeat' (first | (with_reducible exact Below.refl _ _) | (with_reducible assumption) | (with_reducible refine Below.setCell ?_ ?_ _) | (with_reducible refine Below.alloc ?_ ?_ _) | (with_reducible refine Below.drew ?_) | (with_reducible refine below_drewN ?_ _) | (with_reducible refine below_next ?_ (by with_reducible assumption)) | omega | (dsimp only; omega) | (simp only [World.size_alloc, World.size_setCell, World.size_drew, World.heap_drewN]; omega)))⟩
          case measure => simp [intOf]; omega)
    · have hkn : k = ps.length := by omega
      subst hkn
      rw [List.take_length] at HS
      go_wp2
      go_returns
      refine ⟨ret_str ?_, by unfold Ext at *; (repeat' (first | (with_reducible exact Below.refl _ _) | (with_reducible assumption) | (with_reducible refine Below.setCell ?_ ?_ _) | (with_reducible refine Below.alloc ?_ ?_ _) | (with_reducible refine Below.drew ?_) | (with_reducible refine below_drewN ?_ _) | (with_reducible refine below_next ?_ (by with_reducible assumption)) | omega | (dsimp only; omega) | (simp only [World.size_alloc, World.size_setCell, World.size_drew, World.heap_drewN]; omega)))⟩
      rw [HS.out, ← ba_app (_ ++ _ ++ _)]

mutual
theorem rtext_any : ∀ (t : Ty), ErOk (er t) → (text (er t)).length ≤ 1099511627776 → TextAt 20 t
  | .none, _, hl => fun w h _ => rtext_plain _ w h rfl hl
  | .void, _, hl => fun w h _ => rtext_plain _ w h rfl hl
  | .flt, _, hl => fun w h _ => rtext_plain _ w h rfl hl
  | .num s u, _, hl => fun w h _ => rtext_plain _ w h rfl hl
  | .rcd u n, _, hl => fun w h _ => rtext_plain _ w h rfl hl
  | .ptr sv t, hok, hl => fun w h ht => by
    simp only [er, ErOk] at hok
    exact rtext_ptr sv t w h hl ht (rtext_any t hok (by simp only [er, text, List.length_append] at hl; omega))
  | .arr sv d t, hok, hl => fun w h ht => by
    simp only [er, ErOk] at hok
    exact rtext_arr sv d t w h hok.1 hl ht (rtext_any t hok.2 (by simp only [er, text, List.length_append] at hl; omega))
  | .fn sv r ps, hok, hl => fun w h ht => by
    simp only [er, ErOk] at hok
    have hl2 : (text (er r)).length ≤ 1099511627776 ∧ (commas (texts (ers ps))).length ≤ 1099511627776 := by simp only [er, text, List.length_append] at hl; omega
    exact rtext_fn sv r ps w h (by simpa [ers_map] using hok.2.2) hl ht (rtext_any r hok.1 hl2.1) (rtext_all ps hok.2.1 (fun x hx => Nat.le_trans (commas_part _ _ (by rw [texts_map, ers_map]; exact List.mem_map_of_mem (List.mem_map_of_mem hx))) hl2.2))
theorem rtext_all : ∀ (l : List Ty), ErsOk (ers l) → (∀ x ∈ l, (text (er x)).length ≤ 1099511627776) → ∀ x ∈ l, TextAt 20 x
  | [], _, _, x, hx => by simp at hx
  | t :: l, hok, hl, x, hx => by
    simp only [ers, ErsOk] at hok
    rcases List.mem_cons.1 hx with hx | hx
    · rw [hx]; exact rtext_any t hok.1 (hl t (List.mem_cons_self ..))
    · exact rtext_all l hok.2 (fun y hy => hl y (List.mem_cons_of_mem _ hy)) x hx
end
end Go.Proofs.YteeojgepgjndgaaDoor
