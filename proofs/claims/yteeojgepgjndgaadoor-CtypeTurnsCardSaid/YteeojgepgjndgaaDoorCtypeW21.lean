/-
  The text of a type: what the program writes.
-/
import Derived.Test.YteeojgepgjndgaaDoorCtypeW10
import Derived.Test.YteeojgepgjndgaaDoorCtypeMk
import Derived.Test.YteeojgepgjndgaaDoorOwn
import Derived.Test.YteeojgepgjndgaaDoorShelf
import Derived.Lib.AppendIntMem
import Derived.Lib.Join
namespace Go.Proofs.YteeojgepgjndgaaDoor
open Go.RowKit
set_option linter.unusedVariables false
set_option linter.unusedSimpArgs false
attribute [local go_sem] ta_nil_Void ta_yes_Void ta_no_Number_Void ta_no_Float_Void ta_no_Record_Void ta_no_Pointer_Void ta_no_Array_Void ta_no_Function_Void ta_nil_Number ta_yes_Number ta_no_Void_Number ta_no_Float_Number ta_no_Record_Number ta_no_Pointer_Number ta_no_Array_Number ta_no_Function_Number ta_nil_Float ta_yes_Float ta_no_Void_Float ta_no_Number_Float ta_no_Record_Float ta_no_Pointer_Float ta_no_Array_Float ta_no_Function_Float ta_nil_Record ta_yes_Record ta_no_Void_Record ta_no_Number_Record ta_no_Float_Record ta_no_Pointer_Record ta_no_Array_Record ta_no_Function_Record ta_nil_Pointer ta_yes_Pointer ta_no_Void_Pointer ta_no_Number_Pointer ta_no_Float_Pointer ta_no_Record_Pointer ta_no_Array_Pointer ta_no_Function_Pointer ta_nil_Array ta_yes_Array ta_no_Void_Array ta_no_Number_Array ta_no_Float_Array ta_no_Record_Array ta_no_Pointer_Array ta_no_Function_Array ta_nil_Function ta_yes_Function ta_no_Void_Function ta_no_Number_Function ta_no_Float_Function ta_no_Record_Function ta_no_Pointer_Function ta_no_Array_Function

theorem ba_app (a b : List UInt8) : (⟨a.toArray⟩ : ByteArray) ++ ⟨b.toArray⟩ = ⟨(a ++ b).toArray⟩ := by
  apply ByteArray.ext
  simp
theorem ba_size (a : List UInt8) : (⟨a.toArray⟩ : ByteArray).size = a.length := by simp [ByteArray.size]
theorem ret_str {a b : ByteArray} (h : a = b) : Ending.returned (.string a) = .returned (.string b) := by rw [h]

/-- The table of the decimal powers, as the library lays it. -/
def TabW (w : World) : Prop := Lib.TabIs Tryd.prog w "internal/strconv.uint64pow10" .u64 Lib.pow10Tab
theorem gTab : ∃ g, Tryd.prog.globalNamed "internal/strconv.uint64pow10" = some g := by
  have h : (Tryd.prog.globalNamed "internal/strconv.uint64pow10").isSome = true := by kernel_rfl
  exact Option.isSome_iff_exists.1 h
theorem TabW.next {w w' : World} (h : TabW w) (hb : Below w.heap.size w w') : TabW w' := by
  obtain ⟨g, hg⟩ := gTab
  unfold TabW Lib.TabIs World.var? at *
  rw [hg] at h ⊢
  simp only [Option.bind_some] at h ⊢
  have hlt : g < w.heap.size := by
    rcases Nat.lt_or_ge g w.heap.size with h' | h'
    · exact h'
    · rw [Array.getElem?_eq_none h'] at h; cases h
  rw [hb.block g hlt]
  exact h
theorem itoa_any (n : Int) (hn : I64 n) (w : World) (ht : TabW w) : Calls Tryd.prog 60 #[.int .i64 n] w fun e w' => e = .returned (.string ⟨(Lib.itoa n).toArray⟩) ∧ Below w.heap.size w w' :=
  (Tryd.strconv_Itoa n hn.1 hn.2 w ht).mono fun e w' ⟨h, k, os, hw⟩ => ⟨h, by rw [hw]; exact Lib.below_grow _ _ (Nat.le_refl _) _ _⟩

def strC (s : ByteArray) : List Value := [.string s]
theorem strC_len (s : ByteArray) : (strC s).length = 1 := rfl
theorem str_info : (Tryd.prog.info? 9).map (fun i => (i.zero, i.size, i.bytes)) = some (some (.string ⟨#[]⟩), 1, 16) := by kernel_rfl
theorem join_commas : ∀ (l : List (List UInt8)), Lib.join l [44, 32] = commas l
  | [] => rfl
  | [a] => by rw [Lib.join_one]; rfl
  | a :: b :: l => by
    have h := join_commas (b :: l)
    rw [Lib.join_cons] at h ⊢
    rw [commas, ← h]
    simp [Lib.joinTail]
theorem join_any (s : Value) (xs : List (List UInt8)) (w : World) (h : RdL strC 1 w s (xs.map fun l => ⟨l.toArray⟩)) (hl : (commas xs).length ≤ 140737488355328) (hx : xs.length ≤ 140737488355328) :
    Calls Tryd.prog 61 #[s, .string ⟨#[44, 32]⟩] w fun e w' => e = .returned (.string ⟨(commas xs).toArray⟩) ∧ Below w.heap.size w w' := by
  by_cases h0 : xs = []
  · subst h0
    obtain ⟨A, c, rfl, _⟩ := h.empty rfl
    exact (Tryd.strings_Join_none A c _ w).mono fun e w' ⟨h1, h2⟩ => ⟨h1, by rw [h2]; exact Below.refl _ _⟩
  · have hn : 0 < (xs.map fun l => (⟨l.toArray⟩ : ByteArray)).length := by
      cases xs with
      | nil => exact absurd rfl h0
      | cons a l => simp
    obtain ⟨b, off, c, rfl, hc1, hc2, hb, hc⟩ := h.some_ hn
    have e : (xs.map fun l => (⟨l.toArray⟩ : ByteArray)).map (·.data.toList) = xs := by
      rw [List.map_map]
      conv => rhs; rw [← List.map_id xs]
      exact List.map_congr_left fun a _ => by simp
    have e2 : Lib.join ((xs.map fun l => (⟨l.toArray⟩ : ByteArray)).map (·.data.toList)) (⟨#[44, 32]⟩ : ByteArray).data.toList = commas xs := by rw [e]; exact join_commas xs
    have g := Tryd.strings_Join b off c (xs.map fun l => ⟨l.toArray⟩) ⟨#[44, 32]⟩ w (fun j y hy => by have := hc j y hy 0 _ rfl; rw [Nat.mul_one, Nat.add_zero] at this; exact this) hb (by simpa using hx) hc1 (by rw [e2]; exact hl)
    rw [e2] at g
    exact g

/-- The texts of the parts are no longer than the whole. -/
theorem commas_part : ∀ (l : List (List UInt8)) (a : List UInt8), a ∈ l → a.length ≤ (commas l).length
  | [a], x, h => by simp at h; subst h; exact Nat.le_refl _
  | a :: b :: l, x, h => by
    rcases List.mem_cons.1 h with rfl | h
    · simp [commas]
    · have := commas_part (b :: l) x h
      simp only [commas, List.length_append]
      omega
def TextAt (F : FuncId) (x : Ty) : Prop := ∀ (W : World), RdT W x → TabW W → Calls Tryd.prog F #[tyV x] W fun e w' => e = .returned (.string ⟨(text (er x)).toArray⟩) ∧ Below W.heap.size W w'

set_option maxRecDepth 100000 in
set_option maxHeartbeats 2000000 in
theorem text_plain (t : Ty) (w : World) (h : RdT w t) (hp : plainT t = true) (hl : (text (er t)).length ≤ 1099511627776) : Calls Tryd.prog 19 #[tyV t] w fun e w' => e = .returned (.string ⟨(text (er t)).toArray⟩) ∧ Below w.heap.size w w' := by
  cases t with
  | ptr => simp [plainT, isP, isA, isFn] at hp
  | arr => simp [plainT, isP, isA, isFn] at hp
  | fn => simp [plainT, isP, isA, isFn] at hp
  | none =>
    rw [show tyV .none = .agg #[.int .i64 0, .int .i64 0, .int .i64 0, .bool false, .string ⟨#[]⟩, .slice none 0 0] from rfl]
    clear h hl hp
    have hA1 := cell_alloc_if
    have hA2 := frozen_alloc_if
    have hA3 := cell_set_if
    go_enter Tryd.func19, Tryd.ntmps19
    go_wp2_with (go_at_call 48; (with_reducible refine (view_0 _ _ _ _ _ _ _ _).mono ?_); rintro e w' ⟨rfl, hbl⟩; obtain ⟨hc, hf, hz⟩ := cif hbl; (try simp only [World.size_alloc, World.size_setCell, World.size_drew, World.heap_drewN] at hz))
    go_returns
    exact ⟨rfl, by (repeat' (first | (with_reducible exact Below.refl _ _) | (with_reducible assumption) | (with_reducible refine Below.setCell ?_ ?_ _) | (with_reducible refine Below.alloc ?_ ?_ _) | (with_reducible refine Below.drew ?_) | (with_reducible refine below_drewN ?_ _) | (with_reducible refine below_next ?_ (by with_reducible assumption)) | omega | (dsimp only; omega) | (simp only [World.size_alloc, World.size_setCell, World.size_drew, World.heap_drewN]; omega)))⟩
  | void =>
    rw [show tyV .void = .agg #[.int .i64 1, .int .i64 0, .int .i64 0, .bool false, .string ⟨#[]⟩, .slice none 0 0] from rfl]
    clear h hl hp
    have hA1 := cell_alloc_if
    have hA2 := frozen_alloc_if
    have hA3 := cell_set_if
    go_enter Tryd.func19, Tryd.ntmps19
    go_wp2_with (go_at_call 48; (with_reducible refine (view_1 _ _ _ _ _ _ _ _).mono ?_); rintro e w' ⟨rfl, hbl⟩; obtain ⟨hc, hf, hz⟩ := cif hbl; (try simp only [World.size_alloc, World.size_setCell, World.size_drew, World.heap_drewN] at hz))
    go_returns
    exact ⟨rfl, by (repeat' (first | (with_reducible exact Below.refl _ _) | (with_reducible assumption) | (with_reducible refine Below.setCell ?_ ?_ _) | (with_reducible refine Below.alloc ?_ ?_ _) | (with_reducible refine Below.drew ?_) | (with_reducible refine below_drewN ?_ _) | (with_reducible refine below_next ?_ (by with_reducible assumption)) | omega | (dsimp only; omega) | (simp only [World.size_alloc, World.size_setCell, World.size_drew, World.heap_drewN]; omega)))⟩
  | flt =>
    rw [show tyV .flt = .agg #[.int .i64 3, .int .i64 0, .int .i64 0, .bool false, .string ⟨#[]⟩, .slice none 0 0] from rfl]
    clear h hl hp
    have hA1 := cell_alloc_if
    have hA2 := frozen_alloc_if
    have hA3 := cell_set_if
    go_enter Tryd.func19, Tryd.ntmps19
    go_wp2_with (go_at_call 48; (with_reducible refine (view_3 _ _ _ _ _ _ _ _).mono ?_); rintro e w' ⟨rfl, hbl⟩; obtain ⟨hc, hf, hz⟩ := cif hbl; (try simp only [World.size_alloc, World.size_setCell, World.size_drew, World.heap_drewN] at hz))
    go_returns
    exact ⟨rfl, by (repeat' (first | (with_reducible exact Below.refl _ _) | (with_reducible assumption) | (with_reducible refine Below.setCell ?_ ?_ _) | (with_reducible refine Below.alloc ?_ ?_ _) | (with_reducible refine Below.drew ?_) | (with_reducible refine below_drewN ?_ _) | (with_reducible refine below_next ?_ (by with_reducible assumption)) | omega | (dsimp only; omega) | (simp only [World.size_alloc, World.size_setCell, World.size_drew, World.heap_drewN]; omega)))⟩
  | num s u =>
    rw [show tyV (.num s u) = .agg #[.int .i64 2, .int .i64 s, .int .i64 0, .bool u, .string ⟨#[]⟩, .slice none 0 0] from rfl]
    obtain ⟨x, hx⟩ : ∃ x, x = ByteArray.mk (numText s u).toArray := ⟨_, rfl⟩
    have HN : Hid (∀ W, Calls Tryd.prog 59 #[.agg #[.int .i64 s, .bool u]] W fun e w' => e = .returned (.string x) ∧ Below W.heap.size W w') := Lib.hid fun W => by rw [hx]; exact numberText_any s u W
    simp only [er, text]
    rw [← hx]
    clear h hl hp hx
    have hA1 := cell_alloc_if
    have hA2 := frozen_alloc_if
    have hA3 := cell_set_if
    go_enter Tryd.func19, Tryd.ntmps19
    go_wp2_with (first
      | (go_at_call 48; (with_reducible refine (view_2 _ _ _ _ _ _ _ _).mono ?_); rintro e w' ⟨rfl, hbl⟩; obtain ⟨hc, hf, hz⟩ := cif hbl; (try simp only [World.size_alloc, World.size_setCell, World.size_drew, World.heap_drewN] at hz))
      | (go_at_call 59; (with_reducible refine (HN.out _).mono ?_); rintro e w' ⟨rfl, hbl⟩; obtain ⟨hc, hf, hz⟩ := cif hbl; (try simp only [World.size_alloc, World.size_setCell, World.size_drew, World.heap_drewN] at hz)))
    go_returns
    exact ⟨rfl, by (repeat' (first | (with_reducible exact Below.refl _ _) | (with_reducible assumption) | (with_reducible refine Below.setCell ?_ ?_ _) | (with_reducible refine Below.alloc ?_ ?_ _) | (with_reducible refine Below.drew ?_) | (with_reducible refine below_drewN ?_ _) | (with_reducible refine below_next ?_ (by with_reducible assumption)) | omega | (dsimp only; omega) | (simp only [World.size_alloc, World.size_setCell, World.size_drew, World.heap_drewN]; omega)))⟩
  | rcd u n =>
    rw [show tyV (.rcd u n) = .agg #[.int .i64 6, .int .i64 0, .int .i64 0, .bool u, .string n, .slice none 0 0] from rfl]
    simp only [er, text, ByteArray.toList_eq]
    simp only [er, text, ByteArray.toList_eq, List.length_append] at hl
    have hsz : n.size ≤ 1099511627776 := by have h0 : n.size = n.data.size := rfl; rw [h0, ← Array.length_toList]; omega
    have hn : n = ⟨n.data.toList.toArray⟩ := by simp
    have HN := Lib.hid hn
    clear h hl hp hn
    cases u
    all_goals (
      have hA1 := cell_alloc_if
      have hA2 := frozen_alloc_if
      have hA3 := cell_set_if
      go_enter Tryd.func19, Tryd.ntmps19
      go_wp2_with (go_at_call 48; (with_reducible refine (view_6 _ _ _ _ _ _ _ _).mono ?_); rintro e w' ⟨rfl, hbl⟩; obtain ⟨hc, hf, hz⟩ := cif hbl; (try simp only [World.size_alloc, World.size_setCell, World.size_drew, World.heap_drewN] at hz))
      go_returns
      refine ⟨ret_str ?_, by (repeat' (first | (with_reducible exact Below.refl _ _) | (with_reducible assumption) | (with_reducible refine Below.setCell ?_ ?_ _) | (with_reducible refine Below.alloc ?_ ?_ _) | (with_reducible refine Below.drew ?_) | (with_reducible refine below_drewN ?_ _) | (with_reducible refine below_next ?_ (by with_reducible assumption)) | omega | (dsimp only; omega) | (simp only [World.size_alloc, World.size_setCell, World.size_drew, World.heap_drewN]; omega)))⟩
      first | exact ba_app [115, 116, 114, 117, 99, 116, 32] n.data.toList | exact ba_app [117, 110, 105, 111, 110, 32] n.data.toList)

set_option maxRecDepth 100000 in
set_option maxHeartbeats 2000000 in
theorem text_ptr (sv : Value) (t : Ty) (w : World) (h : RdT w (.ptr sv t)) (ht : TabW w) (hl : (text (er (.ptr sv t))).length ≤ 1099511627776) (ih : TextAt 19 t) : Calls Tryd.prog 19 #[tyV (.ptr sv t)] w fun e w' => e = .returned (.string ⟨(text (er (.ptr sv t))).toArray⟩) ∧ Below w.heap.size w w' := by
  obtain ⟨k, s, l, f, n, A, m, c, k1, s1, l1, f1, n1, A1, m1, c1, e0, e1, r1, hv⟩ := ptr_view sv t h
  rw [tyV_of e0]
  obtain ⟨x, hx⟩ : ∃ x, x = ByteArray.mk (text (er t)).toArray := ⟨_, rfl⟩
  have HI : Hid (∀ W, Below w.heap.size w W → Calls Tryd.prog 19 #[.agg #[.int .i64 k1, .int .i64 s1, .int .i64 l1, .bool f1, .string n1, .slice A1 m1 c1]] W fun e w' => e = .returned (.string x) ∧ Below W.heap.size W w') := Lib.hid fun W hW => by
    have h := ih W (r1.next hW) (ht.next hW)
    rw [show tyV t = _ from tyV_of e1] at h
    rw [hx]; exact h
  simp only [er, text, List.length_append] at hl
  simp only [er, text]
  have hsz : x.size ≤ 1099511627776 := by rw [hx, ba_size]; omega
  have HX := Lib.hid hx
  have HV := Lib.hid hv
  clear e0 e1 h r1 ih hx hl hv ht
  have hA1 := cell_alloc_if
  have hA2 := frozen_alloc_if
  have hA3 := cell_set_if
  go_enter Tryd.func19, Tryd.ntmps19
  go_wp2_with (first
    | (go_at_call 48; (with_reducible refine (HV.out _ (by (repeat' (first | (with_reducible exact Below.refl _ _) | (with_reducible assumption) | (with_reducible refine Below.setCell ?_ ?_ _) | (with_reducible refine Below.alloc ?_ ?_ _) | (with_reducible refine Below.drew ?_) | (with_reducible refine below_drewN ?_ _) | (with_reducible refine below_next ?_ (by with_reducible assumption)) | omega | (dsimp only; omega) | (simp only [World.size_alloc, World.size_setCell, World.size_drew, World.heap_drewN]; omega))))).mono ?_); rintro e w' ⟨rfl, hbl⟩; obtain ⟨hc, hf, hz⟩ := cif hbl; (try simp only [World.size_alloc, World.size_setCell, World.size_drew, World.heap_drewN] at hz))
    | (go_at_call 19; (with_reducible refine (HI.out _ (by (repeat' (first | (with_reducible exact Below.refl _ _) | (with_reducible assumption) | (with_reducible refine Below.setCell ?_ ?_ _) | (with_reducible refine Below.alloc ?_ ?_ _) | (with_reducible refine Below.drew ?_) | (with_reducible refine below_drewN ?_ _) | (with_reducible refine below_next ?_ (by with_reducible assumption)) | omega | (dsimp only; omega) | (simp only [World.size_alloc, World.size_setCell, World.size_drew, World.heap_drewN]; omega))))).mono ?_); rintro e w' ⟨rfl, hbl⟩; obtain ⟨hc, hf, hz⟩ := cif hbl; (try simp only [World.size_alloc, World.size_setCell, World.size_drew, World.heap_drewN] at hz)))
  go_returns
  refine ⟨ret_str ?_, by (repeat' (first | (with_reducible exact Below.refl _ _) | (with_reducible assumption) | (with_reducible refine Below.setCell ?_ ?_ _) | (with_reducible refine Below.alloc ?_ ?_ _) | (with_reducible refine Below.drew ?_) | (with_reducible refine below_drewN ?_ _) | (with_reducible refine below_next ?_ (by with_reducible assumption)) | omega | (dsimp only; omega) | (simp only [World.size_alloc, World.size_setCell, World.size_drew, World.heap_drewN]; omega)))⟩
  rw [HX.out, ← ba_app]

set_option maxRecDepth 100000 in
set_option maxHeartbeats 4000000 in
theorem text_arr (sv : Value) (d : Int) (t : Ty) (w : World) (h : RdT w (.arr sv d t)) (hd : I64 d) (ht : TabW w) (hl : (text (er (.arr sv d t))).length ≤ 1099511627776) (ih : TextAt 19 t) : Calls Tryd.prog 19 #[tyV (.arr sv d t)] w fun e w' => e = .returned (.string ⟨(text (er (.arr sv d t))).toArray⟩) ∧ Below w.heap.size w w' := by
  obtain ⟨k, s, l, f, n, A, m, c, k1, s1, l1, f1, n1, A1, m1, c1, e0, e1, r1, hv⟩ := arr_view sv d t h
  rw [tyV_of e0]
  obtain ⟨x, hx⟩ : ∃ x, x = ByteArray.mk (text (er t)).toArray := ⟨_, rfl⟩
  obtain ⟨y, hy⟩ : ∃ y, y = ByteArray.mk (Lib.itoa d).toArray := ⟨_, rfl⟩
  have HI : Hid (∀ W, Below w.heap.size w W → Calls Tryd.prog 19 #[.agg #[.int .i64 k1, .int .i64 s1, .int .i64 l1, .bool f1, .string n1, .slice A1 m1 c1]] W fun e w' => e = .returned (.string x) ∧ Below W.heap.size W w') := Lib.hid fun W hW => by
    have h := ih W (r1.next hW) (ht.next hW)
    rw [show tyV t = _ from tyV_of e1] at h
    rw [hx]; exact h
  have HJ : Hid (∀ W, Below w.heap.size w W → Calls Tryd.prog 60 #[.int .i64 d] W fun e w' => e = .returned (.string y) ∧ Below W.heap.size W w') := Lib.hid fun W hW => by
    rw [hy]; exact itoa_any d hd W (ht.next hW)
  simp only [er, text, List.length_append] at hl
  simp only [er, text]
  have hsz : x.size ≤ 1099511627776 := by rw [hx, ba_size]; omega
  have hsy : y.size ≤ 1099511627776 := by rw [hy, ba_size]; omega
  have HX := Lib.hid hx
  have HY := Lib.hid hy
  have HV := Lib.hid hv
  clear e0 e1 h r1 ih hx hl hv ht hy hd
  have hA1 := cell_alloc_if
  have hA2 := frozen_alloc_if
  have hA3 := cell_set_if
  go_enter Tryd.func19, Tryd.ntmps19
  go_wp2_with (go_at_call 48; (with_reducible refine (HV.out _ (by (repeat' (first | (with_reducible exact Below.refl _ _) | (with_reducible assumption) | (with_reducible refine Below.setCell ?_ ?_ _) | (with_reducible refine Below.alloc ?_ ?_ _) | (with_reducible refine Below.drew ?_) | (with_reducible refine below_drewN ?_ _) | (with_reducible refine below_next ?_ (by with_reducible assumption)) | omega | (dsimp only; omega) | (simp only [World.size_alloc, World.size_setCell, World.size_drew, World.heap_drewN]; omega))))).mono ?_); rintro e w' ⟨rfl, hbl⟩; obtain ⟨hc, hf, hz⟩ := cif hbl; (try simp only [World.size_alloc, World.size_setCell, World.size_drew, World.heap_drewN] at hz))
  go_region_with (first
    | (go_at_call 19; (with_reducible refine (HI.out _ (by (repeat' (first | (with_reducible exact Below.refl _ _) | (with_reducible assumption) | (with_reducible refine Below.setCell ?_ ?_ _) | (with_reducible refine Below.alloc ?_ ?_ _) | (with_reducible refine Below.drew ?_) | (with_reducible refine below_drewN ?_ _) | (with_reducible refine below_next ?_ (by with_reducible assumption)) | omega | (dsimp only; omega) | (simp only [World.size_alloc, World.size_setCell, World.size_drew, World.heap_drewN]; omega))))).mono ?_); rintro e w' ⟨rfl, hbl⟩; obtain ⟨hc, hf, hz⟩ := cif hbl; (try simp only [World.size_alloc, World.size_setCell, World.size_drew, World.heap_drewN] at hz))
    | (go_at_call 60; (with_reducible refine (HJ.out _ (by (repeat' (first | (with_reducible exact Below.refl _ _) | (with_reducible assumption) | (with_reducible refine Below.setCell ?_ ?_ _) | (with_reducible refine Below.alloc ?_ ?_ _) | (with_reducible refine Below.drew ?_) | (with_reducible refine below_drewN ?_ _) | (with_reducible refine below_next ?_ (by with_reducible assumption)) | omega | (dsimp only; omega) | (simp only [World.size_alloc, World.size_setCell, World.size_drew, World.heap_drewN]; omega))))).mono ?_); rintro e w' ⟨rfl, hbl⟩; obtain ⟨hc, hf, hz⟩ := cif hbl; (try simp only [World.size_alloc, World.size_setCell, World.size_drew, World.heap_drewN] at hz)))
  all_goals (
    go_wp2
    go_returns
    refine ⟨ret_str ?_, by (repeat' (first | (with_reducible exact Below.refl _ _) | (with_reducible assumption) | (with_reducible refine Below.setCell ?_ ?_ _) | (with_reducible refine Below.alloc ?_ ?_ _) | (with_reducible refine Below.drew ?_) | (with_reducible refine below_drewN ?_ _) | (with_reducible refine below_next ?_ (by with_reducible assumption)) | omega | (dsimp only; omega) | (simp only [World.size_alloc, World.size_setCell, World.size_drew, World.heap_drewN]; omega)))⟩
    rw [HX.out, HY.out, ← ba_app, ← ba_app, ← ba_app])

set_option maxRecDepth 100000 in
set_option maxHeartbeats 8000000 in
theorem text_fn (sv : Value) (r : Ty) (ps : List Ty) (w : World) (h : RdT w (.fn sv r ps)) (hp8 : ps.length ≤ 8) (ht : TabW w) (hl : (text (er (.fn sv r ps))).length ≤ 1099511627776) (ih : TextAt 19 r) (ihs : ∀ x ∈ ps, TextAt 19 x) : Calls Tryd.prog 19 #[tyV (.fn sv r ps)] w fun e w' => e = .returned (.string ⟨(text (er (.fn sv r ps))).toArray⟩) ∧ Below w.heap.size w w' := by
  obtain ⟨i0, hi0, hz0, hz1, hz2⟩ := info_parts str_info
  obtain ⟨k, s, l, f, n, A, m, c, k1, s1, l1, f1, n1, A1, m1, c1, A2, m2, c2, e0, e1, r1, rps, q2, hv⟩ := fn_view sv r ps h
  rw [tyV_of e0]
  obtain ⟨x, hx⟩ : ∃ x, x = ByteArray.mk (text (er r)).toArray := ⟨_, rfl⟩
  obtain ⟨y, hy⟩ : ∃ y, y = ByteArray.mk (commas (texts (ers ps))).toArray := ⟨_, rfl⟩
  have HI : Hid (∀ W, Below w.heap.size w W → Calls Tryd.prog 19 #[.agg #[.int .i64 k1, .int .i64 s1, .int .i64 l1, .bool f1, .string n1, .slice A1 m1 c1]] W fun e w' => e = .returned (.string x) ∧ Below W.heap.size W w') := Lib.hid fun W hW => by
    have h := ih W (r1.next hW) (ht.next hW)
    rw [show tyV r = _ from tyV_of e1] at h
    rw [hx]; exact h
  have ml : ps.length = m2 := by obtain ⟨_, _, e, _⟩ := q2; injection e with _ e _; exact e.symm
  subst ml
  simp only [er, text, List.length_append] at hl
  simp only [er, text]
  have hsz : x.size ≤ 1099511627776 := by rw [hx, ba_size]; omega
  have hsy : y.size ≤ 1099511627776 := by rw [hy, ba_size]; omega
  have HX := Lib.hid hx
  have HY := Lib.hid hy
  have HV := Lib.hid hv
  have HL := Lib.hid hl
  have RPS := Lib.hid rps
  have Q2 := Lib.hid q2
  have IHS := Lib.hid ihs
  have HT := Lib.hid ht
  clear e0 e1 h r1 ih hx hl hv ht hy rps q2 ihs
  have hA1 := cell_alloc_if
  have hA2 := frozen_alloc_if
  have hA3 := cell_set_if
  go_enter Tryd.func19, Tryd.ntmps19
  go_wp2_with (go_at_call 48; (with_reducible refine (HV.out _ (by (repeat' (first | (with_reducible exact Below.refl _ _) | (with_reducible assumption) | (with_reducible refine Below.setCell ?_ ?_ _) | (with_reducible refine Below.alloc ?_ ?_ _) | (with_reducible refine Below.drew ?_) | (with_reducible refine below_drewN ?_ _) | (with_reducible refine below_next ?_ (by with_reducible assumption)) | omega | (dsimp only; omega) | (simp only [World.size_alloc, World.size_setCell, World.size_drew, World.heap_drewN]; omega))))).mono ?_); rintro e w5 ⟨rfl, hb5⟩; obtain ⟨hc5, hf5, hz5⟩ := cif hb5; (try simp only [World.size_alloc, World.size_setCell, World.size_drew, World.heap_drewN] at hz5))
  have hB0 : Below (w5.heap.size + 1) (w5.alloc (.cells #[.int .i64 k1, .int .i64 s1, .int .i64 l1, .bool f1, .string n1, .slice A1 m1 c1, .slice A2 ps.length c2] 95)) (w5.alloc (.cells #[.int .i64 k1, .int .i64 s1, .int .i64 l1, .bool f1, .string n1, .slice A1 m1 c1, .slice A2 ps.length c2] 95)) := Below.refl _ _
  clear hc5 hf5
  go_loopw [10, 62] (fun s i wr => ∃ (xs : List ByteArray) (A6 : Option Addr) (c6 : Nat), xs.length ≤ ps.length ∧ i = .int .i64 xs.length ∧ s = .slice A6 xs.length c6 ∧ Below (w5.heap.size + 1) (w5.alloc (.cells #[.int .i64 k1, .int .i64 s1, .int .i64 l1, .bool f1, .string n1, .slice A1 m1 c1, .slice A2 ps.length c2] 95)) wr ∧ Hid (OwnL 9 strC 1 (w5.heap.size + 1) wr (.slice A6 xs.length c6) xs) ∧ Hid (xs = (texts (ers (ps.take xs.length))).map fun l => ⟨l.toArray⟩)) (fun _ i _ => ps.length - (intOf i).toNat)
  case atStart => exact ⟨[], none, 0, by simp, rfl, rfl, hB0, Lib.hid (OwnL.nil _ _ _ _ _), Lib.hid rfl⟩
  case round =>
    obtain ⟨xs, A6, c6, hk, rfl, rfl, hXb, HOW, HXS⟩ := hrel
    have hz8 := hXb.size
    simp only [World.size_alloc] at hz8
    have hwr : Below w.heap.size w wr := Below.trans (by (repeat' (first | (with_reducible exact Below.refl _ _) | (with_reducible assumption) | (with_reducible refine Below.setCell ?_ ?_ _) | (with_reducible refine Below.alloc ?_ ?_ _) | (with_reducible refine Below.drew ?_) | (with_reducible refine below_drewN ?_ _) | (with_reducible refine below_next ?_ (by with_reducible assumption)) | omega | (dsimp only; omega) | (simp only [World.size_alloc, World.size_setCell, World.size_drew, World.heap_drewN]; omega)))) (hXb.mono (by omega))
    have hwz := hwr.size
    by_cases hlt : xs.length < ps.length
    · obtain ⟨p, e1⟩ : ∃ p, ps[xs.length]? = some p := ⟨_, List.getElem?_eq_getElem hlt⟩
      obtain ⟨g3, o3, cc3, ev3, _, hcc3, hlt3, hc3⟩ := Q2.out.some_ (by omega)
      injection ev3 with ev30 ev31 ev32
      subst ev30
      clear ev31 ev32
      have q1 := RPS.out.mem p (List.mem_of_getElem? e1)
      obtain ⟨ka, sa, la, fa, na, Aa, ma, ca, ea⟩ := tyC_form p q1
      obtain ⟨p1, p2, p3, p4, p5, p6⟩ := RdL.tyAt hc3 e1 ea
      have p1' := (hwr.cell (p := ⟨g3, _, none⟩) hlt3).trans p1
      have p2' := (hwr.cell (p := ⟨g3, _, none⟩) hlt3).trans p2
      have p3' := (hwr.cell (p := ⟨g3, _, none⟩) hlt3).trans p3
      have p4' := (hwr.cell (p := ⟨g3, _, none⟩) hlt3).trans p4
      have p5' := (hwr.cell (p := ⟨g3, _, none⟩) hlt3).trans p5
      have p6' := (hwr.cell (p := ⟨g3, _, none⟩) hlt3).trans p6
      obtain ⟨z, hz⟩ : ∃ z, z = ByteArray.mk (text (er p)).toArray := ⟨_, rfl⟩
      have HP : Hid (∀ W, Below wr.heap.size wr W → Calls Tryd.prog 19 #[.agg #[.int .i64 ka, .int .i64 sa, .int .i64 la, .bool fa, .string na, .slice Aa ma ca]] W fun e w' => e = .returned (.string z) ∧ Below W.heap.size W w') := Lib.hid fun W hW => by
        have h := IHS.out p (List.mem_of_getElem? e1) W ((q1.next hwr).next hW) ((HT.out.next hwr).next hW)
        rw [tyV_of ea] at h
        rw [hz]; exact h
      have HXS2 : Hid (xs ++ [z] = (texts (ers (ps.take (xs.length + 1)))).map fun l => ⟨l.toArray⟩) := Lib.hid (by
        rw [List.take_add_one, e1, ers_map, texts_map, List.map_append, List.map_append, List.map_append]
        have h := HXS.out
        rw [ers_map, texts_map] at h
        rw [← h, hz]; rfl)
      clear p1 p2 p3 p4 p5 p6 e1 q1 ea hc3 hz HXS
      go_wp2_with (first
        | (go_at_call 19; (with_reducible refine (HP.out _ (by (repeat' (first | (with_reducible exact Below.refl _ _) | (with_reducible assumption) | (with_reducible refine Below.setCell ?_ ?_ _) | (with_reducible refine Below.alloc ?_ ?_ _) | (with_reducible refine Below.drew ?_) | (with_reducible refine below_drewN ?_ _) | (with_reducible refine below_next ?_ (by with_reducible assumption)) | omega | (dsimp only; omega) | (simp only [World.size_alloc, World.size_setCell, World.size_drew, World.heap_drewN]; omega))))).mono ?_); rintro e w4 ⟨rfl, hb4⟩; obtain ⟨hc4, hf4, hz4⟩ := cif hb4; (try simp only [World.size_alloc, World.size_setCell, World.size_drew, World.heap_drewN] at hz4))
        | (at_builtin; refine wpList_app (e := 9) (f := strC) rfl _ _ 101 rfl (w5.heap.size + 1) i0 _ 16 Tryd.underlying101 hi0 hz0 hz1 hz2 rfl (by decide) strC_len (.slice A6 xs.length c6) xs rfl ?c0 _ 1 _ [z] rfl ?c1 ?c2 (by decide) ?c3 ?c4 ?_))
      case c0 => exact HOW.out.next (by (repeat' (first | (with_reducible exact Below.refl _ _) | (with_reducible assumption) | (with_reducible refine Below.setCell ?_ ?_ _) | (with_reducible refine Below.alloc ?_ ?_ _) | (with_reducible refine Below.drew ?_) | (with_reducible refine below_drewN ?_ _) | (with_reducible refine below_next ?_ (by with_reducible assumption)) | omega | (dsimp only; omega) | (simp only [World.size_alloc, World.size_setCell, World.size_drew, World.heap_drewN]; omega))))
      case c1 =>
        refine ⟨_, 1, rfl, by simp, by decide, fun _ => ⟨_, 0, rfl, by simp, fun k a ha j v hv => ?_⟩⟩
        match k, ha with
        | 0, ha =>
          simp at ha; subst ha
          match j, hv with
          | 0, hv => simp [strC] at hv; subst hv; simp [cell_alloc_if]
      case c2 => intro a ha u hu; simp [strC] at ha hu; subst hu; rfl
      case c3 => simp; omega
      case c4 => simp; omega
      intro A9 c9 w6 hown hg hB hor
      have HOWN := Lib.hid hown
      have hlen : ([z] : List ByteArray).length = 1 := rfl
      have hBB : Below (w5.heap.size + 1) wr w6 := Below.trans (Below.mono (show Below wr.heap.size wr _ from by (repeat' (first | (with_reducible exact Below.refl _ _) | (with_reducible assumption) | (with_reducible refine Below.setCell ?_ ?_ _) | (with_reducible refine Below.alloc ?_ ?_ _) | (with_reducible refine Below.drew ?_) | (with_reducible refine below_drewN ?_ _) | (with_reducible refine below_next ?_ (by with_reducible assumption)) | omega | (dsimp only; omega) | (simp only [World.size_alloc, World.size_setCell, World.size_drew, World.heap_drewN]; omega)))) (by omega)) hB
      clear hown hg hB hor hc4 hf4
      go_wp2
      go_roundw
      case rel => exact ⟨xs ++ [z], A9, c9, by simp; omega, by simp, by simp, hXb.trans hBB, by simpa using HOWN, by simpa using HXS2⟩
      case measure => simp [intOf]; omega
    · have hkn : xs.length = ps.length := by omega
      have hxs : Hid (xs = (texts (ers ps)).map fun l => ⟨l.toArray⟩) := Lib.hid (by have h := HXS.out; rw [hkn, List.take_length] at h; exact h)
      clear HXS
      have HJ : Hid (∀ W, Below wr.heap.size wr W → Calls Tryd.prog 61 #[.slice A6 xs.length c6, .string ⟨#[44, 32]⟩] W fun e w' => e = .returned (.string y) ∧ Below W.heap.size W w') := Lib.hid fun W hW => by
        rw [HY.out]
        have hr := (HOW.out.rdl strC_len).next hW
        rw [show RdL strC 1 W (.slice A6 xs.length c6) xs = RdL strC 1 W (.slice A6 xs.length c6) ((texts (ers ps)).map fun l => ⟨l.toArray⟩) by rw [← hxs.out]] at hr
        refine join_any _ _ W hr (by have := HL.out; simp only [List.length_cons, List.length_nil] at this; omega) ?_
        have h2 := congrArg List.length hxs.out
        rw [List.length_map] at h2
        omega
      clear hkn
      have HIw : Hid (∀ W, Below wr.heap.size wr W → Calls Tryd.prog 19 #[.agg #[.int .i64 k1, .int .i64 s1, .int .i64 l1, .bool f1, .string n1, .slice A1 m1 c1]] W fun e w' => e = .returned (.string x) ∧ Below W.heap.size W w') := Lib.hid fun W hW => HI.out W (below_step hwr hW)
      have g0 := (hXb.cell (p := ⟨w5.heap.size, 0, none⟩) (Nat.lt_succ_self _))
      have g1 := (hXb.cell (p := ⟨w5.heap.size, 1, none⟩) (Nat.lt_succ_self _))
      have g2 := (hXb.cell (p := ⟨w5.heap.size, 2, none⟩) (Nat.lt_succ_self _))
      have g3 := (hXb.cell (p := ⟨w5.heap.size, 3, none⟩) (Nat.lt_succ_self _))
      have g4 := (hXb.cell (p := ⟨w5.heap.size, 4, none⟩) (Nat.lt_succ_self _))
      have g5 := (hXb.cell (p := ⟨w5.heap.size, 5, none⟩) (Nat.lt_succ_self _))
      simp [cell_alloc_if] at g0 g1 g2 g3 g4 g5
      go_wp2_with (first
        | (go_at_call 19; (with_reducible refine (HIw.out _ (by (repeat' (first | (with_reducible exact Below.refl _ _) | (with_reducible assumption) | (with_reducible refine Below.setCell ?_ ?_ _) | (with_reducible refine Below.alloc ?_ ?_ _) | (with_reducible refine Below.drew ?_) | (with_reducible refine below_drewN ?_ _) | (with_reducible refine below_next ?_ (by with_reducible assumption)) | omega | (dsimp only; omega) | (simp only [World.size_alloc, World.size_setCell, World.size_drew, World.heap_drewN]; omega))))).mono ?_); rintro e w7 ⟨rfl, hb7⟩; obtain ⟨hc7, hf7, hz7⟩ := cif hb7; (try simp only [World.size_alloc, World.size_setCell, World.size_drew, World.heap_drewN] at hz7))
        | (go_at_call 61; (with_reducible refine (HJ.out _ (by (repeat' (first | (with_reducible exact Below.refl _ _) | (with_reducible assumption) | (with_reducible refine Below.setCell ?_ ?_ _) | (with_reducible refine Below.alloc ?_ ?_ _) | (with_reducible refine Below.drew ?_) | (with_reducible refine below_drewN ?_ _) | (with_reducible refine below_next ?_ (by with_reducible assumption)) | omega | (dsimp only; omega) | (simp only [World.size_alloc, World.size_setCell, World.size_drew, World.heap_drewN]; omega))))).mono ?_); rintro e w8 ⟨rfl, hb8⟩; obtain ⟨hc8, hf8, hz8'⟩ := cif hb8; (try simp only [World.size_alloc, World.size_setCell, World.size_drew, World.heap_drewN] at hz8')))
      ((try simp only [Exit.inBlock, Exit.then]); go_light; refine bodyPost_ret (by simp [results, Tryd.results19, go_sem, *, ↓IntWalk.iteOmega]; try rfl) rfl ?_)
      refine ⟨ret_str ?_, by (repeat' (first | (with_reducible exact Below.refl _ _) | (with_reducible assumption) | (with_reducible refine Below.setCell ?_ ?_ _) | (with_reducible refine Below.alloc ?_ ?_ _) | (with_reducible refine Below.drew ?_) | (with_reducible refine below_drewN ?_ _) | (with_reducible refine below_next ?_ (by with_reducible assumption)) | omega | (dsimp only; omega) | (simp only [World.size_alloc, World.size_setCell, World.size_drew, World.heap_drewN]; omega)))⟩
      rw [HX.out, HY.out, ← ba_app, ← ba_app, ← ba_app]

mutual
theorem text_any : ∀ (t : Ty), ErOk (er t) → (text (er t)).length ≤ 1099511627776 → TextAt 19 t
  | .none, _, hl => fun w h _ => text_plain _ w h rfl hl
  | .void, _, hl => fun w h _ => text_plain _ w h rfl hl
  | .flt, _, hl => fun w h _ => text_plain _ w h rfl hl
  | .num s u, _, hl => fun w h _ => text_plain _ w h rfl hl
  | .rcd u n, _, hl => fun w h _ => text_plain _ w h rfl hl
  | .ptr sv t, hok, hl => fun w h ht => by
    simp only [er, ErOk] at hok
    exact text_ptr sv t w h ht hl (text_any t hok (by simp only [er, text, List.length_append] at hl; omega))
  | .arr sv d t, hok, hl => fun w h ht => by
    simp only [er, ErOk] at hok
    exact text_arr sv d t w h hok.1 ht hl (text_any t hok.2 (by simp only [er, text, List.length_append] at hl; omega))
  | .fn sv r ps, hok, hl => fun w h ht => by
    simp only [er, ErOk] at hok
    have hl2 : (text (er r)).length ≤ 1099511627776 ∧ (commas (texts (ers ps))).length ≤ 1099511627776 := by simp only [er, text, List.length_append] at hl; omega
    exact text_fn sv r ps w h (by simpa [ers_map] using hok.2.2) ht hl (text_any r hok.1 hl2.1) (text_all ps hok.2.1 (fun x hx => Nat.le_trans (commas_part _ _ (by rw [texts_map, ers_map]; exact List.mem_map_of_mem (List.mem_map_of_mem hx))) hl2.2))
theorem text_all : ∀ (l : List Ty), ErsOk (ers l) → (∀ x ∈ l, (text (er x)).length ≤ 1099511627776) → ∀ x ∈ l, TextAt 19 x
  | [], _, _, x, hx => by simp at hx
  | t :: l, hok, hl, x, hx => by
    simp only [ers, ErsOk] at hok
    rcases List.mem_cons.1 hx with hx | hx
    · rw [hx]; exact text_any t hok.1 (hl t (List.mem_cons_self ..))
    · exact text_all l hok.2 (fun y hy => hl y (List.mem_cons_of_mem _ hy)) x hx
end
end Go.Proofs.YteeojgepgjndgaaDoor
