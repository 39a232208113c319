/-
  The program's memory: a pointer's pieces, Load.
-/
import Derived.Test.YtddipbpllogbaaaMemW2
namespace Go.Proofs.Ytddipbpllogbaaa
open Go.RowKit
set_option linter.unusedVariables false
set_option linter.unusedSimpArgs false

/-- Do a pointer's pieces stand at a place? -/
def pieces (cells : List Int) (off : Nat) : Prop := ∀ i : Nat, i < 8 → cells[off + i]? = some (512 + (i : Int))

section
variable {w : World} {B : Bk}
theorem BkAt.cell (h : BkAt w B) {i : Nat} {x : Int} (hx : B.cells[i]? = some x) : w.cell? ⟨B.g, i, none⟩ = some (.int .u16 x) := by
  rw [Lib.cell_of_heap h.row]
  simp [hx]
theorem BkAt.look (h : BkAt w B) (k : Int) (hk : I64 k) :
    (Instr.lookup 61 (.map (some B.pb)) (.int .i64 k) true).run Try.prog w = .ok (.tuple #[valO vVal (.agg #[.int .i64 0, .int .u64 0, .int .i64 0]) (B.ptr k), .bool (B.ptr k).isSome]) w :=
  MapF.look_ok vE Try.underlying3 Try.underlying61 zval h.ptrs k (i64wf hk)
end

def ptrV_ (o : Option V) : V := match o with | some v => v | none => ⟨0, 0, 0⟩
theorem valO_v (o : Option V) : valO vVal (.agg #[.int .i64 0, .int .u64 0, .int .i64 0]) o = .agg #[.int .i64 (ptrV_ o).k, .int .u64 (ptrV_ o).b, .int .i64 (ptrV_ o).l] := by cases o <;> rfl

set_option maxRecDepth 100000 in
set_option maxHeartbeats 4000000 in
theorem pointer_yes {w : World} {B : Bk} (h : BkAt w B) (off : Nat) (hoff : off + 8 ≤ B.cells.length) (hlen : B.cells.length ≤ 16777216) (hp : pieces B.cells off) :
    Calls Try.prog 33 #[.pointer (some ⟨B.b, 0, none⟩), .int .i64 off] w fun e w' => e = .returned (.tuple #[.agg #[.int .i64 (ptrV_ (B.ptr off)).k, .int .u64 (ptrV_ (B.ptr off)).b, .int .i64 (ptrV_ (B.ptr off)).l], .bool (B.ptr off).isSome]) ∧ Below w.heap.size w w' := by
  have b0 : w.cell? ⟨B.b, 0, none⟩ = some (.slice (some ⟨B.g, 0, none⟩) B.cells.length B.cells.length) := by rw [Lib.cell_of_heap h.own]; rfl
  have b1 : w.cell? ⟨B.b, 1, none⟩ = some (.map (some B.pb)) := by rw [Lib.cell_of_heap h.own]; rfl
  have hltb := h.lt.1
  have hltg := h.lt.2.1
  have hrun := (h.next ((Below.refl _ _).alloc (Nat.le_refl _) (.cells #[.int .i64 0, .int .u64 0, .int .i64 0] 32))).look off (by unfold I64; omega)
  rw [valO_v] at hrun
  have HC : Hid (∀ i, i < 8 → w.cell? ⟨B.g, off + i, none⟩ = some (.int .u16 (512 + i))) := Lib.hid fun i hi => h.cell (hp i hi)
  clear h hp
  have hA1 := cell_alloc_if
  have hA2 := frozen_alloc_if
  have hA3 := cell_set_if
  go_enter Try.func33, Try.ntmps33
  go_wp2
  go_loop [6, 9] (fun u i => ∃ k : Nat, k ≤ 8 ∧ i = .int .i64 k) (fun _ i => 8 - (intOf i).toNat)
  case atStart => exact ⟨0, by omega, rfl⟩
  case round =>
    obtain ⟨k, hk, rfl⟩ := hrel
    by_cases hlt : k < 8
    · have hc := HC.out k hlt
      have hw : wrap64 ((off : Int) + (k : Int)) = ((off + k : Nat) : Int) := by unfold wrap64; omega
      go_wp2
      exact ⟨⟨k + 1, by omega, by go_num⟩, by simp [intOf]; omega⟩
    · have hkn : k = 8 := by omega
      subst hkn
      go_wp2
      ((try simp only [Exit.inBlock, Exit.then]); go_light; refine bodyPost_ret (by simp [results, Try.results33, go_sem, *, ↓IntWalk.iteOmega]; try rfl) rfl ?_)
      exact ⟨rfl, by (repeat' (first | (with_reducible exact Below.refl _ _) | (with_reducible assumption) | (with_reducible refine Below.setCell ?_ ?_ _) | (with_reducible refine Below.alloc ?_ ?_ _) | (with_reducible refine Below.drew ?_) | (with_reducible refine below_drewN ?_ _) | (with_reducible refine below_next ?_ (by with_reducible assumption)) | omega | (dsimp only; omega) | (simp only [World.size_alloc, World.size_setCell, World.size_drew, World.heap_drewN]; omega)))⟩

set_option maxRecDepth 100000 in
set_option maxHeartbeats 4000000 in
theorem pointer_no {w : World} {B : Bk} (h : BkAt w B) (off : Nat) (hoff : off + 8 ≤ B.cells.length) (hlen : B.cells.length ≤ 16777216) (hp : ¬ pieces B.cells off) :
    Calls Try.prog 33 #[.pointer (some ⟨B.b, 0, none⟩), .int .i64 off] w fun e w' => e = .returned (.tuple #[.agg #[.int .i64 0, .int .u64 0, .int .i64 0], .bool false]) ∧ Below w.heap.size w w' := by
  have b0 : w.cell? ⟨B.b, 0, none⟩ = some (.slice (some ⟨B.g, 0, none⟩) B.cells.length B.cells.length) := by rw [Lib.cell_of_heap h.own]; rfl
  have hltb := h.lt.1
  have hltg := h.lt.2.1
  have H := Lib.hid h
  have HP := Lib.hid hp
  clear h hp
  have hA1 := cell_alloc_if
  have hA2 := frozen_alloc_if
  have hA3 := cell_set_if
  go_enter Try.func33, Try.ntmps33
  go_wp2
  go_loop [6, 9] (fun u i => ∃ k : Nat, k ≤ 8 ∧ i = .int .i64 k ∧ Hid (∀ i : Nat, i < k → B.cells[off + i]? = some (512 + (i : Int)))) (fun _ i => 8 - (intOf i).toNat)
  case atStart => exact ⟨0, by omega, rfl, Lib.hid fun i hi => by omega⟩
  case round =>
    obtain ⟨k, hk, rfl, HK⟩ := hrel
    by_cases hlt : k < 8
    · obtain ⟨x, hx⟩ : ∃ x, B.cells[off + k]? = some x := ⟨_, List.getElem?_eq_getElem (by omega)⟩
      have hc := H.out.cell hx
      have HX := Lib.hid hx
      clear hx
      have hw : wrap64 ((off : Int) + (k : Int)) = ((off + k : Nat) : Int) := by unfold wrap64; omega
      by_cases hxx : x = 512 + k
      · have G : Hid (∀ i : Nat, i < k + 1 → B.cells[off + i]? = some (512 + (i : Int))) := Lib.hid fun i hi => by
          rcases Nat.lt_or_ge i k with h1 | h1
          · exact HK.out i h1
          · have : i = k := by omega
            subst this; rw [HX.out, hxx]
        subst hxx
        go_wp2
        exact ⟨⟨k + 1, by omega, by go_num, G⟩, by simp [intOf]; omega⟩
      · have hk8 : (k : Int) < 8 := by omega
        have hne : (x != 512 + (k : Int)) = true := by simpa using hxx
        go_wp2
        ((try simp only [Exit.inBlock, Exit.then]); go_light; refine bodyPost_ret (by simp [results, Try.results33, go_sem, *, ↓IntWalk.iteOmega]; try rfl) rfl ?_)
        exact ⟨rfl, by (repeat' (first | (with_reducible exact Below.refl _ _) | (with_reducible assumption) | (with_reducible refine Below.setCell ?_ ?_ _) | (with_reducible refine Below.alloc ?_ ?_ _) | (with_reducible refine Below.drew ?_) | (with_reducible refine below_drewN ?_ _) | (with_reducible refine below_next ?_ (by with_reducible assumption)) | omega | (dsimp only; omega) | (simp only [World.size_alloc, World.size_setCell, World.size_drew, World.heap_drewN]; omega)))⟩
    · have hkn : k = 8 := by omega
      subst hkn
      exact absurd HK.out HP.out

/-- One byte more of a number. -/
def orS (x y : Int) (k : Nat) : Int := bits BinOp.or IntKind.u64 x (IntKind.u64.wrap (IntKind.u64.wrap y * 2 ^ (8 * k)))
/-- The number that lies in the first k bytes. -/
def bitsN (cells : List Int) (off : Nat) : Nat → Int
  | 0 => 0
  | k + 1 => orS (bitsN cells off k) (cells.getD (off + k) 0) k
/-- A number as a chunk's value. -/
def valOf (chunk x : Int) : V :=
  if chunk = 1 then ⟨1, (wrap32 (IntKind.i8.wrap x)) % 4294967296, 0⟩ else if chunk = 3 then ⟨1, (wrap32 (IntKind.i16.wrap x)) % 4294967296, 0⟩
  else if chunk = 6 then ⟨2, (wrap64 x) % 18446744073709551616, 0⟩ else if chunk = 7 then ⟨3, x, 0⟩ else ⟨1, (wrap32 (x % 4294967296)) % 4294967296, 0⟩
/-- Does each of the n bytes hold a byte? -/
def whole (cells : List Int) (off : Nat) (n : Int) : Prop := ∀ i : Nat, i < n.toNat → cells.getD (off + i) 0 < 256
instance (cells : List Int) (off : Nat) (n : Int) : Decidable (whole cells off n) := inferInstanceAs (Decidable (∀ i : Nat, i < n.toNat → _))
instance (cells : List Int) (off : Nat) : Decidable (pieces cells off) := inferInstanceAs (Decidable (∀ i : Nat, i < 8 → _))

/-- What is loaded that is no pointer. -/
def loadB (B : Bk) (chunk n : Int) (off : Nat) : V := if whole B.cells off n then valOf chunk (bitsN B.cells off n.toNat) else ⟨0, 0, 0⟩

set_option maxRecDepth 100000 in
set_option maxHeartbeats 4000000 in
theorem load_plain {w : World} {base pm bm nb last cap : Nat} {M : Int → Option Bk} (h : MemS w base pm bm nb last cap M) (chunk k b l n : Int) (hl : I64 l) (B : Bk) (off : Nat) (hf : findA M chunk ⟨k, b, l⟩ = some (B, off)) (hc6 : chunk ≠ 6) (hM : M l = some B) (hn : sizeV chunk = n) (hn1 : n = 1 ∨ n = 2 ∨ n = 4 ∨ n = 8) (hoff : (off : Int) + n ≤ B.cells.length) :
    Calls Try.prog 15 #[.pointer (some ⟨pm, 0, none⟩), .int .i64 chunk, .agg #[.int .i64 k, .int .u64 b, .int .i64 l]] w fun e w' => e = .returned (.tuple #[.agg #[.int .i64 (loadB B chunk n off).k, .int .u64 (loadB B chunk n off).b, .int .i64 (loadB B chunk n off).l], .bool true]) ∧ Below w.heap.size w w' := by
  have hfv : findV M chunk ⟨k, b, l⟩ = .tuple #[.pointer (some ⟨B.b, 0, none⟩), .int .i64 off] := by unfold findV; rw [hf]
  have HF := Lib.hid (fun W (hW : Ext w W) => find_any (h.next (Ext.of hW)) chunk k b l hl)
  rw [hfv] at HF
  have HS := Lib.hid (size_any chunk)
  rw [hn] at HS
  have hB := h.at_ l B hM
  have b0 : w.cell? ⟨B.b, 0, none⟩ = some (.slice (some ⟨B.g, 0, none⟩) B.cells.length B.cells.length) := by rw [Lib.cell_of_heap hB.own]; rfl
  have hltb := hB.lt.1
  have hltg := hB.lt.2.1
  have hlen := (h.keys l B hM).2.2.2.2.2.2.1
  have H := Lib.hid hB
  have d6 : (chunk == 6) = false := by simpa using hc6
  have HP : Hid True := Lib.hid trivial
  clear h hB hf hM hfv
  have hA1 := cell_alloc_if
  have hA2 := frozen_alloc_if
  have hA3 := cell_set_if
  go_enter Try.func15, Try.ntmps15
  go_wp2_with (first
    | (go_at_call 32; (with_reducible refine (HF.out _ (by unfold Ext; (repeat' (first | (with_reducible exact Below.refl _ _) | (with_reducible assumption) | (with_reducible refine Below.setCell ?_ ?_ _) | (with_reducible refine Below.alloc ?_ ?_ _) | (with_reducible refine Below.drew ?_) | (with_reducible refine below_drewN ?_ _) | (with_reducible refine below_next ?_ (by with_reducible assumption)) | omega | (dsimp only; omega) | (simp only [World.size_alloc, World.size_setCell, World.size_drew, World.heap_drewN]; omega))))).mono ?_); rintro e w' ⟨rfl, hbl⟩; obtain ⟨hc, hf, hz⟩ := cif hbl; (try simp only [World.size_alloc, World.size_setCell, World.size_drew, World.heap_drewN] at hz))
    | (go_at_call 33; (with_reducible refine (HP.out _ (by unfold Ext; (repeat' (first | (with_reducible exact Below.refl _ _) | (with_reducible assumption) | (with_reducible refine Below.setCell ?_ ?_ _) | (with_reducible refine Below.alloc ?_ ?_ _) | (with_reducible refine Below.drew ?_) | (with_reducible refine below_drewN ?_ _) | (with_reducible refine below_next ?_ (by with_reducible assumption)) | omega | (dsimp only; omega) | (simp only [World.size_alloc, World.size_setCell, World.size_drew, World.heap_drewN]; omega))))).mono ?_); rintro e w' ⟨rfl, hbl⟩; obtain ⟨hc, hf, hz⟩ := cif hbl; (try simp only [World.size_alloc, World.size_setCell, World.size_drew, World.heap_drewN] at hz))
    | (go_at_call 24; (with_reducible refine (HS.out _).mono ?_); rintro e w2 ⟨rfl, rfl⟩)
    | (go_at_call 25; (with_reducible refine (intOf_any _ _).mono ?_); rintro e w' ⟨rfl, hbl⟩; obtain ⟨hc, hf, hz⟩ := cif hbl; (try simp only [World.size_alloc, World.size_setCell, World.size_drew, World.heap_drewN] at hz))
    | (go_at_call 27; (with_reducible refine (longOf_any _ _).mono ?_); rintro e w' ⟨rfl, hbl⟩; obtain ⟨hc, hf, hz⟩ := cif hbl; (try simp only [World.size_alloc, World.size_setCell, World.size_drew, World.heap_drewN] at hz))
    | (go_at_call 28; (with_reducible refine (doubleOf_any _ _).mono ?_); rintro e w' ⟨rfl, hbl⟩; obtain ⟨hc, hf, hz⟩ := cif hbl; (try simp only [World.size_alloc, World.size_setCell, World.size_drew, World.heap_drewN] at hz)))
  go_loop [12, 13, 14, 37] (fun a u c i => ∃ (k : Nat), k ≤ n ∧ i = .int .i64 k ∧ a = .int .u64 (bitsN B.cells off k) ∧ Hid (∀ i : Nat, i < k → B.cells.getD (off + i) 0 < 256)) (fun _ _ _ i => n.toNat - (intOf i).toNat)
  case atStart => exact ⟨0, by omega, rfl, rfl, Lib.hid fun i hi => by omega⟩
  case round =>
    obtain ⟨k, hk, rfl, rfl, HK⟩ := hrel
    by_cases hlt : k < n
    · obtain ⟨y, hy⟩ : ∃ y, B.cells[off + k]? = some y := ⟨_, List.getElem?_eq_getElem (by omega)⟩
      have hc := H.out.cell hy
      have hyd : B.cells.getD (off + k) 0 = y := by rw [List.getD_eq_getElem?_getD, hy]; rfl
      have hw : wrap64 ((off : Int) + (k : Int)) = ((off + k : Nat) : Int) := by unfold wrap64; omega
      have hstep : bitsN B.cells off (k + 1) = bits BinOp.or IntKind.u64 (bitsN B.cells off k) (IntKind.u64.wrap (IntKind.u64.wrap y * 2 ^ (8 * k))) := by rw [← hyd]; rfl
      have HST := Lib.hid hstep
      have HYD := Lib.hid hyd
      clear hstep hyd hy
      generalize hx : bitsN B.cells off k = x at *
      by_cases c256 : y < 256
      · have d256 : decide (256 ≤ y) = false := by simpa using c256
        have G : Hid (∀ i : Nat, i < k + 1 → B.cells.getD (off + i) 0 < 256) := Lib.hid fun i hi => by
          rcases Nat.lt_or_ge i k with h1 | h1
          · exact HK.out i h1
          · have : i = k := by omega
            subst this; rw [HYD.out]; exact c256
        go_wp2
        exact ⟨⟨k + 1, by omega, by go_num, by rw [HST.out], G⟩, by simp [intOf]; omega⟩
      · have d256 : decide (256 ≤ y) = true := by simpa using c256
        have G : Hid (¬ whole B.cells off n) := Lib.hid fun g => c256 (by have := g k (by omega); rw [HYD.out] at this; exact this)
        go_wp2
        ((try simp only [Exit.inBlock, Exit.then]); go_light; refine bodyPost_ret (by simp [results, Try.results15, go_sem, *, ↓IntWalk.iteOmega]; try rfl) rfl ?_)
        exact ⟨by unfold loadB; rw [if_neg G.out], by (repeat' (first | (with_reducible exact Below.refl _ _) | (with_reducible assumption) | (with_reducible refine Below.setCell ?_ ?_ _) | (with_reducible refine Below.alloc ?_ ?_ _) | (with_reducible refine Below.drew ?_) | (with_reducible refine below_drewN ?_ _) | (with_reducible refine below_next ?_ (by with_reducible assumption)) | omega | (dsimp only; omega) | (simp only [World.size_alloc, World.size_setCell, World.size_drew, World.heap_drewN]; omega)))⟩
    · have hkn : (k : Int) = n := by omega
      have G : Hid (whole B.cells off n) := Lib.hid fun i hi => HK.out i (by omega)
      have e1 : decide ((k : Int) < n) = false := by simpa using hlt
      have e2 : n.toNat = k := by omega
      clear HK
      have HX : Hid (∀ c, loadB B c n off = valOf c (bitsN B.cells off k)) := Lib.hid (fun c => by unfold loadB; rw [if_pos G.out, e2])
      generalize hx : bitsN B.cells off k = x at *
      go_wp2_with (first
    | (go_at_call 32; (with_reducible refine (HF.out _ (by unfold Ext; (repeat' (first | (with_reducible exact Below.refl _ _) | (with_reducible assumption) | (with_reducible refine Below.setCell ?_ ?_ _) | (with_reducible refine Below.alloc ?_ ?_ _) | (with_reducible refine Below.drew ?_) | (with_reducible refine below_drewN ?_ _) | (with_reducible refine below_next ?_ (by with_reducible assumption)) | omega | (dsimp only; omega) | (simp only [World.size_alloc, World.size_setCell, World.size_drew, World.heap_drewN]; omega))))).mono ?_); rintro e w' ⟨rfl, hbl⟩; obtain ⟨hc, hf, hz⟩ := cif hbl; (try simp only [World.size_alloc, World.size_setCell, World.size_drew, World.heap_drewN] at hz))
    | (go_at_call 33; (with_reducible refine (HP.out _ (by unfold Ext; (repeat' (first | (with_reducible exact Below.refl _ _) | (with_reducible assumption) | (with_reducible refine Below.setCell ?_ ?_ _) | (with_reducible refine Below.alloc ?_ ?_ _) | (with_reducible refine Below.drew ?_) | (with_reducible refine below_drewN ?_ _) | (with_reducible refine below_next ?_ (by with_reducible assumption)) | omega | (dsimp only; omega) | (simp only [World.size_alloc, World.size_setCell, World.size_drew, World.heap_drewN]; omega))))).mono ?_); rintro e w' ⟨rfl, hbl⟩; obtain ⟨hc, hf, hz⟩ := cif hbl; (try simp only [World.size_alloc, World.size_setCell, World.size_drew, World.heap_drewN] at hz))
    | (go_at_call 24; (with_reducible refine (HS.out _).mono ?_); rintro e w2 ⟨rfl, rfl⟩)
    | (go_at_call 25; (with_reducible refine (intOf_any _ _).mono ?_); rintro e w' ⟨rfl, hbl⟩; obtain ⟨hc, hf, hz⟩ := cif hbl; (try simp only [World.size_alloc, World.size_setCell, World.size_drew, World.heap_drewN] at hz))
    | (go_at_call 27; (with_reducible refine (longOf_any _ _).mono ?_); rintro e w' ⟨rfl, hbl⟩; obtain ⟨hc, hf, hz⟩ := cif hbl; (try simp only [World.size_alloc, World.size_setCell, World.size_drew, World.heap_drewN] at hz))
    | (go_at_call 28; (with_reducible refine (doubleOf_any _ _).mono ?_); rintro e w' ⟨rfl, hbl⟩; obtain ⟨hc, hf, hz⟩ := cif hbl; (try simp only [World.size_alloc, World.size_setCell, World.size_drew, World.heap_drewN] at hz)))
      all_goals (((try simp only [Exit.inBlock, Exit.then]); go_light; refine bodyPost_ret (by simp [results, Try.results15, go_sem, *, ↓IntWalk.iteOmega]; try rfl) rfl ?_); refine ⟨?_, by (repeat' (first | (with_reducible exact Below.refl _ _) | (with_reducible assumption) | (with_reducible refine Below.setCell ?_ ?_ _) | (with_reducible refine Below.alloc ?_ ?_ _) | (with_reducible refine Below.drew ?_) | (with_reducible refine below_drewN ?_ _) | (with_reducible refine below_next ?_ (by with_reducible assumption)) | omega | (dsimp only; omega) | (simp only [World.size_alloc, World.size_setCell, World.size_drew, World.heap_drewN]; omega)))⟩; rw [HX.out]; go_light; simp at *; simp [valOf, *])

set_option maxRecDepth 100000 in
set_option maxHeartbeats 4000000 in
theorem load_six {w : World} {base pm bm nb last cap : Nat} {M : Int → Option Bk} (h : MemS w base pm bm nb last cap M) (chunk k b l n : Int) (hl : I64 l) (B : Bk) (off : Nat) (hf : findA M chunk ⟨k, b, l⟩ = some (B, off)) (hc6 : chunk = 6) (hM : M l = some B) (hn : sizeV chunk = n) (hn1 : n = 8) (hoff : (off : Int) + n ≤ B.cells.length)
    (p : V) (HP : Hid (∀ W, Ext w W → Calls Try.prog 33 #[.pointer (some ⟨B.b, 0, none⟩), .int .i64 off] W fun e w' => e = .returned (.tuple #[.agg #[.int .i64 p.k, .int .u64 p.b, .int .i64 p.l], .bool false]) ∧ Below W.heap.size W w')) :
    Calls Try.prog 15 #[.pointer (some ⟨pm, 0, none⟩), .int .i64 chunk, .agg #[.int .i64 k, .int .u64 b, .int .i64 l]] w fun e w' => e = .returned (.tuple #[.agg #[.int .i64 (loadB B chunk n off).k, .int .u64 (loadB B chunk n off).b, .int .i64 (loadB B chunk n off).l], .bool true]) ∧ Below w.heap.size w w' := by
  have hfv : findV M chunk ⟨k, b, l⟩ = .tuple #[.pointer (some ⟨B.b, 0, none⟩), .int .i64 off] := by unfold findV; rw [hf]
  have HF := Lib.hid (fun W (hW : Ext w W) => find_any (h.next (Ext.of hW)) chunk k b l hl)
  rw [hfv] at HF
  have HS := Lib.hid (size_any chunk)
  rw [hn] at HS
  have hB := h.at_ l B hM
  have b0 : w.cell? ⟨B.b, 0, none⟩ = some (.slice (some ⟨B.g, 0, none⟩) B.cells.length B.cells.length) := by rw [Lib.cell_of_heap hB.own]; rfl
  have hltb := hB.lt.1
  have hltg := hB.lt.2.1
  have hlen := (h.keys l B hM).2.2.2.2.2.2.1
  have H := Lib.hid hB
  have hn0 : 0 ≤ n ∧ n ≤ 8 := by omega
  subst hc6
  clear h hB hf hM hfv hn hn1
  have hA1 := cell_alloc_if
  have hA2 := frozen_alloc_if
  have hA3 := cell_set_if
  go_enter Try.func15, Try.ntmps15
  go_wp2_with (first
    | (go_at_call 32; (with_reducible refine (HF.out _ (by unfold Ext; (repeat' (first | (with_reducible exact Below.refl _ _) | (with_reducible assumption) | (with_reducible refine Below.setCell ?_ ?_ _) | (with_reducible refine Below.alloc ?_ ?_ _) | (with_reducible refine Below.drew ?_) | (with_reducible refine below_drewN ?_ _) | (with_reducible refine below_next ?_ (by with_reducible assumption)) | omega | (dsimp only; omega) | (simp only [World.size_alloc, World.size_setCell, World.size_drew, World.heap_drewN]; omega))))).mono ?_); rintro e w' ⟨rfl, hbl⟩; obtain ⟨hc, hf, hz⟩ := cif hbl; (try simp only [World.size_alloc, World.size_setCell, World.size_drew, World.heap_drewN] at hz))
    | (go_at_call 33; (with_reducible refine (HP.out _ (by unfold Ext; (repeat' (first | (with_reducible exact Below.refl _ _) | (with_reducible assumption) | (with_reducible refine Below.setCell ?_ ?_ _) | (with_reducible refine Below.alloc ?_ ?_ _) | (with_reducible refine Below.drew ?_) | (with_reducible refine below_drewN ?_ _) | (with_reducible refine below_next ?_ (by with_reducible assumption)) | omega | (dsimp only; omega) | (simp only [World.size_alloc, World.size_setCell, World.size_drew, World.heap_drewN]; omega))))).mono ?_); rintro e w' ⟨rfl, hbl⟩; obtain ⟨hc, hf, hz⟩ := cif hbl; (try simp only [World.size_alloc, World.size_setCell, World.size_drew, World.heap_drewN] at hz))
    | (go_at_call 24; (with_reducible refine (HS.out _).mono ?_); rintro e w2 ⟨rfl, rfl⟩)
    | (go_at_call 25; (with_reducible refine (intOf_any _ _).mono ?_); rintro e w' ⟨rfl, hbl⟩; obtain ⟨hc, hf, hz⟩ := cif hbl; (try simp only [World.size_alloc, World.size_setCell, World.size_drew, World.heap_drewN] at hz))
    | (go_at_call 27; (with_reducible refine (longOf_any _ _).mono ?_); rintro e w' ⟨rfl, hbl⟩; obtain ⟨hc, hf, hz⟩ := cif hbl; (try simp only [World.size_alloc, World.size_setCell, World.size_drew, World.heap_drewN] at hz))
    | (go_at_call 28; (with_reducible refine (doubleOf_any _ _).mono ?_); rintro e w' ⟨rfl, hbl⟩; obtain ⟨hc, hf, hz⟩ := cif hbl; (try simp only [World.size_alloc, World.size_setCell, World.size_drew, World.heap_drewN] at hz)))
  go_loop [12, 13, 14, 37] (fun a u c i => ∃ (k : Nat), k ≤ n ∧ i = .int .i64 k ∧ a = .int .u64 (bitsN B.cells off k) ∧ Hid (∀ i : Nat, i < k → B.cells.getD (off + i) 0 < 256)) (fun _ _ _ i => n.toNat - (intOf i).toNat)
  case atStart => exact ⟨0, by omega, rfl, rfl, Lib.hid fun i hi => by omega⟩
  case round =>
    obtain ⟨k, hk, rfl, rfl, HK⟩ := hrel
    by_cases hlt : k < n
    · obtain ⟨y, hy⟩ : ∃ y, B.cells[off + k]? = some y := ⟨_, List.getElem?_eq_getElem (by omega)⟩
      have hc := H.out.cell hy
      have hyd : B.cells.getD (off + k) 0 = y := by rw [List.getD_eq_getElem?_getD, hy]; rfl
      have hw : wrap64 ((off : Int) + (k : Int)) = ((off + k : Nat) : Int) := by unfold wrap64; omega
      have hstep : bitsN B.cells off (k + 1) = bits BinOp.or IntKind.u64 (bitsN B.cells off k) (IntKind.u64.wrap (IntKind.u64.wrap y * 2 ^ (8 * k))) := by rw [← hyd]; rfl
      have HST := Lib.hid hstep
      have HYD := Lib.hid hyd
      clear hstep hyd hy
      generalize hx : bitsN B.cells off k = x at *
      by_cases c256 : y < 256
      · have d256 : decide (256 ≤ y) = false := by simpa using c256
        have G : Hid (∀ i : Nat, i < k + 1 → B.cells.getD (off + i) 0 < 256) := Lib.hid fun i hi => by
          rcases Nat.lt_or_ge i k with h1 | h1
          · exact HK.out i h1
          · have : i = k := by omega
            subst this; rw [HYD.out]; exact c256
        go_wp2
        exact ⟨⟨k + 1, by omega, by go_num, by rw [HST.out], G⟩, by simp [intOf]; omega⟩
      · have d256 : decide (256 ≤ y) = true := by simpa using c256
        have G : Hid (¬ whole B.cells off n) := Lib.hid fun g => c256 (by have := g k (by omega); rw [HYD.out] at this; exact this)
        go_wp2
        ((try simp only [Exit.inBlock, Exit.then]); go_light; refine bodyPost_ret (by simp [results, Try.results15, go_sem, *, ↓IntWalk.iteOmega]; try rfl) rfl ?_)
        exact ⟨by unfold loadB; rw [if_neg G.out], by (repeat' (first | (with_reducible exact Below.refl _ _) | (with_reducible assumption) | (with_reducible refine Below.setCell ?_ ?_ _) | (with_reducible refine Below.alloc ?_ ?_ _) | (with_reducible refine Below.drew ?_) | (with_reducible refine below_drewN ?_ _) | (with_reducible refine below_next ?_ (by with_reducible assumption)) | omega | (dsimp only; omega) | (simp only [World.size_alloc, World.size_setCell, World.size_drew, World.heap_drewN]; omega)))⟩
    · have hkn : (k : Int) = n := by omega
      have G : Hid (whole B.cells off n) := Lib.hid fun i hi => HK.out i (by omega)
      have e1 : decide ((k : Int) < n) = false := by simpa using hlt
      have e2 : n.toNat = k := by omega
      clear HK
      have HX : Hid (∀ c, loadB B c n off = valOf c (bitsN B.cells off k)) := Lib.hid (fun c => by unfold loadB; rw [if_pos G.out, e2])
      generalize hx : bitsN B.cells off k = x at *
      go_wp2_with (first
    | (go_at_call 32; (with_reducible refine (HF.out _ (by unfold Ext; (repeat' (first | (with_reducible exact Below.refl _ _) | (with_reducible assumption) | (with_reducible refine Below.setCell ?_ ?_ _) | (with_reducible refine Below.alloc ?_ ?_ _) | (with_reducible refine Below.drew ?_) | (with_reducible refine below_drewN ?_ _) | (with_reducible refine below_next ?_ (by with_reducible assumption)) | omega | (dsimp only; omega) | (simp only [World.size_alloc, World.size_setCell, World.size_drew, World.heap_drewN]; omega))))).mono ?_); rintro e w' ⟨rfl, hbl⟩; obtain ⟨hc, hf, hz⟩ := cif hbl; (try simp only [World.size_alloc, World.size_setCell, World.size_drew, World.heap_drewN] at hz))
    | (go_at_call 33; (with_reducible refine (HP.out _ (by unfold Ext; (repeat' (first | (with_reducible exact Below.refl _ _) | (with_reducible assumption) | (with_reducible refine Below.setCell ?_ ?_ _) | (with_reducible refine Below.alloc ?_ ?_ _) | (with_reducible refine Below.drew ?_) | (with_reducible refine below_drewN ?_ _) | (with_reducible refine below_next ?_ (by with_reducible assumption)) | omega | (dsimp only; omega) | (simp only [World.size_alloc, World.size_setCell, World.size_drew, World.heap_drewN]; omega))))).mono ?_); rintro e w' ⟨rfl, hbl⟩; obtain ⟨hc, hf, hz⟩ := cif hbl; (try simp only [World.size_alloc, World.size_setCell, World.size_drew, World.heap_drewN] at hz))
    | (go_at_call 24; (with_reducible refine (HS.out _).mono ?_); rintro e w2 ⟨rfl, rfl⟩)
    | (go_at_call 25; (with_reducible refine (intOf_any _ _).mono ?_); rintro e w' ⟨rfl, hbl⟩; obtain ⟨hc, hf, hz⟩ := cif hbl; (try simp only [World.size_alloc, World.size_setCell, World.size_drew, World.heap_drewN] at hz))
    | (go_at_call 27; (with_reducible refine (longOf_any _ _).mono ?_); rintro e w' ⟨rfl, hbl⟩; obtain ⟨hc, hf, hz⟩ := cif hbl; (try simp only [World.size_alloc, World.size_setCell, World.size_drew, World.heap_drewN] at hz))
    | (go_at_call 28; (with_reducible refine (doubleOf_any _ _).mono ?_); rintro e w' ⟨rfl, hbl⟩; obtain ⟨hc, hf, hz⟩ := cif hbl; (try simp only [World.size_alloc, World.size_setCell, World.size_drew, World.heap_drewN] at hz)))
      all_goals (((try simp only [Exit.inBlock, Exit.then]); go_light; refine bodyPost_ret (by simp [results, Try.results15, go_sem, *, ↓IntWalk.iteOmega]; try rfl) rfl ?_); refine ⟨?_, by (repeat' (first | (with_reducible exact Below.refl _ _) | (with_reducible assumption) | (with_reducible refine Below.setCell ?_ ?_ _) | (with_reducible refine Below.alloc ?_ ?_ _) | (with_reducible refine Below.drew ?_) | (with_reducible refine below_drewN ?_ _) | (with_reducible refine below_next ?_ (by with_reducible assumption)) | omega | (dsimp only; omega) | (simp only [World.size_alloc, World.size_setCell, World.size_drew, World.heap_drewN]; omega)))⟩; rw [HX.out]; go_light; simp at *; simp [valOf, *])

set_option maxRecDepth 100000 in
set_option maxHeartbeats 4000000 in
theorem load_ptr {w : World} {base pm bm nb last cap : Nat} {M : Int → Option Bk} (h : MemS w base pm bm nb last cap M) (chunk k b l n : Int) (hl : I64 l) (B : Bk) (off : Nat) (hf : findA M chunk ⟨k, b, l⟩ = some (B, off)) (hc6 : chunk = 6) (hM : M l = some B) (hn : sizeV chunk = n)
    (p : V) (HP : Hid (∀ W, Ext w W → Calls Try.prog 33 #[.pointer (some ⟨B.b, 0, none⟩), .int .i64 off] W fun e w' => e = .returned (.tuple #[.agg #[.int .i64 p.k, .int .u64 p.b, .int .i64 p.l], .bool true]) ∧ Below W.heap.size W w')) :
    Calls Try.prog 15 #[.pointer (some ⟨pm, 0, none⟩), .int .i64 chunk, .agg #[.int .i64 k, .int .u64 b, .int .i64 l]] w fun e w' => e = .returned (.tuple #[.agg #[.int .i64 p.k, .int .u64 p.b, .int .i64 p.l], .bool true]) ∧ Below w.heap.size w w' := by
  have hfv : findV M chunk ⟨k, b, l⟩ = .tuple #[.pointer (some ⟨B.b, 0, none⟩), .int .i64 off] := by unfold findV; rw [hf]
  have HF := Lib.hid (fun W (hW : Ext w W) => find_any (h.next (Ext.of hW)) chunk k b l hl)
  rw [hfv] at HF
  have HS := Lib.hid (size_any chunk)
  rw [hn] at HS
  have hB := h.at_ l B hM
  have b0 : w.cell? ⟨B.b, 0, none⟩ = some (.slice (some ⟨B.g, 0, none⟩) B.cells.length B.cells.length) := by rw [Lib.cell_of_heap hB.own]; rfl
  have hltb := hB.lt.1
  have hltg := hB.lt.2.1
  have hlen := (h.keys l B hM).2.2.2.2.2.2.1
  have H := Lib.hid hB
  subst hc6
  clear h hB hf hM hfv
  have hA1 := cell_alloc_if
  have hA2 := frozen_alloc_if
  have hA3 := cell_set_if
  go_enter Try.func15, Try.ntmps15
  go_wp2_with (first
    | (go_at_call 32; (with_reducible refine (HF.out _ (by unfold Ext; (repeat' (first | (with_reducible exact Below.refl _ _) | (with_reducible assumption) | (with_reducible refine Below.setCell ?_ ?_ _) | (with_reducible refine Below.alloc ?_ ?_ _) | (with_reducible refine Below.drew ?_) | (with_reducible refine below_drewN ?_ _) | (with_reducible refine below_next ?_ (by with_reducible assumption)) | omega | (dsimp only; omega) | (simp only [World.size_alloc, World.size_setCell, World.size_drew, World.heap_drewN]; omega))))).mono ?_); rintro e w' ⟨rfl, hbl⟩; obtain ⟨hc, hf, hz⟩ := cif hbl; (try simp only [World.size_alloc, World.size_setCell, World.size_drew, World.heap_drewN] at hz))
    | (go_at_call 33; (with_reducible refine (HP.out _ (by unfold Ext; (repeat' (first | (with_reducible exact Below.refl _ _) | (with_reducible assumption) | (with_reducible refine Below.setCell ?_ ?_ _) | (with_reducible refine Below.alloc ?_ ?_ _) | (with_reducible refine Below.drew ?_) | (with_reducible refine below_drewN ?_ _) | (with_reducible refine below_next ?_ (by with_reducible assumption)) | omega | (dsimp only; omega) | (simp only [World.size_alloc, World.size_setCell, World.size_drew, World.heap_drewN]; omega))))).mono ?_); rintro e w' ⟨rfl, hbl⟩; obtain ⟨hc, hf, hz⟩ := cif hbl; (try simp only [World.size_alloc, World.size_setCell, World.size_drew, World.heap_drewN] at hz))
    | (go_at_call 24; (with_reducible refine (HS.out _).mono ?_); rintro e w2 ⟨rfl, rfl⟩)
    | (go_at_call 25; (with_reducible refine (intOf_any _ _).mono ?_); rintro e w' ⟨rfl, hbl⟩; obtain ⟨hc, hf, hz⟩ := cif hbl; (try simp only [World.size_alloc, World.size_setCell, World.size_drew, World.heap_drewN] at hz))
    | (go_at_call 27; (with_reducible refine (longOf_any _ _).mono ?_); rintro e w' ⟨rfl, hbl⟩; obtain ⟨hc, hf, hz⟩ := cif hbl; (try simp only [World.size_alloc, World.size_setCell, World.size_drew, World.heap_drewN] at hz))
    | (go_at_call 28; (with_reducible refine (doubleOf_any _ _).mono ?_); rintro e w' ⟨rfl, hbl⟩; obtain ⟨hc, hf, hz⟩ := cif hbl; (try simp only [World.size_alloc, World.size_setCell, World.size_drew, World.heap_drewN] at hz)))
  ((try simp only [Exit.inBlock, Exit.then]); go_light; refine bodyPost_ret (by simp [results, Try.results15, go_sem, *, ↓IntWalk.iteOmega]; try rfl) rfl ?_)
  exact ⟨rfl, by (repeat' (first | (with_reducible exact Below.refl _ _) | (with_reducible assumption) | (with_reducible refine Below.setCell ?_ ?_ _) | (with_reducible refine Below.alloc ?_ ?_ _) | (with_reducible refine Below.drew ?_) | (with_reducible refine below_drewN ?_ _) | (with_reducible refine below_next ?_ (by with_reducible assumption)) | omega | (dsimp only; omega) | (simp only [World.size_alloc, World.size_setCell, World.size_drew, World.heap_drewN]; omega)))⟩

set_option maxRecDepth 100000 in
set_option maxHeartbeats 4000000 in
theorem load_no {w : World} {base pm bm nb last cap : Nat} {M : Int → Option Bk} (h : MemS w base pm bm nb last cap M) (chunk k b l : Int) (hl : I64 l) (hf : findA M chunk ⟨k, b, l⟩ = none) :
    Calls Try.prog 15 #[.pointer (some ⟨pm, 0, none⟩), .int .i64 chunk, .agg #[.int .i64 k, .int .u64 b, .int .i64 l]] w fun e w' => e = .returned (.tuple #[.agg #[.int .i64 0, .int .u64 0, .int .i64 0], .bool false]) ∧ Below w.heap.size w w' := by
  have hfv : findV M chunk ⟨k, b, l⟩ = .tuple #[.pointer none, .int .i64 0] := by unfold findV; rw [hf]
  have HF := Lib.hid (fun W (hW : Ext w W) => find_any (h.next (Ext.of hW)) chunk k b l hl)
  rw [hfv] at HF
  clear h hf hfv
  have hA1 := cell_alloc_if
  have hA2 := frozen_alloc_if
  have hA3 := cell_set_if
  go_enter Try.func15, Try.ntmps15
  go_wp2_with (go_at_call 32; (with_reducible refine (HF.out _ (by unfold Ext; (repeat' (first | (with_reducible exact Below.refl _ _) | (with_reducible assumption) | (with_reducible refine Below.setCell ?_ ?_ _) | (with_reducible refine Below.alloc ?_ ?_ _) | (with_reducible refine Below.drew ?_) | (with_reducible refine below_drewN ?_ _) | (with_reducible refine below_next ?_ (by with_reducible assumption)) | omega | (dsimp only; omega) | (simp only [World.size_alloc, World.size_setCell, World.size_drew, World.heap_drewN]; omega))))).mono ?_); rintro e w' ⟨rfl, hbl⟩; obtain ⟨hc, hf, hz⟩ := cif hbl; (try simp only [World.size_alloc, World.size_setCell, World.size_drew, World.heap_drewN] at hz))
  ((try simp only [Exit.inBlock, Exit.then]); go_light; refine bodyPost_ret (by simp [results, Try.results15, go_sem, *, ↓IntWalk.iteOmega]; try rfl) rfl ?_)
  exact ⟨rfl, by (repeat' (first | (with_reducible exact Below.refl _ _) | (with_reducible assumption) | (with_reducible refine Below.setCell ?_ ?_ _) | (with_reducible refine Below.alloc ?_ ?_ _) | (with_reducible refine Below.drew ?_) | (with_reducible refine below_drewN ?_ _) | (with_reducible refine below_next ?_ (by with_reducible assumption)) | omega | (dsimp only; omega) | (simp only [World.size_alloc, World.size_setCell, World.size_drew, World.heap_drewN]; omega)))⟩

theorem findA_some {M : Int → Option Bk} {chunk : Int} {a : V} {B : Bk} {off : Nat} (h : findA M chunk a = some (B, off)) :
    a.k = 4 ∧ M a.l = some B ∧ (sizeV chunk = 1 ∨ sizeV chunk = 2 ∨ sizeV chunk = 4 ∨ sizeV chunk = 8) ∧ (off : Int) = wrap64 a.b ∧ (off : Int) % sizeV chunk = 0 ∧ (off : Int) + sizeV chunk ≤ B.cells.length := by
  unfold findA at h
  split at h
  · cases h
  · rename_i c
    split at h
    · cases h
    · rename_i C hC
      split at h
      · cases h
      · rename_i c2
        simp only [Option.some.injEq, Prod.mk.injEq] at h
        obtain ⟨rfl, rfl⟩ := h
        have hs := sizeV_cases chunk
        have e : ((wrap64 a.b).toNat : Int) = wrap64 a.b := Int.toNat_of_nonneg (by omega)
        refine ⟨by omega, hC, by omega, e, ?_, by omega⟩
        rw [e]; omega

/-- What is loaded. -/
def loadA (M : Int → Option Bk) (chunk : Int) (a : V) : Option V :=
  match findA M chunk a with
  | none => none
  | some (B, off) => some (if chunk = 6 ∧ pieces B.cells off ∧ (B.ptr off).isSome = true then ptrV_ (B.ptr off) else loadB B chunk (sizeV chunk) off)

theorem load_any {w : World} {base pm bm nb last cap : Nat} {M : Int → Option Bk} (h : MemS w base pm bm nb last cap M) (chunk k b l : Int) (hl : I64 l) :
    Calls Try.prog 15 #[.pointer (some ⟨pm, 0, none⟩), .int .i64 chunk, .agg #[.int .i64 k, .int .u64 b, .int .i64 l]] w fun e w' => e = .returned (.tuple #[.agg #[.int .i64 (ptrV_ (loadA M chunk ⟨k, b, l⟩)).k, .int .u64 (ptrV_ (loadA M chunk ⟨k, b, l⟩)).b, .int .i64 (ptrV_ (loadA M chunk ⟨k, b, l⟩)).l], .bool (loadA M chunk ⟨k, b, l⟩).isSome]) ∧ Below w.heap.size w w' := by
  unfold loadA
  cases hf : findA M chunk ⟨k, b, l⟩ with
  | none => exact load_no h chunk k b l hl hf
  | some Bo =>
    obtain ⟨B, off⟩ := Bo
    obtain ⟨hk, hM, hn1, ho1, ho2, ho3⟩ := findA_some hf
    have hlen := (h.keys l B hM).2.2.2.2.2.2.1
    dsimp only at hk hM ho1
    by_cases c6 : chunk = 6
    · have hs8 : sizeV chunk = 8 := by subst c6; decide
      have hB := fun W (hW : Ext w W) => (h.at_ l B hM).next (Ext.of hW)
      by_cases hp : pieces B.cells off
      · have HP := fun W (hW : Ext w W) => pointer_yes (hB W hW) off (by omega) hlen hp
        by_cases hs : (B.ptr off).isSome = true
        · rw [hs] at HP
          simp only [if_pos (show chunk = 6 ∧ pieces B.cells off ∧ (B.ptr off).isSome = true from ⟨c6, hp, hs⟩), Option.isSome_some]
          exact load_ptr h chunk k b l _ hl B off hf c6 hM rfl _ (Lib.hid HP)
        · simp only [Bool.not_eq_true] at hs
          rw [hs] at HP
          simp only [hs, Bool.false_eq_true, and_false, if_false, Option.isSome_some]
          exact load_six h chunk k b l _ hl B off hf c6 hM rfl hs8 ho3 _ (Lib.hid HP)
      · simp only [hp, false_and, and_false, if_false, Option.isSome_some]
        exact load_six h chunk k b l _ hl B off hf c6 hM rfl hs8 ho3 ⟨0, 0, 0⟩ (Lib.hid fun W hW => pointer_no (hB W hW) off (by omega) hlen hp)
    · simp only [c6, false_and, if_false, Option.isSome_some]
      exact load_plain h chunk k b l _ hl B off hf c6 hM rfl hn1 ho3

end Go.Proofs.Ytddipbpllogbaaa
