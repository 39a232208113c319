/-
  A value as it is written: the program's and the reference's; the ends.
-/
import Derived.Test.YteepjngkbjbheaaDoorTraceT2
import Derived.Test.YteepjngkbjbheaaDoorTraceT3
import Derived.Test.YteepjngkbjbheaaDoorTraceWf
import Derived.Test.YteepjngkbjbheaaDoorShelf
import Derived.Lib.AppendIntMem
namespace Go.Proofs.YteepjngkbjbheaaDoor
open Go.RowKit
set_option linter.unusedVariables false
set_option linter.unusedSimpArgs false

/-- The table of the decimal powers, as the library lays it. -/
def TabW (w : World) : Prop := Lib.TabIs Tryd.prog w "internal/strconv.uint64pow10" .u64 Lib.pow10Tab
theorem gTab : ∃ g, Tryd.prog.globalNamed "internal/strconv.uint64pow10" = some g := by
  have h : (Tryd.prog.globalNamed "internal/strconv.uint64pow10").isSome = true := by kernel_rfl
  exact Option.isSome_iff_exists.1 h
theorem TabW.next {w w' : World} (h : TabW w) (hb : Below w.heap.size w w') : TabW w' := by
  obtain ⟨g, hg⟩ := gTab
  unfold TabW Lib.TabIs World.var? at *
  rw [hg] at h ⊢
  simp only [Option.bind_some] at h ⊢
  have hlt : g < w.heap.size := by
    rcases Nat.lt_or_ge g w.heap.size with h' | h'
    · exact h'
    · rw [Array.getElem?_eq_none h'] at h; cases h
  rw [hb.block g hlt]
  exact h
/-- What is read of the library's variables. -/
structure TabT (w : World) : Prop where
  ten : TabW w
  bit : TabZ w
theorem TabT.next {w w' : World} (h : TabT w) (hb : Below w.heap.size w w') : TabT w' := ⟨h.1.next hb, h.2.next hb⟩

theorem itoa_any (n : Int) (hn : I64 n) (w : World) (ht : TabT w) : Calls Tryd.prog 48 #[.int .i64 n] w fun e w' => e = .returned (.string ⟨(Lib.itoa n).toArray⟩) ∧ Below w.heap.size w w' :=
  (Tryd.strconv_Itoa n hn.1 hn.2 w ht.1).mono fun e w' ⟨h, k, os, hw⟩ => ⟨h, by rw [hw]; exact Lib.below_grow _ _ (Nat.le_refl _) _ _⟩
theorem fint_any (n : Int) (hn : I64 n) (w : World) (ht : TabT w) : Calls Tryd.prog 49 #[.int .i64 n, .int .i64 10] w fun e w' => e = .returned (.string ⟨(Lib.itoa n).toArray⟩) ∧ Below w.heap.size w w' :=
  (Tryd.strconv_FormatInt_10 n hn.1 hn.2 w ht.1).mono fun e w' ⟨h, k, os, hw⟩ => ⟨h, by rw [hw]; exact Lib.below_grow _ _ (Nat.le_refl _) _ _⟩

def vV (v : V) : Value := .agg #[.int .i64 v.k, .int .u64 v.b, .int .i64 v.l]
theorem wrap_i32_of (b : Int) : IntKind.i32.wrap (b % 4294967296) = sgn32 b := by rw [IntKind.wrap_i32]; unfold sgn32; omega
theorem wrap_i64_of (b : Int) : wrap64 b = sgn64 b := by unfold wrap64 sgn64; omega
set_option maxRecDepth 100000 in
set_option maxHeartbeats 2000000 in
theorem written_1 (b l : Int) (hb : U64 b) (w : World) (ht : TabT w) : Calls Tryd.prog 33 #[.agg #[.int .i64 1, .int .u64 b, .int .i64 l]] w fun e w' => e = .returned (.string ⟨(Lib.itoa (sgn32 b)).toArray⟩) ∧ Below w.heap.size w w' := by
  have HT := Lib.hid ht
  obtain ⟨hb1, hb2⟩ := hb
  obtain ⟨hz1, hz2⟩ : -2147483648 ≤ sgn32 b ∧ sgn32 b ≤ 2147483647 := by unfold sgn32; omega
  have hz := wrap_i32_of b
  obtain ⟨z, hzz⟩ : ∃ z, z = sgn32 b := ⟨_, rfl⟩
  rw [← hzz] at hz hz1 hz2 ⊢
  clear hzz ht
  have hI : I64 z := ⟨by omega, by omega⟩
  have hA1 := cell_alloc_if
  have hA2 := frozen_alloc_if
  have hA3 := cell_set_if
  go_enter Tryd.func33, Tryd.ntmps33
  go_wp2_with (go_at_call 48; (with_reducible refine (itoa_any z hI _ (HT.out.next (by (repeat' (first | (with_reducible exact Below.refl _ _) | (with_reducible assumption) | (with_reducible refine Below.setCell ?_ ?_ _) | (with_reducible refine Below.alloc ?_ ?_ _) | (with_reducible refine Below.drew ?_) | (with_reducible refine below_drewN ?_ _) | (with_reducible refine below_next ?_ (by with_reducible assumption)) | omega | (dsimp only; omega) | (simp only [World.size_alloc, World.size_setCell, World.size_drew, World.heap_drewN]; omega)))))).mono ?_); rintro e w' ⟨rfl, hbl⟩; obtain ⟨hc, hf, hz⟩ := cif hbl; (try simp only [World.size_alloc, World.size_setCell, World.size_drew, World.heap_drewN] at hz))
  go_returns
  exact ⟨rfl, by (repeat' (first | (with_reducible exact Below.refl _ _) | (with_reducible assumption) | (with_reducible refine Below.setCell ?_ ?_ _) | (with_reducible refine Below.alloc ?_ ?_ _) | (with_reducible refine Below.drew ?_) | (with_reducible refine below_drewN ?_ _) | (with_reducible refine below_next ?_ (by with_reducible assumption)) | omega | (dsimp only; omega) | (simp only [World.size_alloc, World.size_setCell, World.size_drew, World.heap_drewN]; omega)))⟩
set_option maxRecDepth 100000 in
set_option maxHeartbeats 2000000 in
theorem value_1 (b l : Int) (hb : U64 b) (w : World) : Calls Tryd.prog 38 #[.agg #[.int .i64 1, .int .u64 b, .int .i64 l]] w fun e w' => e = .returned (.string ⟨(Lib.itoa (sgn32 b)).toArray⟩) ∧ Below w.heap.size w w' := by
  have ht := True.intro
  have HT := Lib.hid ht
  obtain ⟨hb1, hb2⟩ := hb
  obtain ⟨hz1, hz2⟩ : -2147483648 ≤ sgn32 b ∧ sgn32 b ≤ 2147483647 := by unfold sgn32; omega
  have hz := wrap_i32_of b
  obtain ⟨z, hzz⟩ : ∃ z, z = sgn32 b := ⟨_, rfl⟩
  rw [← hzz] at hz hz1 hz2 ⊢
  clear hzz ht
  have hI : I64 z := ⟨by omega, by omega⟩
  have hA1 := cell_alloc_if
  have hA2 := frozen_alloc_if
  have hA3 := cell_set_if
  go_enter Tryd.func38, Tryd.ntmps38
  go_wp2_with (go_at_call 39; (with_reducible refine (rdec_any z hI _).mono ?_); rintro e w' ⟨rfl, hbl⟩; obtain ⟨hc, hf, hz⟩ := cif hbl; (try simp only [World.size_alloc, World.size_setCell, World.size_drew, World.heap_drewN] at hz))
  go_returns
  exact ⟨rfl, by (repeat' (first | (with_reducible exact Below.refl _ _) | (with_reducible assumption) | (with_reducible refine Below.setCell ?_ ?_ _) | (with_reducible refine Below.alloc ?_ ?_ _) | (with_reducible refine Below.drew ?_) | (with_reducible refine below_drewN ?_ _) | (with_reducible refine below_next ?_ (by with_reducible assumption)) | omega | (dsimp only; omega) | (simp only [World.size_alloc, World.size_setCell, World.size_drew, World.heap_drewN]; omega)))⟩
set_option maxRecDepth 100000 in
set_option maxHeartbeats 2000000 in
theorem written_2 (b l : Int) (hb : U64 b) (w : World) (ht : TabT w) : Calls Tryd.prog 33 #[.agg #[.int .i64 2, .int .u64 b, .int .i64 l]] w fun e w' => e = .returned (.string ⟨(Lib.itoa (sgn64 b) ++ [76]).toArray⟩) ∧ Below w.heap.size w w' := by
  have HT := Lib.hid ht
  obtain ⟨hb1, hb2⟩ := hb
  have hI := sgn64_i64 b
  have hz := wrap_i64_of b
  obtain ⟨x, hx⟩ : ∃ x, x = ByteArray.mk (Lib.itoa (sgn64 b)).toArray := ⟨_, rfl⟩
  have hsz : x.size ≤ 21 := by rw [hx, ba_size]; exact itoa_len _ hI
  have HX : Hid (x ++ ⟨#[76]⟩ = ⟨(Lib.itoa (sgn64 b) ++ [76]).toArray⟩) := Lib.hid (by rw [hx]; exact ba_app _ [76])
  have HF : Hid (∀ W, Below w.heap.size w W → Calls Tryd.prog 49 #[.int .i64 (sgn64 b), .int .i64 10] W fun e w' => e = .returned (.string x) ∧ Below W.heap.size W w') := Lib.hid fun W hW => by
    rw [hx]; exact fint_any _ hI W (HT.out.next hW)
  clear hx ht hI
  generalize sgn64 b = z at hz HF HX ⊢
  have hA1 := cell_alloc_if
  have hA2 := frozen_alloc_if
  have hA3 := cell_set_if
  go_enter Tryd.func33, Tryd.ntmps33
  go_wp2_with (go_at_call 49; (with_reducible refine (HF.out _ (by (repeat' (first | (with_reducible exact Below.refl _ _) | (with_reducible assumption) | (with_reducible refine Below.setCell ?_ ?_ _) | (with_reducible refine Below.alloc ?_ ?_ _) | (with_reducible refine Below.drew ?_) | (with_reducible refine below_drewN ?_ _) | (with_reducible refine below_next ?_ (by with_reducible assumption)) | omega | (dsimp only; omega) | (simp only [World.size_alloc, World.size_setCell, World.size_drew, World.heap_drewN]; omega))))).mono ?_); rintro e w' ⟨rfl, hbl⟩; obtain ⟨hc, hf, hz⟩ := cif hbl; (try simp only [World.size_alloc, World.size_setCell, World.size_drew, World.heap_drewN] at hz))
  go_returns
  exact ⟨ret_str HX.out, by (repeat' (first | (with_reducible exact Below.refl _ _) | (with_reducible assumption) | (with_reducible refine Below.setCell ?_ ?_ _) | (with_reducible refine Below.alloc ?_ ?_ _) | (with_reducible refine Below.drew ?_) | (with_reducible refine below_drewN ?_ _) | (with_reducible refine below_next ?_ (by with_reducible assumption)) | omega | (dsimp only; omega) | (simp only [World.size_alloc, World.size_setCell, World.size_drew, World.heap_drewN]; omega)))⟩
set_option maxRecDepth 100000 in
set_option maxHeartbeats 2000000 in
theorem value_2 (b l : Int) (hb : U64 b) (w : World) : Calls Tryd.prog 38 #[.agg #[.int .i64 2, .int .u64 b, .int .i64 l]] w fun e w' => e = .returned (.string ⟨(Lib.itoa (sgn64 b) ++ [76]).toArray⟩) ∧ Below w.heap.size w w' := by
  have ht := True.intro
  have HT := Lib.hid ht
  obtain ⟨hb1, hb2⟩ := hb
  have hI := sgn64_i64 b
  have hz := wrap_i64_of b
  obtain ⟨x, hx⟩ : ∃ x, x = ByteArray.mk (Lib.itoa (sgn64 b)).toArray := ⟨_, rfl⟩
  have hsz : x.size ≤ 21 := by rw [hx, ba_size]; exact itoa_len _ hI
  have HX : Hid (x ++ ⟨#[76]⟩ = ⟨(Lib.itoa (sgn64 b) ++ [76]).toArray⟩) := Lib.hid (by rw [hx]; exact ba_app _ [76])
  have HF : Hid (∀ W, Calls Tryd.prog 39 #[.int .i64 (sgn64 b)] W fun e w' => e = .returned (.string x) ∧ Below W.heap.size W w') := Lib.hid fun W => by
    rw [hx]; exact rdec_any _ hI W
  clear hx ht hI HT
  generalize sgn64 b = z at hz HF HX ⊢
  have hA1 := cell_alloc_if
  have hA2 := frozen_alloc_if
  have hA3 := cell_set_if
  go_enter Tryd.func38, Tryd.ntmps38
  go_wp2_with (go_at_call 39; (with_reducible refine (HF.out _).mono ?_); rintro e w' ⟨rfl, hbl⟩; obtain ⟨hc, hf, hz⟩ := cif hbl; (try simp only [World.size_alloc, World.size_setCell, World.size_drew, World.heap_drewN] at hz))
  go_returns
  exact ⟨ret_str HX.out, by (repeat' (first | (with_reducible exact Below.refl _ _) | (with_reducible assumption) | (with_reducible refine Below.setCell ?_ ?_ _) | (with_reducible refine Below.alloc ?_ ?_ _) | (with_reducible refine Below.drew ?_) | (with_reducible refine below_drewN ?_ _) | (with_reducible refine below_next ?_ (by with_reducible assumption)) | omega | (dsimp only; omega) | (simp only [World.size_alloc, World.size_setCell, World.size_drew, World.heap_drewN]; omega)))⟩
set_option maxRecDepth 100000 in
set_option maxHeartbeats 2000000 in
theorem written_3 (n : Nat) (l : Int) (hb : n < 18446744073709551616) (w : World) (ht : TabT w) : Calls Tryd.prog 33 #[.agg #[.int .i64 3, .int .u64 n, .int .i64 l]] w fun e w' => e = .returned (.string ⟨([48, 120] ++ hexN 16 n).toArray⟩) ∧ Below w.heap.size w w' := by
  have HT := Lib.hid ht
  obtain ⟨h1, h2⟩ := hexD_pad 15 n hb
  have h3 := hexD_pos n
  obtain ⟨k, hk⟩ : ∃ k : Nat, (hexD n).length + k = 16 := ⟨16 - (hexD n).length, by omega⟩
  obtain ⟨x, hx⟩ : ∃ x, x = ByteArray.mk (hexD n).toArray := ⟨_, rfl⟩
  obtain ⟨y, hy⟩ : ∃ y, y = ByteArray.mk (List.replicate k 48).toArray := ⟨_, rfl⟩
  have hsx : x.size = (hexD n).length := by rw [hx, ba_size]
  have hsy : y.size = k := by rw [hy, ba_size, List.length_replicate]
  have hk2 : (16 : Int) - (x.size : Int) = (k : Int) := by omega
  have hkk : k < 16 := by omega
  have hxl : x.size ≤ 16 := by omega
  have hyl : y.size ≤ 16 := by omega
  have HX : Hid ((⟨#[48, 120]⟩ ++ y) ++ x = ⟨([48, 120] ++ hexN 16 n).toArray⟩) := Lib.hid (by
    rw [hx, hy, ← h2, show 15 + 1 - (hexD n).length = k by omega]
    rw [show (⟨#[48, 120]⟩ : ByteArray) = ⟨([48, 120] : List UInt8).toArray⟩ from rfl, ba_app, ba_app, List.append_assoc])
  have HF : Hid (∀ W, Below w.heap.size w W → Calls Tryd.prog 50 #[.int .u64 n, .int .i64 16] W fun e w' => e = .returned (.string x) ∧ Below W.heap.size W w') := Lib.hid fun W hW => by
    rw [hx]; exact fuint_16 n hb W (HT.out.next hW).2
  have HR : Hid (∀ W, Calls Tryd.prog 51 #[.string ⟨#[48]⟩, .int .i64 k] W fun e w' => e = .returned (.string y) ∧ Below W.heap.size W w') := Lib.hid fun W => by
    rw [hy]; exact repeat_any k hkk W
  clear hx hy h1 h2 h3 hk hsx hsy ht
  have hA1 := cell_alloc_if
  have hA2 := frozen_alloc_if
  have hA3 := cell_set_if
  go_enter Tryd.func33, Tryd.ntmps33
  go_wp2_with (first
    | (go_at_call 50; (with_reducible refine (HF.out _ (by (repeat' (first | (with_reducible exact Below.refl _ _) | (with_reducible assumption) | (with_reducible refine Below.setCell ?_ ?_ _) | (with_reducible refine Below.alloc ?_ ?_ _) | (with_reducible refine Below.drew ?_) | (with_reducible refine below_drewN ?_ _) | (with_reducible refine below_next ?_ (by with_reducible assumption)) | omega | (dsimp only; omega) | (simp only [World.size_alloc, World.size_setCell, World.size_drew, World.heap_drewN]; omega))))).mono ?_); rintro e w' ⟨rfl, hbl⟩; obtain ⟨hc, hf, hz⟩ := cif hbl; (try simp only [World.size_alloc, World.size_setCell, World.size_drew, World.heap_drewN] at hz))
    | (go_at_call 51; (with_reducible refine (HR.out _).mono ?_); rintro e w' ⟨rfl, hbl⟩; obtain ⟨hc, hf, hz⟩ := cif hbl; (try simp only [World.size_alloc, World.size_setCell, World.size_drew, World.heap_drewN] at hz)))
  go_returns
  exact ⟨ret_str HX.out, by (repeat' (first | (with_reducible exact Below.refl _ _) | (with_reducible assumption) | (with_reducible refine Below.setCell ?_ ?_ _) | (with_reducible refine Below.alloc ?_ ?_ _) | (with_reducible refine Below.drew ?_) | (with_reducible refine below_drewN ?_ _) | (with_reducible refine below_next ?_ (by with_reducible assumption)) | omega | (dsimp only; omega) | (simp only [World.size_alloc, World.size_setCell, World.size_drew, World.heap_drewN]; omega)))⟩
end Go.Proofs.YteepjngkbjbheaaDoor
