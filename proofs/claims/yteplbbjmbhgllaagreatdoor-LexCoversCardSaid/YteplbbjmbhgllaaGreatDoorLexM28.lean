/-
  strings.IndexRune over "+_" of a rune that is no ASCII: it isn't there.
  strings.IndexRune over "+_" of a rune of two bytes: its second byte.
  strings.IndexRune over "+_" of a rune of three bytes or four.
  strings.IndexRune over "+_" of any rune; strings.ContainsAny of two bytes.
  The program's escape, walked.
-/
import Derived.Test.YteplbbjmbhgllaaGreatDoorLexP13
import Derived.Test.YteplbbjmbhgllaaGreatDoorLexM11
import Derived.Deep.RegionHeld3
import Derived.Test.YteplbbjmbhgllaaGreatDoorRegion
import Derived.BigQuiet
import Derived.WalkMore
import Derived.Test.YteplbbjmbhgllaaGreatDoorLexM24
namespace Go.Proofs.YteplbbjmbhgllaaGreatDoor
open Go.RowKit
set_option linter.unusedVariables false
set_option linter.unusedSimpArgs false

theorem enc_two : ∀ r : Nat, 128 ≤ r → r ≤ 1114111 → 2 ≤ (Utf8.encode (r : Int)).size ∧ (Utf8.encode (r : Int)).size ≤ 4 := fun r h1 h2 => by
  have h := enc_size r
  have hl := Lib.encodeRuneZ_length (r : Int)
  have e : (Lib.encodeRune (r : Int)).length = (Lib.encodeRuneZ (r : Int)).length := by unfold Lib.encodeRune; rw [List.length_map]
  rw [e] at h
  refine ⟨?_, by omega⟩
  rw [h]
  by_cases c1 : r ≤ 2047
  · rw [Lib.encodeRuneZ_two (by omega) (by omega)]; simp
  · by_cases c2 : ((2048 : Int) ≤ r ∧ (r : Int) < 55296) ∨ ((57343 : Int) < r ∧ (r : Int) ≤ 65535)
    · rw [Lib.encodeRuneZ_three c2]; simp
    · by_cases c3 : 65536 ≤ r
      · rw [Lib.encodeRuneZ_four (by omega) (by omega)]; simp
      · rw [Lib.encodeRuneZ_bad (by omega)]; simp
set_option maxRecDepth 100000 in
set_option maxHeartbeats 4000000 in
theorem indexRune_err (w : World) : Calls Tryz.prog 66 #[.string ⟨#[43, 95]⟩, .int .i32 65533] w fun e w' => e = .returned (.int .i64 (-1)) ∧ Below w.heap.size w w' := by
  go_enter Tryz.func66, Tryz.ntmps66
  go_wp2
  go_loopw [] (fun wr => ∃ (pos : Nat), wr.heap[w.heap.size]? = some (.stringIter ⟨#[43, 95]⟩ pos) ∧ Below w.heap.size w wr ∧ pos ≤ 2) (fun wr => 2 - wr.iterPos w.heap.size)
  case atStart => exact ⟨0, World.iter_heap w _ 0, (Below.refl _ w).alloc (Nat.le_refl _) _, by omega⟩
  case round =>
    obtain ⟨pos, hit, hbw, hpos⟩ := hrel
    have hc : pos = 0 ∨ pos = 1 ∨ pos = 2 := by omega
    rcases hc with rfl | rfl | rfl
    · have hnx : ∀ ty, (Instr.next (.pointer (some ⟨w.heap.size, 0, none⟩)) true ty).run Tryz.prog wr = .ok (.tuple #[.bool true, .int .i64 0, .int .i32 43]) (wr.iterAt w.heap.size ⟨#[43, 95]⟩ 1) := fun ty => Lib.run_next_any_at wr w.heap.size ⟨#[43, 95]⟩ 0 ty hit (by decide)
      have hit2 := Lib.iterAt_heap wr w.heap.size ⟨#[43, 95]⟩ 0 1 hit
      have hbw2 := Lib.below_iterAt hbw (k := w.heap.size) (by omega) ⟨#[43, 95]⟩ 1
      go_wp2
      go_roundw
      case rel => exact ⟨1, hit2, hbw2, by omega⟩
      case measure => simp only [World.iterPos, hit, hit2]; omega
    · have hnx : ∀ ty, (Instr.next (.pointer (some ⟨w.heap.size, 0, none⟩)) true ty).run Tryz.prog wr = .ok (.tuple #[.bool true, .int .i64 1, .int .i32 95]) (wr.iterAt w.heap.size ⟨#[43, 95]⟩ 2) := fun ty => Lib.run_next_any_at wr w.heap.size ⟨#[43, 95]⟩ 1 ty hit (by decide)
      have hit2 := Lib.iterAt_heap wr w.heap.size ⟨#[43, 95]⟩ 1 2 hit
      have hbw2 := Lib.below_iterAt hbw (k := w.heap.size) (by omega) ⟨#[43, 95]⟩ 2
      go_wp2
      go_roundw
      case rel => exact ⟨2, hit2, hbw2, by omega⟩
      case measure => simp only [World.iterPos, hit, hit2]; omega
    · have hnx : ∀ ty, (Instr.next (.pointer (some ⟨w.heap.size, 0, none⟩)) true ty).run Tryz.prog wr = _ := fun ty => Lib.run_next_end_at wr w.heap.size ⟨#[43, 95]⟩ 2 ty hit (by decide)
      go_wp2
      go_ret
      exact ⟨rfl, hbw⟩
set_option maxRecDepth 100000 in
set_option maxHeartbeats 4000000 in
theorem indexRune_bad (r : Nat) (h1 : 128 ≤ r) (h2 : r ≤ 1114111) (h3 : ¬ r = 65533) (hv : Lib.validRune (r : Int) = false) (w : World) : Calls Tryz.prog 66 #[.string ⟨#[43, 95]⟩, .int .i32 r] w fun e w' => e = .returned (.int .i64 (-1)) ∧ Below w.heap.size w w' := by
  have d3 : ((r : Int) == 65533) = false := by simp; omega
  have HV : Hid (∀ W, Calls Tryz.prog 86 #[.int .i32 r] W fun e w' => e = .returned (.bool false) ∧ W = w') := Lib.hid fun W => (Tryz.utf8_ValidRune (r : Int) W).mono fun e w' h => ⟨by rw [h.1, hv], h.2.symm⟩
  clear hv h3
  go_enter Tryz.func66, Tryz.ntmps66
  go_wp2_with (go_at_call 86; (with_reducible refine (HV.out _).mono ?_); rintro e w' ⟨rfl, rfl⟩)
  go_ret
  exact ⟨rfl, Below.refl _ _⟩
end Go.Proofs.YteplbbjmbhgllaaGreatDoor

namespace Go.Proofs.YteplbbjmbhgllaaGreatDoor
open Go.RowKit
set_option linter.unusedVariables false
set_option linter.unusedSimpArgs false

theorem enc_second (r : Nat) (h1 : 128 ≤ r) (h2 : r ≤ 1114111) (hs : (Utf8.encode (r : Int)).size = 2) : byteN (Utf8.encode (r : Int)).data.toList 1 ≠ 95 := by
  have hr : r ≤ 2047 := by
    rw [enc_size] at hs
    have e : (Lib.encodeRune (r : Int)).length = (Lib.encodeRuneZ (r : Int)).length := by unfold Lib.encodeRune; rw [List.length_map]
    rw [e] at hs
    by_cases c1 : r ≤ 2047
    · exact c1
    · by_cases c2 : ((2048 : Int) ≤ r ∧ (r : Int) < 55296) ∨ ((57343 : Int) < r ∧ (r : Int) ≤ 65535)
      · rw [Lib.encodeRuneZ_three c2] at hs; simp at hs
      · by_cases c3 : 65536 ≤ r
        · rw [Lib.encodeRuneZ_four (by omega) (by omega)] at hs; simp at hs
        · rw [Lib.encodeRuneZ_bad (by omega)] at hs; simp at hs
  have hv : Utf8.valid (r : Int) = true := by unfold Utf8.valid; simp; omega
  unfold Utf8.encode
  simp only [hv, if_true, Int.toNat_natCast]
  rw [if_neg (by omega), if_pos (by omega)]
  show (UInt8.ofNat (0x80 + r % 64)).toNat ≠ 95
  simp
  omega
end Go.Proofs.YteplbbjmbhgllaaGreatDoor

namespace Go.Proofs.YteplbbjmbhgllaaGreatDoor
open Go.RowKit
set_option linter.unusedVariables false
set_option linter.unusedSimpArgs false

set_option maxRecDepth 100000 in
set_option maxHeartbeats 4000000 in
theorem indexRune_long (r : Nat) (h1 : 128 ≤ r) (h2 : r ≤ 1114111) (h3 : ¬ r = 65533) (hv : Lib.validRune (r : Int) = true) (hs : (Utf8.encode (r : Int)).size ≠ 2) (w : World) : Calls Tryz.prog 66 #[.string ⟨#[43, 95]⟩, .int .i32 r] w fun e w' => e = .returned (.int .i64 (-1)) ∧ Below w.heap.size w w' := by
  have d3 : ((r : Int) == 65533) = false := by simp; omega
  have HV : Hid (∀ W, Calls Tryz.prog 86 #[.int .i32 r] W fun e w' => e = .returned (.bool true) ∧ W = w') := Lib.hid fun W => (Tryz.utf8_ValidRune (r : Int) W).mono fun e w' h => ⟨by rw [h.1, hv], h.2.symm⟩
  have hz := enc_two r h1 h2
  have hz3 : 3 ≤ (Utf8.encode (r : Int)).size := by omega
  have hz4 : (Utf8.encode (r : Int)).size ≤ 4 := hz.2
  clear hv h3 hs hz
  obtain ⟨E, eE⟩ : ∃ E, Utf8.encode (r : Int) = E := ⟨_, rfl⟩
  rw [eE] at hz3 hz4
  have HZ := Lib.hid (And.intro eE (And.intro hz3 hz4))
  clear eE hz3 hz4
  go_enter Tryz.func66, Tryz.ntmps66
  go_wp2_with (go_at_call 86; refine (HV.out _).mono ?_)
  rintro e w' ⟨rfl, rfl⟩
  go_wp2
  go_step3
  go_upto_region 2 with (fail)
  obtain ⟨eE, hz3, hz4⟩ := HZ.out
  rw [eE]
  clear eE HZ HV h1 h2 d3
  go_wp2
  go_loop [9, 10] (fun a9 a10 => ∃ (k : Nat), a9 = .int .i64 k ∧ 2 ≤ k ∧ a10 = .int .i64 0) (fun _ _ => 0)
  case atStart => exact ⟨E.size - 1, by congr 1; omega, by omega, rfl⟩
  case round =>
    obtain ⟨k, rfl, hk, rfl⟩ := hrel
    have hd : decide ((k : Int) < 2) = false := decide_eq_false (by omega)
    go_wp2
    go_ret
    exact ⟨rfl, Below.refl _ _⟩
end Go.Proofs.YteplbbjmbhgllaaGreatDoor

namespace Go.Proofs.YteplbbjmbhgllaaGreatDoor
open Go.RowKit
set_option linter.unusedVariables false
set_option linter.unusedSimpArgs false

theorem two_bytes {E : ByteArray} (h : E.size = 2) : ∃ u v : UInt8, E = ⟨#[u, v]⟩ ∧ byteN E.data.toList 1 = v.toNat := by
  have hl := szl E
  rw [h] at hl
  match hd : E.data.toList, hl with
  | [u, v], _ => exact ⟨u, v, ba_eq (by rw [hd]), rfl⟩
set_option maxRecDepth 100000 in
set_option maxHeartbeats 4000000 in
theorem indexRune_two (r : Nat) (h1 : 128 ≤ r) (h2 : r ≤ 1114111) (h3 : ¬ r = 65533) (hv : Lib.validRune (r : Int) = true) (hs : (Utf8.encode (r : Int)).size = 2) (w : World) : Calls Tryz.prog 66 #[.string ⟨#[43, 95]⟩, .int .i32 r] w fun e w' => e = .returned (.int .i64 (-1)) ∧ Below w.heap.size w w' := by
  have d3 : ((r : Int) == 65533) = false := by simp; omega
  have HV : Hid (∀ W, Calls Tryz.prog 86 #[.int .i32 r] W fun e w' => e = .returned (.bool true) ∧ W = w') := Lib.hid fun W => (Tryz.utf8_ValidRune (r : Int) W).mono fun e w' h => ⟨by rw [h.1, hv], h.2.symm⟩
  have hy := enc_second r h1 h2 hs
  obtain ⟨u, v, eE, ev⟩ := two_bytes hs
  rw [ev] at hy
  have HZ := Lib.hid (And.intro eE hy)
  clear hv h3 hs eE hy ev
  go_enter Tryz.func66, Tryz.ntmps66
  go_wp2_with (go_at_call 86; refine (HV.out _).mono ?_)
  rintro e w' ⟨rfl, rfl⟩
  go_wp2
  go_step3
  go_upto_region 2 with (fail)
  obtain ⟨eE, hy⟩ := HZ.out
  rw [eE]
  clear eE HZ HV h1 h2 d3
  have hv2 := v.toNat_lt
  have hixE := fun W => idx_s (P := Tryz.prog) 9 Tryz.underlying9 ⟨#[u, v]⟩ .i64 1 1 rfl (by show 1 < 2; omega) W
  have hbE : byteN (⟨#[u, v]⟩ : ByteArray).data.toList 1 = v.toNat := rfl
  rw [hbE] at hixE
  obtain ⟨y, ey⟩ : ∃ y, v.toNat = y := ⟨_, rfl⟩
  rw [ey] at hixE hy hv2
  have hixS := fun W => idx_s (P := Tryz.prog) 9 Tryz.underlying9 ⟨#[43, 95]⟩ .i64 1 1 rfl (by decide) W
  have hbS : byteN (⟨#[43, 95]⟩ : ByteArray).data.toList 1 = 95 := rfl
  rw [hbS] at hixS
  have HIB : Hid (∀ W, Calls Tryz.prog 85 #[.string .empty, .int .u8 (y : Int)] W fun e w' => e = .returned (.int .i64 (-1)) ∧ W = w') := Lib.hid fun W => (Tryz.strings_IndexByte .empty (y : Int) W).mono fun e w' h => ⟨h.1, h.2.symm⟩
  have hne : (((95 : Nat) : Int) != (y : Int)) = true := by simp; omega
  clear ey hbE hbS
  go_wp2
  go_loop [9, 10] (fun a9 a10 => a9 = .int .i64 1 ∧ a10 = .int .i64 0) (fun _ _ => 0)
  case atStart => exact ⟨rfl, rfl⟩
  case round =>
    obtain ⟨rfl, rfl⟩ := hrel
    go_wp2
    go_step3
    go_upto_region 6 with (fail)
    refine wp_region_ext (by kernel_rfl) (by kernel_rfl) ?_
    repeat (first | go_big_quiet_skip | (go_big_quiet_want; go_big_quiet_op; first | go_big_quiet_on | (apply Exists.intro; refine ⟨fun W hW => ?_, ?_⟩; (focus (first
      | (go_at_call 85; (with_reducible refine (HIB.out _).mono ?_); rintro e w1 ⟨rfl, rfl⟩; exact ⟨rfl, hW⟩)
      | exact rfl | (obtain ⟨hcW, hfW, hzW⟩ := cif (Ext.of hW); (try simp only [World.size_alloc, World.size_setCell, World.size_drew, World.heap_drewN] at hzW); simp [go_sem, *, ↓IntWalk.iteOmega]; (try exact rfl)))); go_big_quiet_on)))
    refine wpQuiet_nil ?_
    intro w' hw'
    have hbl := Ext.of hw'
    obtain ⟨hc, hf, hz⟩ := cif hbl
    (try simp only [World.size_alloc, World.size_setCell, World.size_drew, World.heap_drewN] at hz)
    clear hw'
    have hbl6 := hbl
    go_upto_region 7 with (fail)
    refine wp_region_ext (by kernel_rfl) (by kernel_rfl) ?_
    repeat (first | go_big_quiet_skip | (go_big_quiet_want; go_big_quiet_op; first | go_big_quiet_on | (apply Exists.intro; refine ⟨fun W hW => ?_, ?_⟩; (focus (first
      | (go_at_call 85; (with_reducible refine (HIB.out _).mono ?_); rintro e w1 ⟨rfl, rfl⟩; exact ⟨rfl, hW⟩)
      | exact rfl | (obtain ⟨hcW, hfW, hzW⟩ := cif (Ext.of hW); (try simp only [World.size_alloc, World.size_setCell, World.size_drew, World.heap_drewN] at hzW); simp [go_sem, *, ↓IntWalk.iteOmega]; (try exact rfl)))); go_big_quiet_on)))
    refine wpQuiet_nil ?_
    intro w' hw'
    have hbl := Ext.of hw'
    obtain ⟨hc, hf, hz⟩ := cif hbl
    (try simp only [World.size_alloc, World.size_setCell, World.size_drew, World.heap_drewN] at hz)
    clear hw'
    go_wp2
    simp only [Exit.noGoto_ret, Exit.inBlock]
    simp (config := { zetaDelta := true }) only [Exit.noGoto_ret, Exit.inBlock, Exit.then]
    go_ret
    exact ⟨rfl, below_step hbl6 hbl⟩
theorem indexRune_some (c : Nat) (hc : c ≤ 1114111) (w : World) : Calls Tryz.prog 66 #[.string ⟨#[43, 95]⟩, .int .i32 c] w fun e w' => (∃ k : Int, e = .returned (.int .i64 k)) ∧ Below w.heap.size w w' := by
  by_cases h1 : c < 128
  · exact (Tryz.strings_IndexRune_ascii ⟨#[43, 95]⟩ (c : Int) w (by omega) (by omega)).mono fun e w' h => ⟨⟨_, h.1⟩, by rw [h.2]; exact Below.refl _ _⟩
  · by_cases h3 : c = 65533
    · subst h3
      exact (indexRune_err w).mono fun e w' h => ⟨⟨_, h.1⟩, h.2⟩
    · cases hv : Lib.validRune (c : Int) with
      | false => exact (indexRune_bad c (by omega) hc h3 hv w).mono fun e w' h => ⟨⟨_, h.1⟩, h.2⟩
      | true =>
        by_cases hs : (Utf8.encode (c : Int)).size = 2
        · exact (indexRune_two c (by omega) hc h3 hv hs w).mono fun e w' h => ⟨⟨_, h.1⟩, h.2⟩
        · exact (indexRune_long c (by omega) hc h3 hv hs w).mono fun e w' h => ⟨⟨_, h.1⟩, h.2⟩
set_option maxRecDepth 100000 in
set_option maxHeartbeats 4000000 in
theorem indexAny_two (t : ByteArray) (ht : t.size = 2) (w : World) : Calls Tryz.prog 46 #[.string t, .string ⟨#[43, 95]⟩] w fun e w' => (∃ k : Int, e = .returned (.int .i64 k)) ∧ Below w.heap.size w w' := by
  have HSA : Hid (∀ W, Calls Tryz.prog 67 #[.int .i64 (t.size : Int)] W fun e w' => e = .returned (.bool false) ∧ W = w') := Lib.hid fun W => (Tryz.strings_shouldUseASCIISet (t.size : Int) W).mono fun e w' h => ⟨by rw [h.1, decide_eq_false (by omega)], h.2.symm⟩
  clear ht
  go_enter Tryz.func46, Tryz.ntmps46
  go_wp2_with (go_at_call 67; (with_reducible refine (HSA.out _).mono ?_); rintro e w' ⟨rfl, rfl⟩)
  go_loopw [] (fun wr => ∃ (pos : Nat), wr.heap[w.heap.size]? = some (.stringIter t pos) ∧ Below w.heap.size w wr ∧ pos ≤ t.size) (fun wr => t.size - wr.iterPos w.heap.size)
  case atStart => exact ⟨0, World.iter_heap w _ 0, (Below.refl _ w).alloc (Nat.le_refl _) _, by omega⟩
  case round =>
    obtain ⟨pos, hit, hbw, hpos⟩ := hrel
    by_cases hp : pos < t.size
    · have hnx : ∀ ty, (Instr.next (.pointer (some ⟨w.heap.size, 0, none⟩)) true ty).run Tryz.prog wr = _ := fun ty => Lib.run_next_any_at wr w.heap.size t pos ty hit hp
      have hdl := dec_len hp
      have hr4 : (Utf8.decode t pos).1 ≤ 1114111 := Lib.rune_le t pos
      have hit2 := Lib.iterAt_heap wr w.heap.size t pos (pos + (Utf8.decode t pos).2) hit
      have hbw2 := Lib.below_iterAt hbw (k := w.heap.size) (by omega) t (pos + (Utf8.decode t pos).2)
      have HIR := Lib.hid (fun W => indexRune_some (Utf8.decode t pos).1 hr4 W)
      generalize (Utf8.decode t pos).1 = c at hnx HIR
      generalize (Utf8.decode t pos).2 = d at hnx hdl hit2 hbw2
      have hlt := (Array.getElem?_eq_some_iff.1 hit2).1
      go_wp2_with (go_at_call 66; refine (HIR.out _).mono ?_)
      rintro e w5 ⟨⟨v, rfl⟩, hbl⟩
      have hit3 := (hbl.block _ hlt).trans hit2
      have hbw3 := hbw2.trans (hbl.mono (by omega))
      by_cases hv0 : 0 ≤ v
      · go_wp2
        go_ret
        exact ⟨⟨_, rfl⟩, hbw3⟩
      · go_wp2
        go_roundw
        case rel => exact ⟨pos + d, hit3, hbw3, by omega⟩
        case measure => simp only [World.iterPos, hit, hit3]; omega
    · have hnx : ∀ ty, (Instr.next (.pointer (some ⟨w.heap.size, 0, none⟩)) true ty).run Tryz.prog wr = _ := fun ty => Lib.run_next_end_at wr w.heap.size t pos ty hit hp
      go_wp2
      go_ret
      exact ⟨⟨_, rfl⟩, hbw⟩
set_option maxRecDepth 100000 in
set_option maxHeartbeats 4000000 in
theorem containsAny_some (t : ByteArray) (ht : t.size = 2) (w : World) : Calls Tryz.prog 24 #[.string t, .string ⟨#[43, 95]⟩] w fun e w' => (∃ g : Bool, e = .returned (.bool g)) ∧ Below w.heap.size w w' := by
  have HIA := Lib.hid (fun W => indexAny_two t ht W)
  go_enter Tryz.func24, Tryz.ntmps24
  go_wp2_with (go_at_call 46; refine (HIA.out _).mono ?_)
  rintro e w5 ⟨⟨v, rfl⟩, hbl⟩
  by_cases hv0 : 0 ≤ v
  · go_wp2
    go_ret
    exact ⟨⟨_, rfl⟩, hbl⟩
  · go_wp2
    go_ret
    exact ⟨⟨_, rfl⟩, hbl⟩
/-- ContainsAny of two bytes: some answer; no where both are digits of sixteen. -/
theorem containsAny_two (t : ByteArray) (ht : t.size = 2) (w : World) : Calls Tryz.prog 24 #[.string t, .string ⟨#[43, 95]⟩] w fun e w' => (∃ g : Bool, e = .returned (.bool g) ∧ ((∃ x y : Nat, byteN t.data.toList 0 = x ∧ byteN t.data.toList 1 = y ∧ x < 128 ∧ y < 128 ∧ x ≠ 43 ∧ x ≠ 95 ∧ y ≠ 43 ∧ y ≠ 95) → g = false)) ∧ Below w.heap.size w w' := by
  by_cases h : ∃ x y : Nat, byteN t.data.toList 0 = x ∧ byteN t.data.toList 1 = y ∧ x < 128 ∧ y < 128 ∧ x ≠ 43 ∧ x ≠ 95 ∧ y ≠ 43 ∧ y ≠ 95
  · obtain ⟨x, y, hx, hy, a1, a2, a3, a4, a5, a6⟩ := h
    have hl := szl t
    rw [ht] at hl
    refine (Tryz.strings_ContainsAny_laid t ⟨#[43, 95]⟩ w (by omega) (by decide) ?_ ?_).mono ?_
    · match hd : t.data.toList, hl with
      | [u, v], _ =>
        rw [hd] at hx hy
        have hx' : u.toNat = x := hx
        have hy' : v.toNat = y := hy
        intro j b hj
        match j, hj with
        | 0, hj => simp at hj; subst hj; omega
        | 1, hj => simp at hj; subst hj; omega
        | _ + 2, hj => simp at hj
    · intro j b hj
      match j, hj with
      | 0, hj => simp at hj; subst hj; decide
      | 1, hj => simp at hj; subst hj; decide
      | _ + 2, hj => simp at hj
    · rintro e w' ⟨rfl, hb⟩
      refine ⟨⟨_, rfl, fun _ => ?_⟩, hb⟩
      match hd : t.data.toList, hl with
      | [u, v], _ =>
        rw [hd] at hx hy
        have hx' : u.toNat = x := hx
        have hy' : v.toNat = y := hy
        have n1 : u ≠ 43 := fun e => a3 (by rw [← hx', e]; rfl)
        have n2 : u ≠ 95 := fun e => a4 (by rw [← hx', e]; rfl)
        have n3 : v ≠ 43 := fun e => a5 (by rw [← hy', e]; rfl)
        have n4 : v ≠ 95 := fun e => a6 (by rw [← hy', e]; rfl)
        unfold Lib.containsAny
        simp [Lib.indexAny, n1, n2, n3, n4]
  · exact (containsAny_some t ht w).mono fun e w' h2 => ⟨h2.1.elim fun g hg => ⟨g, hg, fun h3 => absurd h3 h⟩, h2.2⟩
end Go.Proofs.YteplbbjmbhgllaaGreatDoor

namespace Go.Proofs.YteplbbjmbhgllaaGreatDoor
open Go.RowKit
set_option linter.unusedVariables false
set_option linter.unusedSimpArgs false

theorem moved_take3 {L : List UInt8} (h : 3 ≤ L.length) (h0 : byteN L 0 < 128) (h1 : byteN L 1 < 128) (h2 : byteN L 2 < 128) (p : Lx.Pl) : Lx.moved p (L.take 3) = Lx.stepP (Lx.stepP (Lx.moved p (L.take 1)) (byteN L 1)) (byteN L 2) := by
  match L, h with
  | a :: b :: c :: r, _ =>
    have e0 : a.toNat < 128 := h0
    have e1 : b.toNat < 128 := h1
    have e2 : c.toNat < 128 := h2
    show Lx.moved p ([a, b] ++ [c]) = Lx.stepP (Lx.stepP (Lx.moved p [a]) b.toNat) c.toNat
    rw [moved_snoc (by intro x hx; simp at hx; rcases hx with rfl | rfl <;> assumption) e2]
    show Lx.stepP (Lx.moved p ([a] ++ [b])) c.toNat = _
    rw [moved_snoc (by intro x hx; simp at hx; subst hx; assumption) e1]
set_option maxRecDepth 100000 in
set_option maxHeartbeats 8000000 in
theorem escape_any (b : Nat) (hb : 13 ≤ b) (r : ByteArray) (hr : r.size ≤ 1048576) (p : Lx.Pl) (hp : PlaceOk 6000000 p) (w : World) (hcur : CurAt b r p w) (hT : Tabs w) :
    Calls Tryz.prog 54 #[.pointer (some ⟨b, 0, none⟩)] w fun e w' => EscP b r p e w' ∧ StepB b w w' := by
  have HC := Lib.hid hcur
  have HT := Lib.hid hT
  have HNX := Lib.hid (fun W h1 h2 => next_any b hb r hr p (hp.mono (by omega)) W h1 h2)
  by_cases h0 : 0 < r.size
  · have hl0 : 0 < r.data.toList.length := by rw [szl]; exact h0
    by_cases hx : byteN r.data.toList 0 < 128
    · have hd := dec0_ascii h0 hx
      have HM := Lib.hid (moved_take1 hl0 hx p)
      simp only [hd] at HNX
      obtain ⟨x, ex⟩ : ∃ x, byteN r.data.toList 0 = x := ⟨_, rfl⟩
      rw [ex] at HNX HM hx
      clear hd hcur hT
      by_cases h8 : x = 120
      · have hE := escL_hex hl0 (ex.trans h8)
        have d1 : ((x : Int) == 110) = false := by simp; omega
        have d2 : ((x : Int) == 116) = false := by simp; omega
        have d3 : ((x : Int) == 114) = false := by simp; omega
        have d4 : ((x : Int) == 48) = false := by simp; omega
        have d5 : ((x : Int) == 92) = false := by simp; omega
        have d6 : ((x : Int) == 39) = false := by simp; omega
        have d7 : ((x : Int) == 34) = false := by simp; omega
        have d8 : ((x : Int) == 120) = true := by simp [h8]
        have HB0 : Hid (byteN r.data.toList 0 < 128) := Lib.hid (by omega)
        have hP1 : PlaceOk 6000001 (Lx.stepP p x) := stepP_ok hp (by omega) x
        clear hx ex h8
        obtain ⟨r1, hr1⟩ : ∃ r1, r.extract 1 r.size = r1 := ⟨_, rfl⟩
        obtain ⟨p1, hp1⟩ : ∃ p1, Lx.stepP p x = p1 := ⟨_, rfl⟩
        have hz1 : r1.size = r.size - 1 := by rw [← hr1]; exact drop_size r 1
        have hL1 : r1.data.toList = r.data.toList.drop 1 := by rw [← hr1]; exact drop_data r 1
        have HR1 := Lib.hid hr1
        have HP1 := Lib.hid hp1
        rw [hr1, hp1] at HNX
        rw [hp1] at HM hP1
        rw [szl, ← hL1] at hE
        clear hr1 hp1
        by_cases h2 : 2 ≤ r1.size
        · rw [if_pos (by omega)] at hE
          obtain ⟨t, ht⟩ : ∃ t, r1.extract 0 2 = t := ⟨_, rfl⟩
          have htz : t.size = 2 := by rw [← ht]; exact take_size h2
          have htd : t.data.toList = r1.data.toList.take 2 := by rw [← ht]; exact take_data r1 2
          rw [← htd] at hE
          have HCA := Lib.hid (fun W => containsAny_two t htz W)
          have HPU := Lib.hid (fun W (h1 : Tabs W) (h2 : 13 ≤ W.heap.size) => parse_over 16 8 (by omega) (by omega) (numM 16 255 0 t.data.toList) t (by omega) W h1 h2 (parse16b_any t (by omega) (by omega) W))
          have HX := Lib.hid (fun v (h : numM 16 255 0 t.data.toList = some v) => numM_hex (by rw [szl]; exact htz) h)
          have HTD := Lib.hid htd
          have HL1 := Lib.hid hL1
          have HZ1 := Lib.hid hz1
          have hr1s : r1.size ≤ 1048576 := by omega
          have hz2 : ¬ (r1.size : Int) < 2 := by omega
          clear htz htd hL1 hl0 hz1
          cases hN : numM 16 255 0 t.data.toList with
          | none =>
            rw [hN] at hE HPU
            unfold PuQ at HPU
            have HV := Lib.hid hE
            clear hE HX HTD HM hN
            go_enter Tryz.func54, Tryz.ntmps54
            go_wp2_with (first
              | (go_at_call 30; (with_reducible refine (HNX.out _ HC.out HT.out).mono ?_); rintro e w6 ⟨rfl, hcu, hst⟩; (have hcc := cells_of_block hcu; have hc0 := hcc.1 0; have hcf := hcc.2; have hlt6 := CurAt.lt hcu; (try simp at hc0); have HC6 := Lib.hid hcu; have HT6 := Lib.hid (hst.tabs hb HT.out); have HS6 := Lib.hid hst; clear hcc hcu hst))
              | (go_at_call 24; refine (HCA.out _).mono ?_))
            rintro e w7 ⟨⟨g, rfl, hg⟩, hbl⟩
            cases g with
            | true =>
              go_wp2
              go_returns
              exact ⟨escP_none HV.out rfl, HS6.out.trans (StepB.of (by omega) hbl)⟩
            | false =>
              obtain ⟨hc, hf, hz⟩ := cif hbl
              clear hg
              go_wp2_with (go_at_call 23; refine (HPU.out _ (tabs_below HT6.out (by omega) hbl) (by omega)).mono ?_)
              rintro e w8 ⟨⟨x1, x2, rfl⟩, hbl8⟩
              go_wp2
              go_returns
              exact ⟨escP_none HV.out rfl, HS6.out.trans (StepB.of (by omega) (below_step hbl hbl8))⟩
          | some v =>
            rw [hN] at hE HPU
            unfold PuQ at HPU
            have HV := Lib.hid hE
            obtain ⟨hv, hxy⟩ := HX.out v hN
            have HXY := Lib.hid hxy
            clear hE HX hN hxy
            go_enter Tryz.func54, Tryz.ntmps54
            go_wp2_with (first
              | (go_at_call 30; (with_reducible refine (HNX.out _ HC.out HT.out).mono ?_); rintro e w6 ⟨rfl, hcu, hst⟩; (have hcc := cells_of_block hcu; have hc0 := hcc.1 0; have hcf := hcc.2; have hlt6 := CurAt.lt hcu; (try simp at hc0); have HC6 := Lib.hid hcu; have HT6 := Lib.hid (hst.tabs hb HT.out); have HS6 := Lib.hid hst; clear hcc hcu hst))
              | (go_at_call 24; refine (HCA.out _).mono ?_))
            rintro e w7 ⟨⟨g, rfl, hg⟩, hbl⟩
            obtain rfl := hg HXY.out
            obtain ⟨hc, hf, hz⟩ := cif hbl
            clear hg
            have hlt7 : b < w7.heap.size := by omega
            go_wp2_with (go_at_call 23; refine (HPU.out _ (tabs_below HT6.out (by omega) hbl) (by omega)).mono ?_)
            rintro e w8 ⟨rfl, hbl8⟩
            have hbl2 := below_step hbl hbl8
            have HC8 := Lib.hid (HC6.out.keep hbl2)
            have HT8 := Lib.hid (tabs_below HT6.out (by omega) hbl2)
            have HS8 := Lib.hid (HS6.out.trans (StepB.of (by omega) hbl2))
            clear hc hf hz hc0 hcf
            obtain ⟨x0, y0, ex0, ey0, hx0, hy0, _⟩ := HXY.out
            have hb0 : byteN r1.data.toList 0 = x0 := by rw [← ex0, HTD.out]; unfold byteN; rw [List.getD_eq_getElem?_getD, List.getD_eq_getElem?_getD, List.getElem?_take, if_pos (by omega)]
            have hb1 : byteN r1.data.toList 1 = y0 := by rw [← ey0, HTD.out]; unfold byteN; rw [List.getD_eq_getElem?_getD, List.getD_eq_getElem?_getD, List.getElem?_take, if_pos (by omega)]
            have hN1 := fun W h1 h2 => next_any b hb r1 hr1s p1 (hP1.mono (by omega)) W h1 h2
            rw [dec0_ascii (by omega) (by omega)] at hN1
            dsimp only at hN1
            rw [hb0] at hN1
            have hr2 : byteN (r1.extract 1 r1.size).data.toList 0 = y0 := by rw [byte_rest (drop_data r1 1) 0, hb1]
            have hz2 := drop_size r1 1
            have hP2 : PlaceOk 6000002 (Lx.stepP p1 x0) := stepP_ok hP1 (by omega) x0
            have hN2 := fun W h1 h2 => next_any b hb (r1.extract 1 r1.size) (by omega) (Lx.stepP p1 x0) (hP2.mono (by omega)) W h1 h2
            rw [dec0_ascii (by omega) (by omega)] at hN2
            dsimp only at hN2
            rw [hr2] at hN2
            have HN1 := Lib.hid hN1
            have HN2 := Lib.hid hN2
            have HEND : Hid (∀ W, CurAt b ((r1.extract 1 r1.size).extract 1 (r1.extract 1 r1.size).size) (Lx.stepP (Lx.stepP p1 x0) y0) W → CurAt b (r.extract 3 r.size) (Lx.moved p (r.data.toList.take 3)) W) := Lib.hid fun W h => by
              rw [ext_ext, ← HR1.out, ext_ext] at h
              have hz1 := HZ1.out
              have k1 : byteN r.data.toList 1 = x0 := by rw [← hb0, byte_rest HL1.out 0]
              have k2 : byteN r.data.toList 2 = y0 := by rw [← hb1, byte_rest HL1.out 1]
              rw [moved_take3 (by rw [szl]; omega) HB0.out (by omega) (by omega), HM.out, k1, k2]
              exact h
            clear hN1 hN2 hb0 hb1 hr2 ex0 ey0 hP1 hP2 hz2
            go_wp2_with (first
              | (go_at_call 30; (with_reducible refine (HN1.out _ HC8.out HT8.out).mono ?_); rintro e w9 ⟨rfl, hcu9, hst9⟩; have HT9 := Lib.hid (hst9.tabs hb HT8.out))
              | (go_at_call 30; (with_reducible refine (HN2.out _ hcu9 HT9.out).mono ?_); rintro e w10 ⟨rfl, hcu10, hst10⟩))
            go_returns
            exact ⟨escP_some HV.out rfl (HEND.out _ hcu10), (HS8.out.trans hst9).trans hst10⟩
        · rw [if_neg (by omega)] at hE
          have HV := Lib.hid hE
          clear hE hL1 hl0
          go_enter Tryz.func54, Tryz.ntmps54
          go_wp2_with (go_at_call 30; (with_reducible refine (HNX.out _ HC.out HT.out).mono ?_); rintro e w6 ⟨rfl, hcu, hst⟩; (have hcc := cells_of_block hcu; have hc0 := hcc.1 0; have hcf := hcc.2; have hlt6 := CurAt.lt hcu; (try simp at hc0); clear hcc))
          go_returns
          exact ⟨escP_none HV.out rfl, hst⟩
      · have HE := Lib.hid (escL_one hl0 ex h8)
        have d8 : ((x : Int) == 120) = false := by simp; omega
        clear ex hl0 hr
        by_cases h1 : x = 110
        · have d1 : ((x : Int) == 110) = true := by simp [h1]
          skip
          have HV : Hid (Lx.escL r.data.toList = some (10, 1)) := Lib.hid (by rw [HE.out]; (repeat (rw [if_neg (by omega)])); rw [if_pos (by omega)]; (try rw [h1]))
          go_enter Tryz.func54, Tryz.ntmps54
          go_wp2_with (go_at_call 30; (with_reducible refine (HNX.out _ HC.out HT.out).mono ?_); rintro e w6 ⟨rfl, hcu, hst⟩)
          go_returns
          exact ⟨escP_some HV.out (by first | rfl | (congr 1; done)) (by rw [HM.out]; exact hcu), hst⟩
        have d1 : ((x : Int) == 110) = false := by simp; omega
        by_cases h2 : x = 116
        · have d2 : ((x : Int) == 116) = true := by simp [h2]
          skip
          have HV : Hid (Lx.escL r.data.toList = some (9, 1)) := Lib.hid (by rw [HE.out]; (repeat (rw [if_neg (by omega)])); rw [if_pos (by omega)]; (try rw [h2]))
          go_enter Tryz.func54, Tryz.ntmps54
          go_wp2_with (go_at_call 30; (with_reducible refine (HNX.out _ HC.out HT.out).mono ?_); rintro e w6 ⟨rfl, hcu, hst⟩)
          go_returns
          exact ⟨escP_some HV.out (by first | rfl | (congr 1; done)) (by rw [HM.out]; exact hcu), hst⟩
        have d2 : ((x : Int) == 116) = false := by simp; omega
        by_cases h3 : x = 114
        · have d3 : ((x : Int) == 114) = true := by simp [h3]
          skip
          have HV : Hid (Lx.escL r.data.toList = some (13, 1)) := Lib.hid (by rw [HE.out]; (repeat (rw [if_neg (by omega)])); rw [if_pos (by omega)]; (try rw [h3]))
          go_enter Tryz.func54, Tryz.ntmps54
          go_wp2_with (go_at_call 30; (with_reducible refine (HNX.out _ HC.out HT.out).mono ?_); rintro e w6 ⟨rfl, hcu, hst⟩)
          go_returns
          exact ⟨escP_some HV.out (by first | rfl | (congr 1; done)) (by rw [HM.out]; exact hcu), hst⟩
        have d3 : ((x : Int) == 114) = false := by simp; omega
        by_cases h4 : x = 48
        · have d4 : ((x : Int) == 48) = true := by simp [h4]
          skip
          have HV : Hid (Lx.escL r.data.toList = some (0, 1)) := Lib.hid (by rw [HE.out]; (repeat (rw [if_neg (by omega)])); rw [if_pos (by omega)]; (try rw [h4]))
          go_enter Tryz.func54, Tryz.ntmps54
          go_wp2_with (go_at_call 30; (with_reducible refine (HNX.out _ HC.out HT.out).mono ?_); rintro e w6 ⟨rfl, hcu, hst⟩)
          go_returns
          exact ⟨escP_some HV.out (by first | rfl | (congr 1; done)) (by rw [HM.out]; exact hcu), hst⟩
        have d4 : ((x : Int) == 48) = false := by simp; omega
        by_cases h5 : x = 92
        · have d5 : ((x : Int) == 92) = true := by simp [h5]
          skip
          have HV : Hid (Lx.escL r.data.toList = some (92, 1)) := Lib.hid (by rw [HE.out]; (repeat (rw [if_neg (by omega)])); rw [if_pos (by omega)]; (try rw [h5]))
          go_enter Tryz.func54, Tryz.ntmps54
          go_wp2_with (go_at_call 30; (with_reducible refine (HNX.out _ HC.out HT.out).mono ?_); rintro e w6 ⟨rfl, hcu, hst⟩)
          go_returns
          exact ⟨escP_some HV.out (by first | rfl | (congr 1; done)) (by rw [HM.out]; exact hcu), hst⟩
        have d5 : ((x : Int) == 92) = false := by simp; omega
        by_cases h6 : x = 39
        · have d6 : ((x : Int) == 39) = true := by simp [h6]
          skip
          have HV : Hid (Lx.escL r.data.toList = some (39, 1)) := Lib.hid (by rw [HE.out]; (repeat (rw [if_neg (by omega)])); rw [if_pos (by omega)]; (try rw [h6]))
          go_enter Tryz.func54, Tryz.ntmps54
          go_wp2_with (go_at_call 30; (with_reducible refine (HNX.out _ HC.out HT.out).mono ?_); rintro e w6 ⟨rfl, hcu, hst⟩)
          go_returns
          exact ⟨escP_some HV.out (by first | rfl | (congr 1; done)) (by rw [HM.out]; exact hcu), hst⟩
        have d6 : ((x : Int) == 39) = false := by simp; omega
        by_cases h7 : x = 34
        · have d7 : ((x : Int) == 34) = true := by simp [h7]
          skip
          have HV : Hid (Lx.escL r.data.toList = some (34, 1)) := Lib.hid (by rw [HE.out]; (repeat (rw [if_neg (by omega)])); rw [if_pos (by omega)]; (try rw [h7]))
          go_enter Tryz.func54, Tryz.ntmps54
          go_wp2_with (go_at_call 30; (with_reducible refine (HNX.out _ HC.out HT.out).mono ?_); rintro e w6 ⟨rfl, hcu, hst⟩)
          go_returns
          exact ⟨escP_some HV.out (by first | rfl | (congr 1; done)) (by rw [HM.out]; exact hcu), hst⟩
        have d7 : ((x : Int) == 34) = false := by simp; omega
        have HV : Hid (Lx.escL r.data.toList = none) := Lib.hid (by rw [HE.out]; simp [h1, h2, h3, h4, h5, h6, h7])
        go_enter Tryz.func54, Tryz.ntmps54
        go_wp2_with (go_at_call 30; (with_reducible refine (HNX.out _ HC.out HT.out).mono ?_); rintro e w6 ⟨rfl, hcu, hst⟩)
        go_returns
        exact ⟨escP_none HV.out rfl, hst⟩
    · have hh := dec0_high h0 hx
      have HV : Hid (Lx.escL r.data.toList = none) := Lib.hid (by rw [escL_one hl0 rfl (by omega), if_neg (by omega), if_neg (by omega), if_neg (by omega), if_neg (by omega), if_neg (by omega)])
      have hh2 := (dec0_le r).1
      generalize (dec0 r).1 = x at HNX hh hh2
      have d1 : ((x : Int) == 110) = false := by simp; omega
      have d2 : ((x : Int) == 116) = false := by simp; omega
      have d3 : ((x : Int) == 114) = false := by simp; omega
      have d4 : ((x : Int) == 48) = false := by simp; omega
      have d5 : ((x : Int) == 92) = false := by simp; omega
      have d6 : ((x : Int) == 39) = false := by simp; omega
      have d7 : ((x : Int) == 34) = false := by simp; omega
      have d8 : ((x : Int) == 120) = false := by simp; omega
      clear hh hx hl0 hcur hT hr
      go_enter Tryz.func54, Tryz.ntmps54
      go_wp2_with (go_at_call 30; (with_reducible refine (HNX.out _ HC.out HT.out).mono ?_); rintro e w6 ⟨rfl, hcu, hst⟩)
      go_returns
      exact ⟨escP_none HV.out rfl, hst⟩
  · have hd : dec0 r = (65533, 0) := by unfold dec0; rw [if_pos (by omega)]
    have HV : Hid (Lx.escL r.data.toList = none) := Lib.hid (by rw [List.eq_nil_of_length_eq_zero (by rw [szl]; omega : r.data.toList.length = 0)]; rfl)
    simp only [hd] at HNX
    clear hd hcur hT hr
    go_enter Tryz.func54, Tryz.ntmps54
    go_wp2_with (go_at_call 30; (with_reducible refine (HNX.out _ HC.out HT.out).mono ?_); rintro e w6 ⟨rfl, hcu, hst⟩)
    go_returns
    exact ⟨escP_none HV.out rfl, hst⟩
end Go.Proofs.YteplbbjmbhgllaaGreatDoor
