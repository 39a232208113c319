/-
  The program's token: a sign; all of it joined.
  DERIVED: THE SHELF's CONTRACTS AT THIS DUMP, IN PLAIN WORDS (tools/lay-plain.mjs out of 'TryzShelf2.lean', which tools/lay-shelf.mjs wrote): THE SAME DECLARATIONS UNDER THE SAME NAMES: 'import', 'namespace', 'open', 'def', 'theorem' AND NOTHING ELSE: no command of the shelf's: FOR A HAND-IN. Each laying: the table of numbers ('.._ren') and one theorem, a field a fact of the dump's own or the kernel's comparison; each contract: ONE APPLICATION.
  utf8.ValidString: a text of runes.
  What holds ahead of each token of the program's Tokens: plain facts.
-/
import Derived.Test.YteplbbjmbhgllaaGreatDoorLexM27
import Derived.Test.YteplbbjmbhgllaaGreatDoorLexM30
import Derived.Shelf.LaysM
import Derived.Shelf.LaysC
import Derived.Test.YteplbbjmbhgllaaGreatDoorProg
import Derived.Shelf.Unicode.ValidAny
import Derived.Test.YteplbbjmbhgllaaGreatDoorLexM24
namespace Go.Proofs.YteplbbjmbhgllaaGreatDoor
open Go.RowKit
set_option linter.unusedVariables false
set_option linter.unusedSimpArgs false

set_option maxRecDepth 100000 in
set_option maxHeartbeats 8000000 in
theorem token_sign (b : Nat) (hb : 13 ≤ b) (r : ByteArray) (hr : r.size ≤ 1048576) (h0 : 0 < r.size) (hlet : Lx.isLet (byteN r.data.toList 0) = false) (hdig : Lx.isDig (byteN r.data.toList 0) = false) (h39 : byteN r.data.toList 0 ≠ 39) (h34 : byteN r.data.toList 0 ≠ 34)
    (p : Lx.Pl) (hp : PlaceOk 4194304 p) (w : World) (hcur : CurAt b r p w) (hT : Tabs w) :
    Calls Tryz.prog 19 #[.pointer (some ⟨b, 0, none⟩)] w fun e w' => PTok b r p e w' ∧ StepB b w w' := by
  have HT0 := Lib.hid hT
  have hlt := hcur.lt
  have hz : 13 ≤ w.heap.size := by omega
  have hcc := cells_of_block hcur
  have hc0 := hcc.1 0
  have hc1 := hcc.1 1
  have hc2 := hcc.1 2
  have hcf := hcc.2
  simp at hc0 hc1 hc2
  clear hcc
  have hA1 := cell_alloc_if
  have hA2 := frozen_alloc_if
  have hA3 := cell_set_if
  have hB0 : Below w.heap.size w (w.alloc (.cells #[.int .i64 0, .int .i64 0, .int .i64 0, .string ⟨#[]⟩, .int .u64 0, .string ⟨#[]⟩] 32)).drew := Below.drew ((Below.refl _ _).alloc (Nat.le_refl _) _)
  have HCA := Lib.hid (hcur.keep hB0)
  have HTA := Lib.hid (tabs_below hT hz hB0)
  have HRA : Hid ((w.alloc (.cells #[.int .i64 0, .int .i64 0, .int .i64 0, .string ⟨#[]⟩, .int .u64 0, .string ⟨#[]⟩] 32)).drew.heap[w.heap.size]? = some (.cells #[.int .i64 0, .int .i64 0, .int .i64 0, .string ⟨#[]⟩, .int .u64 0, .string ⟨#[]⟩] 32 (0, 0))) := Lib.hid (heap_alloc_new w _)
  have HSA : Hid (StepB b w (w.alloc (.cells #[.int .i64 0, .int .i64 0, .int .i64 0, .string ⟨#[]⟩, .int .u64 0, .string ⟨#[]⟩] 32)).drew) := Lib.hid (StepB.of (by omega) hB0)
  have HPK := Lib.hid (fun W (h : CurAt b r p W) => peek_any b r p W h)
  have hpk := pk_le r
  clear hB0 hcur hT
  have hL := pk_let h0
  rw [hlet] at hL
  have hD := pk_dig h0
  rw [hdig] at hD
  have HLT := Lib.hid (fun W => letter_any (pk r) (by omega) W)
  rw [hL] at HLT
  have HDG := Lib.hid (fun W => digit_any (pk r) (by omega) W)
  rw [hD] at HDG
  clear hL hD
  have q39 : pk r ≠ 39 := fun h => h39 ((pk_eq h0 (by omega)).1 h)
  have q34 : pk r ≠ 34 := fun h => h34 ((pk_eq h0 (by omega)).1 h)
  have hd39 : ((pk r : Int) == 39) = false := by simp; omega
  have hd34 : ((pk r : Int) == 34) = false := by simp; omega
  have hSG := fun W (h1 : CurAt b r p W) (h2 : Tabs W) => signM_any b hb r hr p hp W h1 h2
  have htk := Lx.token_sign (fl := Lx.flF) (L := r.data.toList) (by rw [szl]; exact h0) hlet hdig h39 h34
  unfold SgP at hSG
  clear hlet hdig h39 h34 q39 q34
  generalize pk r = c at HPK HLT HDG hpk hd39 hd34
  cases hq : Lx.signL r.data.toList with
  | none =>
    rw [hq] at htk hSG
    have HT : Hid (Lx.tokenL Lx.flF r.data.toList = .error 2) := Lib.hid htk
    have HSG := Lib.hid hSG
    clear htk hq hSG
    go_enter Tryz.func19, Tryz.ntmps19
    go_wp2
    go_region
    go_wp2_with (first
  | (go_at_call 31; (with_reducible refine (HPK.out _ HCA.out).mono ?_); rintro e w5 ⟨rfl, hbl5⟩; have hz5 := hbl5.size; simp only [World.size_drew, World.size_alloc] at hz5; have HC5 := Lib.hid (HCA.out.keep hbl5); have HT5 := Lib.hid (tabs_below HTA.out (by simp only [World.size_drew, World.size_alloc]; omega) hbl5); have hR5 := (hbl5.block _ (by simp only [World.size_drew, World.size_alloc]; omega)).trans HRA.out; have HS5 := Lib.hid (HSA.out.trans (StepB.of (by simp only [World.size_drew, World.size_alloc]; omega) hbl5)))
  | (go_at_call 32; (with_reducible refine (HLT.out _).mono ?_); rintro e w' ⟨rfl, rfl⟩)
  | (go_at_call 34; (with_reducible refine (HDG.out _).mono ?_); rintro e w' ⟨rfl, rfl⟩)
  | (go_at_call 37; refine (HSG.out _ HC5.out HT5.out).mono ?_))
    rintro e w6 ⟨⟨tt, ⟨t1, t2, t3, t4, t5, t6, rfl⟩, rfl⟩, _, hst⟩
    have hR := (hst.2 _ (by omega) (by omega)).trans hR5
    have HS := Lib.hid (HS5.out.trans hst)
    clear hbl5 hR5 hst
    have hcr := cells_of_block hR
    have hr0 := hcr.1 0
    have hr1 := hcr.1 1
    have hr2 := hcr.1 2
    have hr3 := hcr.1 3
    have hr4 := hcr.1 4
    have hr5 := hcr.1 5
    have hrf := hcr.2
    have hlz := (HS.out).1.size
    have hlR := (Array.getElem?_eq_some_iff.1 hR).1
    have HR := Lib.hid hR
    simp at hr0 hr1 hr2 hr3 hr4 hr5
    clear hcr hR
    go_upto_region 20 with (fail)
    refine wp_world (fun W => W.heap[w.heap.size]? = some (.cells #[.int .i64 t1, .int .i64 t2, .int .i64 t3, .string t4, .int .u64 t5, .string t6] 32 (0, 0)) ∧ Hid (StepB b w W)) ⟨?_, Lib.hid ?_⟩ ?_
    · exact tok_set HR.out
    · repeat (refine StepB.setNew ?_ (by omega) (by omega))
      exact HS.out
    clear hr0 hr1 hr2 hr3 hr4 hr5 hrf hlz hlR HS HR
    rintro W7 ⟨hR, HS⟩
    have hcr := cells_of_block hR
    have hr0 := hcr.1 0
    have hr1 := hcr.1 1
    have hr2 := hcr.1 2
    have hr3 := hcr.1 3
    have hr4 := hcr.1 4
    have hr5 := hcr.1 5
    have hrf := hcr.2
    have hlz := (HS.out).1.size
    have hlR := (Array.getElem?_eq_some_iff.1 hR).1
    have HR := Lib.hid hR
    simp at hr0 hr1 hr2 hr3 hr4 hr5
    clear hcr hR
    go_wp2
    all_goals ((try simp only [Exit.inBlock, Exit.then]); go_light; refine bodyPost_ret (by simp [results, Tryz.results19, go_sem, *, ↓IntWalk.iteOmega]; try rfl) rfl ?_)
    refine ⟨ptok_err HT.out rfl (isTok _ _ _ _ _ _), ?_⟩
    repeat (refine StepB.setNew ?_ (by omega) (by omega))
    exact HS.out
  | some k =>
    have hkl := (Lx.signL_len hq).2
    rw [szl] at hkl
    rw [hq] at htk hSG
    have HT : Hid (Lx.tokenL Lx.flF r.data.toList = .ok ⟨7, k, 0, []⟩) := Lib.hid htk
    have hSG2 : ∀ W, CurAt b r p W → Tabs W → Calls Tryz.prog 37 #[.pointer (some ⟨b, 0, none⟩)] W fun e w' => e = .returned (.tuple #[tokV 7 (0, 0) (r.extract 0 k) 0 .empty, .bool true]) ∧ CurAt b (r.extract k r.size) (Lx.moved p (r.data.toList.take k)) w' ∧ StepB b W w' :=
      fun W h1 h2 => (hSG W h1 h2).mono fun e w' h => ⟨h.1, h.2.1 k rfl, h.2.2⟩
    unfold tokV at hSG2
    dsimp only at hSG2
    clear htk hq hSG
    have HRZ := Lib.hid (drop_size r k)
    obtain ⟨rk, hrk⟩ : ∃ rk, r.extract k r.size = rk := ⟨_, rfl⟩
    obtain ⟨pq, hpq⟩ : ∃ pq, Lx.moved p (r.data.toList.take k) = pq := ⟨_, rfl⟩
    obtain ⟨t, ht⟩ : ∃ t, r.extract 0 k = t := ⟨_, rfl⟩
    rw [hrk, hpq, ht] at hSG2
    rw [hrk] at HRZ
    have HRK := Lib.hid hrk
    have HPQ := Lib.hid hpq
    have hzI : (r.size : Int) - (rk.size : Int) = (k : Int) := by have := HRZ.out; omega
    have hzL : rk.size ≤ r.size := by omega
    have HSG := Lib.hid hSG2
    clear hrk hpq ht hSG2
    go_enter Tryz.func19, Tryz.ntmps19
    go_wp2
    go_region
    go_wp2_with (first
  | (go_at_call 31; (with_reducible refine (HPK.out _ HCA.out).mono ?_); rintro e w5 ⟨rfl, hbl5⟩; have hz5 := hbl5.size; simp only [World.size_drew, World.size_alloc] at hz5; have HC5 := Lib.hid (HCA.out.keep hbl5); have HT5 := Lib.hid (tabs_below HTA.out (by simp only [World.size_drew, World.size_alloc]; omega) hbl5); have hR5 := (hbl5.block _ (by simp only [World.size_drew, World.size_alloc]; omega)).trans HRA.out; have HS5 := Lib.hid (HSA.out.trans (StepB.of (by simp only [World.size_drew, World.size_alloc]; omega) hbl5)))
  | (go_at_call 32; (with_reducible refine (HLT.out _).mono ?_); rintro e w' ⟨rfl, rfl⟩)
  | (go_at_call 34; (with_reducible refine (HDG.out _).mono ?_); rintro e w' ⟨rfl, rfl⟩)
  | (go_at_call 37; refine (HSG.out _ HC5.out HT5.out).mono ?_))
    rintro e w6 ⟨rfl, hcu, hst⟩
    have hR := (hst.2 _ (by omega) (by omega)).trans hR5
    have HC := Lib.hid hcu
    have HS := Lib.hid (HS5.out.trans hst)
    clear hbl5 hR5 hcu hst
    have hcd := cells_of_block HC.out
    have hd0 := hcd.1 0
    have hdf := hcd.2
    (try simp at hd0)
    clear hcd
    have hcr := cells_of_block hR
    have hr0 := hcr.1 0
    have hr1 := hcr.1 1
    have hr2 := hcr.1 2
    have hr3 := hcr.1 3
    have hr4 := hcr.1 4
    have hr5 := hcr.1 5
    have hrf := hcr.2
    have hlz := (HS.out).1.size
    have hlR := (Array.getElem?_eq_some_iff.1 hR).1
    have HR := Lib.hid hR
    simp at hr0 hr1 hr2 hr3 hr4 hr5
    clear hcr hR
    go_upto_region 20 with (fail)
    refine wp_world (fun W => W.heap[w.heap.size]? = some (.cells #[.int .i64 7, .int .i64 0, .int .i64 0, .string t, .int .u64 0, .string .empty] 32 (0, 0)) ∧ Hid (CurAt b rk pq W) ∧ Hid (StepB b w W)) ⟨?_, Lib.hid ?_, Lib.hid ?_⟩ ?_
    · exact tok_set HR.out
    · repeat (refine CurAt.setNew ?_ (by omega))
      exact HC.out
    · repeat (refine StepB.setNew ?_ (by omega) (by omega))
      exact HS.out
    clear hr0 hr1 hr2 hr3 hr4 hr5 hrf hd0 hdf hlz hlR HC HS HR
    rintro W7 ⟨hR, HC, HS⟩
    have hcd := cells_of_block HC.out
    have hd0 := hcd.1 0
    have hdf := hcd.2
    (try simp at hd0)
    clear hcd
    have hcr := cells_of_block hR
    have hr0 := hcr.1 0
    have hr1 := hcr.1 1
    have hr2 := hcr.1 2
    have hr3 := hcr.1 3
    have hr4 := hcr.1 4
    have hr5 := hcr.1 5
    have hrf := hcr.2
    have hlz := (HS.out).1.size
    have hlR := (Array.getElem?_eq_some_iff.1 hR).1
    have HR := Lib.hid hR
    simp at hr0 hr1 hr2 hr3 hr4 hr5
    clear hcr hR
    go_upto_region 23 with (fail)
    refine wp_world (fun W => W.heap[w.heap.size]? = some (.cells #[.int .i64 7, .int .i64 0, .int .i64 0, .string (r.extract 0 k), .int .u64 0, .string .empty] 32 (0, 0)) ∧ Hid (CurAt b rk pq W) ∧ Hid (StepB b w W)) ⟨?_, Lib.hid ?_, Lib.hid ?_⟩ ?_
    · exact setC_at HR.out _ _
    · repeat (refine CurAt.setNew ?_ (by omega))
      exact HC.out
    · repeat (refine StepB.setNew ?_ (by omega) (by omega))
      exact HS.out
    clear hr0 hr1 hr2 hr3 hr4 hr5 hrf hd0 hdf hlz hlR HC HS HR
    rintro W9 ⟨hR, HC, HS⟩
    have hcd := cells_of_block HC.out
    have hd0 := hcd.1 0
    have hdf := hcd.2
    (try simp at hd0)
    clear hcd
    have hcr := cells_of_block hR
    have hr0 := hcr.1 0
    have hr1 := hcr.1 1
    have hr2 := hcr.1 2
    have hr3 := hcr.1 3
    have hr4 := hcr.1 4
    have hr5 := hcr.1 5
    have hrf := hcr.2
    have hlz := (HS.out).1.size
    have hlR := (Array.getElem?_eq_some_iff.1 hR).1
    have HR := Lib.hid hR
    simp at hr0 hr1 hr2 hr3 hr4 hr5
    clear hcr hR
    go_wp2
    all_goals ((try simp only [Exit.inBlock, Exit.then]); go_light; refine bodyPost_ret (by simp [results, Tryz.results19, go_sem, *, ↓IntWalk.iteOmega]; try rfl) rfl ?_)
    refine ⟨ptok_ok HT.out rfl ?_, ?_⟩
    · show CurAt b (r.extract k r.size) (Lx.moved p (r.data.toList.take k)) _
      rw [HRK.out, HPQ.out]
      repeat (refine CurAt.setNew ?_ (by omega))
      exact HC.out
    · repeat (refine StepB.setNew ?_ (by omega) (by omega))
      exact HS.out
/-- The program's token. -/
theorem token_any (b : Nat) (hb : 13 ≤ b) (r : ByteArray) (hr : r.size ≤ 1048576) (h0 : 0 < r.size) (hv : Lx.Val r.data.toList) (p : Lx.Pl) (hp : PlaceOk 4194304 p) (w : World) (hcur : CurAt b r p w) (hT : Tabs w) :
    Calls Tryz.prog 19 #[.pointer (some ⟨b, 0, none⟩)] w fun e w' => PTok b r p e w' ∧ StepB b w w' := by
  have hl : 0 < r.data.toList.length := by rw [szl]; exact h0
  have hvr : byteN r.data.toList 0 < 128 → Lx.Val (r.data.toList.drop 1) := fun h => by
    have e := drop_byte (l := r.data.toList) (k := 0) hl
    rw [List.drop_zero] at e
    rw [e] at hv
    exact Lx.Val.tail h hv
  cases hlet : Lx.isLet (byteN r.data.toList 0) with
  | true => exact token_word b hb r hr h0 hlet p hp w hcur hT
  | false =>
    cases hdig : Lx.isDig (byteN r.data.toList 0) with
    | true => exact token_num b hb r hr h0 hlet hdig p hp w hcur hT
    | false =>
      by_cases h39 : byteN r.data.toList 0 = 39
      · exact token_char b hb r hr h0 h39 (hvr (by omega)) p hp w hcur hT
      · by_cases h34 : byteN r.data.toList 0 = 34
        · exact token_text b hb r hr h0 h34 (hvr (by omega)) p hp w hcur hT
        · exact token_sign b hb r hr h0 hlet hdig h39 h34 p hp w hcur hT
end Go.Proofs.YteplbbjmbhgllaaGreatDoor

namespace Go.Proofs
open Go.Shelf
def Tryz.lays196_ren : Go.Shelf.Ren := ⟨fun | 196 => 15 | 259 => 28 | n => n, fun | 9 => 9 | 4 => 4 | 3 => 3 | 5 => 5 | 12 => 12 | 119 => 61 | 0 => 0 | 46 => 36 | 139 => 64 | 138 => 63 | 53 => 30 | n => n, fun | 3 => 0 | 4 => 1 | n => n⟩
theorem Tryz.lays196 : Go.Proofs.Lays.n196 Tryz.prog Tryz.lays196_ren := {
  mixed := by kernel_rfl
  f196 := Tryz.func15.trans (congrArg some (by kernel_rfl))
  f259 := Tryz.func28.trans (congrArg some (by kernel_rfl))
  t0 := Tryz.underlying0
  a0 := Tryz.isAgg0
  z0 := Tryz.sizeOf0
  v0 := Tryz.zeroValue0
  t3 := Tryz.underlying3
  a3 := Tryz.isAgg3
  z3 := Tryz.sizeOf3
  v3 := Tryz.zeroValue3
  t4 := Tryz.underlying4
  a4 := Tryz.isAgg4
  z4 := Tryz.sizeOf4
  v4 := Tryz.zeroValue4
  t5 := Tryz.underlying5
  a5 := Tryz.isAgg5
  z5 := Tryz.sizeOf5
  v5 := Tryz.zeroValue5
  t9 := Tryz.underlying9
  a9 := Tryz.isAgg9
  z9 := Tryz.sizeOf9
  v9 := Tryz.zeroValue9
  t12 := Tryz.underlying12
  a12 := Tryz.isAgg12
  z12 := Tryz.sizeOf12
  v12 := Tryz.zeroValue12
  t46 := Tryz.underlying36
  a46 := Tryz.isAgg36
  z46 := Tryz.sizeOf36
  v46 := Tryz.zeroValue36
  t53 := Tryz.underlying30
  a53 := Tryz.isAgg30
  z53 := Tryz.sizeOf30
  v53 := Tryz.zeroValue30
  t119 := Tryz.underlying61
  a119 := Tryz.isAgg61
  z119 := Tryz.sizeOf61
  t138 := Tryz.underlying63
  a138 := Tryz.isAgg63
  z138 := Tryz.sizeOf63
  v138 := Tryz.zeroValue63
  t139 := Tryz.underlying64
  a139 := Tryz.isAgg64
  z139 := Tryz.sizeOf64
  v139 := Tryz.zeroValue64
  g3 := by kernel_rfl
  g4 := by kernel_rfl }
open Go.RowKit Go.Lib in
/-- unicode/utf8.ValidString at every string. -/
theorem Tryz.utf8_ValidString (s : ByteArray) (w : World) (hs : s.size ≤ 9223372036854775807) (hT : Lib.Utf8Tabs 0 1 w) :
    Calls Tryz.prog 15 #[.string s] w fun e w' => e = .returned (.bool (Lib.validD s.data.toList)) ∧ Below w.heap.size w w' := Any.utf8_ValidString Tryz.lays196 s w hs hT
end Go.Proofs

namespace Go.Proofs.YteplbbjmbhgllaaGreatDoor
open Go.RowKit
set_option linter.unusedVariables false
set_option linter.unusedSimpArgs false

theorem valid_spoilt : ∀ (n : Nat) (l : List UInt8) (k : Nat), Lib.validGoD n l = (Lx.spoiltF n l k).isNone
  | 0, l, k => rfl
  | n + 1, l, k => by
    unfold Lib.validGoD Lx.spoiltF
    by_cases c : l = []
    · rw [if_pos c, if_pos c]; rfl
    · rw [if_neg c, if_neg c]
      by_cases c2 : (Lib.decodeL l).1 = 65533 ∧ (Lib.decodeL l).2 = 1
      · rw [if_pos c2, if_pos c2]; rfl
      · rw [if_neg c2, if_neg c2]
        exact valid_spoilt n _ _
/-- ValidString. -/
theorem valid_any (s : ByteArray) (hs : s.size ≤ 1048576) (w : World) (hT : Tabs w) : Calls Tryz.prog 15 #[.string s] w fun e w' => e = .returned (.bool (Lx.spoilt s.data.toList).isNone) ∧ Below w.heap.size w w' := by
  refine (Tryz.utf8_ValidString s w (by omega) hT.utf).mono ?_
  rintro e w' ⟨rfl, hb⟩
  exact ⟨by rw [show Lib.validD s.data.toList = (Lx.spoilt s.data.toList).isNone from valid_spoilt _ _ 0], hb⟩
end Go.Proofs.YteplbbjmbhgllaaGreatDoor

namespace Go.Proofs.YteplbbjmbhgllaaGreatDoor
open Go.RowKit
set_option linter.unusedVariables false
set_option linter.unusedSimpArgs false

theorem isBlank_lt : ∀ c, Lx.isBlank c = true → c < 128 := fun c h => by unfold Lx.isBlank at h; simp at h; omega
theorem tokA_blanks {fl : Lx.Bs → Nat → Option Nat} : ∀ (l : List UInt8) (p : Lx.Pl) (acc : List Lx.Tok), Lx.tokA fl l p acc = Lx.tokA fl (l.drop (Lx.spanL Lx.isBlank l).length) (Lx.moved p (l.take (Lx.spanL Lx.isBlank l).length)) acc
  | [], p, acc => rfl
  | b :: l, p, acc => by
    cases hb : Lx.isBlank b.toNat with
    | false =>
      have e : Lx.spanL Lx.isBlank (b :: l) = [] := by unfold Lx.spanL; rw [List.takeWhile_cons, hb]; rfl
      rw [e]
      rfl
    | true =>
      have h128 := isBlank_lt _ hb
      have e : Lx.spanL Lx.isBlank (b :: l) = b :: Lx.spanL Lx.isBlank l := by unfold Lx.spanL; rw [List.takeWhile_cons, hb]; rfl
      rw [e, Lx.tokA_blank (by simp) (by exact hb), List.length_cons, List.drop_succ_cons, List.take_succ_cons]
      show Lx.tokA fl l (Lx.moved p [b]) acc = _
      rw [tokA_blanks l (Lx.moved p [b]) acc]
      have : Lx.moved p (b :: l.take (Lx.spanL Lx.isBlank l).length) = Lx.moved (Lx.moved p [b]) (l.take (Lx.spanL Lx.isBlank l).length) := by
        rw [show b :: l.take (Lx.spanL Lx.isBlank l).length = [b] ++ l.take (Lx.spanL Lx.isBlank l).length from rfl, Lx.moved_app (.ascii h128 .nil)]
      rw [← this]
      rfl
theorem span_stop {p : Nat → Bool} : ∀ (l : List UInt8), 0 < (l.drop (Lx.spanL p l).length).length → p (byteN (l.drop (Lx.spanL p l).length) 0) = false
  | [], h => by simp [Lx.spanL] at h
  | b :: l, h => by
    cases hb : p b.toNat with
    | false =>
      have e : Lx.spanL p (b :: l) = [] := by unfold Lx.spanL; rw [List.takeWhile_cons, hb]; rfl
      rw [e]
      exact hb
    | true =>
      have e : Lx.spanL p (b :: l) = b :: Lx.spanL p l := by unfold Lx.spanL; rw [List.takeWhile_cons, hb]; rfl
      rw [e, List.length_cons, List.drop_succ_cons] at h ⊢
      exact span_stop l h
theorem val_span {p : Nat → Bool} (hp : ∀ c, p c = true → c < 128) {l : List UInt8} (h : Lx.Val l) : Lx.Val (l.drop (Lx.spanL p l).length) := by
  have ha := Lx.span_ascii (p := p) hp (l := l) rfl
  rw [← List.take_append_drop (Lx.spanL p l).length l] at h
  exact (Lx.Val.asciis ha h).2
/-- What holds ahead of each token. -/
structure PTokS (base b : Nat) (w0 : World) (rk : ByteArray) (v : Value) (acc : List Lx.Tok) (pq : Lx.Pl) (w : World) : Prop where
  own : OwnT (b + 1) w v acc
  res : w.heap[base]? = some (.cells #[.int .i64 0, .int .i64 0] 25 (0, 0))
  cur : CurAt b rk pq w
  low : Below base w0 w
  tab : Tabs w
theorem OwnT.step {b : Nat} {w w' : World} {v : Value} {acc : List Lx.Tok} (h : OwnT (b + 1) w v acc) (hs : StepB b w w') : OwnT (b + 1) w' v acc :=
  OwnL.keep h fun k hk => hs.2 k (by have := (h.lt hk).1; omega) (h.lt hk).2
theorem PTokS.step {base b : Nat} {w0 w w' : World} {rk rk' : ByteArray} {v : Value} {acc : List Lx.Tok} {pq pq' : Lx.Pl} (h : PTokS base b w0 rk v acc pq w) (h1 : base < b) (h2 : 13 ≤ b) (hs : StepB b w w') (hc : CurAt b rk' pq' w') : PTokS base b w0 rk' v acc pq' w' :=
  ⟨h.own.step hs, (hs.1.block _ h1).trans h.res, hc, h.low.trans (hs.1.mono (by omega)), hs.tabs h2 h.tab⟩
/-- A blank's end: behind it nothing or no blank. -/
theorem blank_end (r : ByteArray) : 0 < (r.extract (Lx.spanL Lx.isBlank r.data.toList).length r.size).size → Lx.isBlank (byteN (r.extract (Lx.spanL Lx.isBlank r.data.toList).length r.size).data.toList 0) = false := by
  intro h
  rw [← szl, drop_data] at h
  rw [drop_data]
  exact span_stop _ h
end Go.Proofs.YteplbbjmbhgllaaGreatDoor
