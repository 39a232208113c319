/-
  The program's token: a name or a word.
  The program's token: a number.
-/
import Derived.Test.YteplbbjmbhgllaaGreatDoorLexP27
import Derived.Test.YteplbbjmbhgllaaGreatDoorLexP14
import Derived.BigRegion
import Derived.RegionTactic
namespace Go.Proofs.YteplbbjmbhgllaaGreatDoor
open Go.RowKit
set_option linter.unusedVariables false
set_option linter.unusedSimpArgs false

/-- What token answers. -/
def PTok (b : Nat) (r : ByteArray) (p : Lx.Pl) (e : Ending) (w' : World) : Prop := match Lx.tokenL Lx.flF r.data.toList with
  | .ok t => e = .returned (.tuple #[tokV t.kind (0, 0) (r.extract 0 t.len) t.bits ⟨t.data.toArray⟩, .int .i64 0]) ∧ CurAt b (r.extract t.len r.size) (Lx.moved p (r.data.toList.take t.len)) w'
  | .error k => ∃ t, IsTok t ∧ e = .returned (.tuple #[t, .int .i64 (k : Int)])
theorem ptok_ok {b : Nat} {r : ByteArray} {p : Lx.Pl} {e : Ending} {w' : World} {t : Lx.TokB} (h : Lx.tokenL Lx.flF r.data.toList = .ok t) (he : e = .returned (.tuple #[tokV t.kind (0, 0) (r.extract 0 t.len) t.bits ⟨t.data.toArray⟩, .int .i64 0]))
    (hc : CurAt b (r.extract t.len r.size) (Lx.moved p (r.data.toList.take t.len)) w') : PTok b r p e w' := by
  unfold PTok; rw [h]; exact ⟨he, hc⟩
theorem ptok_err {b : Nat} {r : ByteArray} {p : Lx.Pl} {e : Ending} {w' : World} {k : Nat} {t : Value} (h : Lx.tokenL Lx.flF r.data.toList = .error k) (he : e = .returned (.tuple #[t, .int .i64 (k : Int)])) (ht : IsTok t) : PTok b r p e w' := by
  unfold PTok; rw [h]; exact ⟨t, ht, he⟩
/-- The rune that is peeked at, and the byte. -/
theorem pk_byte {r : ByteArray} (h0 : 0 < r.size) : (pk r = byteN r.data.toList 0 ∧ byteN r.data.toList 0 < 128) ∨ (128 ≤ pk r ∧ 128 ≤ byteN r.data.toList 0) := by
  unfold pk
  rw [if_neg (by omega)]
  by_cases h : byteN r.data.toList 0 < 128
  · exact .inl ⟨by rw [dec_ascii h0 h], h⟩
  · exact .inr ⟨dec_high h0 h, by omega⟩
theorem isLet_high {c : Nat} (h : 128 ≤ c) : Lx.isLet c = false := by unfold Lx.isLet; simp; omega
theorem isDig_high {c : Nat} (h : 128 ≤ c) : Lx.isDig c = false := by unfold Lx.isDig; simp; omega
theorem pk_let {r : ByteArray} (h0 : 0 < r.size) : Lx.isLet (pk r) = Lx.isLet (byteN r.data.toList 0) := by
  rcases pk_byte h0 with h | h
  · rw [h.1]
  · rw [isLet_high h.1, isLet_high h.2]
theorem pk_dig {r : ByteArray} (h0 : 0 < r.size) : Lx.isDig (pk r) = Lx.isDig (byteN r.data.toList 0) := by
  rcases pk_byte h0 with h | h
  · rw [h.1]
  · rw [isDig_high h.1, isDig_high h.2]
theorem pk_eq {r : ByteArray} (h0 : 0 < r.size) {v : Nat} (hv : v < 128) : pk r = v ↔ byteN r.data.toList 0 = v := by
  rcases pk_byte h0 with h | h
  · rw [h.1]
  · constructor <;> intro e <;> omega
theorem span_take (p : Nat → Bool) (L : List UInt8) : Lx.spanL p L = L.take (Lx.spanL p L).length := by
  unfold Lx.spanL
  have h := List.takeWhile_append_dropWhile (p := fun b : UInt8 => p b.toNat) (l := L)
  have key : ∀ h d : List UInt8, h ++ d = L → h = L.take h.length := by rintro h d rfl; simp
  exact key _ _ h
theorem span_size (p : Nat → Bool) (r : ByteArray) : (Lx.spanL p r.data.toList).length ≤ r.size := by have := Lx.spanL_le p r.data.toList; rw [szl] at this; exact this
theorem pWd_lt : ∀ c, pWd c = true → c < 128 := fun c h => by
  unfold pWd Lx.isLet Lx.isDig at h; simp at h; omega
theorem wp_world {P : Program} {code : Code} {Q : Exit → Act → World → Prop} {a : Act} {w : World} (R : World → Prop) (hw : R w) (h : ∀ W, R W → Code.wp P code Q a W) : Code.wp P code Q a w := h w hw
theorem tok_set {w : World} {c : Nat} {u0 u1 u2 u3 u4 u5 v0 v1 v2 v3 v4 v5 : Value} {T : TypeId} (h : w.heap[c]? = some (.cells #[u0, u1, u2, u3, u4, u5] T (0, 0))) :
    ((((((w.setCell ⟨c, 0, none⟩ v0).setCell ⟨c, 1, none⟩ v1).setCell ⟨c, 2, none⟩ v2).setCell ⟨c, 3, none⟩ v3).setCell ⟨c, 4, none⟩ v4).setCell ⟨c, 5, none⟩ v5).heap[c]? = some (.cells #[v0, v1, v2, v3, v4, v5] T (0, 0)) :=
  setC_at (setC_at (setC_at (setC_at (setC_at (setC_at h 0 v0) 1 v1) 2 v2) 3 v3) 4 v4) 5 v5
set_option maxRecDepth 100000 in
set_option maxHeartbeats 8000000 in
theorem token_word (b : Nat) (hb : 13 ≤ b) (r : ByteArray) (hr : r.size ≤ 1048576) (h0 : 0 < r.size) (hlet : Lx.isLet (byteN r.data.toList 0) = true) (p : Lx.Pl) (hp : PlaceOk 4194304 p) (w : World) (hcur : CurAt b r p w) (hT : Tabs w) :
    Calls Tryz.prog 19 #[.pointer (some ⟨b, 0, none⟩)] w fun e w' => PTok b r p e w' ∧ StepB b w w' := by
  have HT0 := Lib.hid hT
  have hlt := hcur.lt
  have hz : 13 ≤ w.heap.size := by omega
  have hcc := cells_of_block hcur
  have hc0 := hcc.1 0
  have hc1 := hcc.1 1
  have hc2 := hcc.1 2
  have hcf := hcc.2
  simp at hc0 hc1 hc2
  clear hcc
  have hA1 := cell_alloc_if
  have hA2 := frozen_alloc_if
  have hA3 := cell_set_if
  have hB0 : Below w.heap.size w (w.alloc (.cells #[.int .i64 0, .int .i64 0, .int .i64 0, .string ⟨#[]⟩, .int .u64 0, .string ⟨#[]⟩] 32)).drew := Below.drew ((Below.refl _ _).alloc (Nat.le_refl _) _)
  have HCA := Lib.hid (hcur.keep hB0)
  have HTA := Lib.hid (tabs_below hT hz hB0)
  have HRA : Hid ((w.alloc (.cells #[.int .i64 0, .int .i64 0, .int .i64 0, .string ⟨#[]⟩, .int .u64 0, .string ⟨#[]⟩] 32)).drew.heap[w.heap.size]? = some (.cells #[.int .i64 0, .int .i64 0, .int .i64 0, .string ⟨#[]⟩, .int .u64 0, .string ⟨#[]⟩] 32 (0, 0))) := Lib.hid (heap_alloc_new w _)
  have HSA : Hid (StepB b w (w.alloc (.cells #[.int .i64 0, .int .i64 0, .int .i64 0, .string ⟨#[]⟩, .int .u64 0, .string ⟨#[]⟩] 32)).drew) := Lib.hid (StepB.of (by omega) hB0)
  have HPK := Lib.hid (fun W (h : CurAt b r p W) => peek_any b r p W h)
  have hpk := pk_le r
  clear hB0 hcur hT
  have hL := pk_let h0
  rw [hlet] at hL
  have HLT := Lib.hid (fun W => letter_any (pk r) (by omega) W)
  rw [hL] at HLT
  clear hL
  have HWH := Lib.hid (fun W (h1 : CurAt b r p W) (h2 : Tabs W) => while_any b hb 33 pWd pWd_lt (enters_of Tryz.func33 (by kernel_rfl) rfl) (fun c W hc => wordR_any c hc W) r hr p hp W h1 h2)
  have hkl := span_size pWd r
  have htk := Lx.token_let (fl := Lx.flF) (L := r.data.toList) (k := (Lx.spanL pWd r.data.toList).length) (by rw [szl]; exact h0) hlet (by rw [szl]; exact hkl) (span_take pWd r.data.toList)
  obtain ⟨k, hk⟩ : ∃ k, (Lx.spanL pWd r.data.toList).length = k := ⟨_, rfl⟩
  rw [hk] at HWH hkl htk
  clear hk hlet
  have HRZ := Lib.hid (drop_size r k)
  obtain ⟨rk, hrk⟩ : ∃ rk, r.extract k r.size = rk := ⟨_, rfl⟩
  obtain ⟨pq, hpq⟩ : ∃ pq, Lx.moved p (r.data.toList.take k) = pq := ⟨_, rfl⟩
  obtain ⟨t, ht⟩ : ∃ t, r.extract 0 k = t := ⟨_, rfl⟩
  have htz : t.size = k := by rw [← ht]; exact take_size hkl
  have htd : t.data.toList = r.data.toList.take k := by rw [← ht]; exact take_data r k
  rw [hrk, hpq, ht] at HWH
  rw [hrk] at HRZ
  have HRK := Lib.hid hrk
  have HPQ := Lib.hid hpq
  have HTK := Lib.hid ht
  have hzI : (r.size : Int) - (rk.size : Int) = (k : Int) := by have := HRZ.out; omega
  have hzL : rk.size ≤ r.size := by omega
  rw [← htd] at htk
  have hwd := fun W => word_any t (by omega) W
  clear hrk hpq htd
  generalize pk r = c at HPK HLT hpk
  by_cases c64 : 64 < k
  · have HT := Lib.hid (htk.trans (if_pos c64))
    have h64 : decide ((t.size : Int) > 64) = true := decide_eq_true (by omega)
    have HTZ := Lib.hid htz
    have h642 : 64 < t.size := by omega
    clear htk hwd ht htz
    go_enter Tryz.func19, Tryz.ntmps19
    go_wp2
    go_region
    go_wp2_with (first
      | (go_at_call 31; (with_reducible refine (HPK.out _ HCA.out).mono ?_); rintro e w5 ⟨rfl, hbl5⟩; have hz5 := hbl5.size; simp only [World.size_drew, World.size_alloc] at hz5; have HC5 := Lib.hid (HCA.out.keep hbl5); have HT5 := Lib.hid (tabs_below HTA.out (by simp only [World.size_drew, World.size_alloc]; omega) hbl5); have hR5 := (hbl5.block _ (by simp only [World.size_drew, World.size_alloc]; omega)).trans HRA.out; have HS5 := Lib.hid (HSA.out.trans (StepB.of (by simp only [World.size_drew, World.size_alloc]; omega) hbl5)))
      | (go_at_call 32; (with_reducible refine (HLT.out _).mono ?_); rintro e w' ⟨rfl, rfl⟩))
    refine (HWH.out _ HC5.out HT5.out).mono ?_
    rintro e w6 ⟨rfl, hcu, hst⟩
    have hR := (hst.2 _ (by omega) (by omega)).trans hR5
    have HC := Lib.hid hcu
    have HS := Lib.hid (HS5.out.trans hst)
    clear hbl5 hR5 hcu hst
    have hcd := cells_of_block HC.out
    have hd0 := hcd.1 0
    have hdf := hcd.2
    (try simp at hd0)
    clear hcd
    have hcr := cells_of_block hR
    have hr0 := hcr.1 0
    have hr1 := hcr.1 1
    have hr2 := hcr.1 2
    have hr3 := hcr.1 3
    have hr4 := hcr.1 4
    have hr5 := hcr.1 5
    have hrf := hcr.2
    have hlz := (HS.out).1.size
    have hlR := (Array.getElem?_eq_some_iff.1 hR).1
    have HR := Lib.hid hR
    simp at hr0 hr1 hr2 hr3 hr4 hr5
    clear hcr hR
    go_upto_region 6 with (fail)
    refine wp_world (fun W => W.heap[w.heap.size]? = some (.cells #[.int .i64 1, .int .i64 0, .int .i64 0, .string t, .int .u64 0, .string ⟨#[]⟩] 32 (0, 0)) ∧ Hid (CurAt b rk pq W) ∧ Hid (StepB b w W)) ⟨?_, Lib.hid ?_, Lib.hid ?_⟩ ?_
    · exact tok_set HR.out
    · repeat (refine CurAt.setNew ?_ (by omega))
      exact HC.out
    · repeat (refine StepB.setNew ?_ (by omega) (by omega))
      exact HS.out
    clear hr0 hr1 hr2 hr3 hr4 hr5 hrf hd0 hdf hlz hlR HC HS HR
    rintro W7 ⟨hR, HC, HS⟩
    have hcd := cells_of_block HC.out
    have hd0 := hcd.1 0
    have hdf := hcd.2
    (try simp at hd0)
    clear hcd
    have hcr := cells_of_block hR
    have hr0 := hcr.1 0
    have hr1 := hcr.1 1
    have hr2 := hcr.1 2
    have hr3 := hcr.1 3
    have hr4 := hcr.1 4
    have hr5 := hcr.1 5
    have hrf := hcr.2
    have hlz := (HS.out).1.size
    have hlR := (Array.getElem?_eq_some_iff.1 hR).1
    have HR := Lib.hid hR
    simp at hr0 hr1 hr2 hr3 hr4 hr5
    clear hcr hR
    go_wp2
    all_goals ((try simp only [Exit.inBlock, Exit.then]); go_light; refine bodyPost_ret (by simp [results, Tryz.results19, go_sem, *, ↓IntWalk.iteOmega]; try rfl) rfl ?_)
    refine ⟨ptok_err HT.out rfl (isTok _ _ _ _ _ _), ?_⟩
    repeat (refine StepB.setNew ?_ (by omega) (by omega))
    exact HS.out
  · have hT2 := htk.trans (if_neg c64)
    have h64 : decide ((t.size : Int) > 64) = false := decide_eq_false (by omega)
    have h642 : ¬ 64 < t.size := by omega
    have HTZ := Lib.hid htz
    clear htk ht htz
    cases hbw : decide (t.data.toList ∈ Lx.words) with
    | true =>
      have HT : Hid (Lx.tokenL Lx.flF r.data.toList = .ok ⟨2, k, 0, []⟩) := Lib.hid (hT2.trans (by rw [if_pos (of_decide_eq_true hbw)]))
      rw [hbw] at hwd
      have HWD := Lib.hid hwd
      clear hT2 hbw hwd
      go_enter Tryz.func19, Tryz.ntmps19
      go_wp2
      go_region
      go_wp2_with (first
        | (go_at_call 31; (with_reducible refine (HPK.out _ HCA.out).mono ?_); rintro e w5 ⟨rfl, hbl5⟩; have hz5 := hbl5.size; simp only [World.size_drew, World.size_alloc] at hz5; have HC5 := Lib.hid (HCA.out.keep hbl5); have HT5 := Lib.hid (tabs_below HTA.out (by simp only [World.size_drew, World.size_alloc]; omega) hbl5); have hR5 := (hbl5.block _ (by simp only [World.size_drew, World.size_alloc]; omega)).trans HRA.out; have HS5 := Lib.hid (HSA.out.trans (StepB.of (by simp only [World.size_drew, World.size_alloc]; omega) hbl5)))
        | (go_at_call 32; (with_reducible refine (HLT.out _).mono ?_); rintro e w' ⟨rfl, rfl⟩))
      refine (HWH.out _ HC5.out HT5.out).mono ?_
      rintro e w6 ⟨rfl, hcu, hst⟩
      have hR := (hst.2 _ (by omega) (by omega)).trans hR5
      have HC := Lib.hid hcu
      have HS := Lib.hid (HS5.out.trans hst)
      clear hbl5 hR5 hcu hst
      have hcd := cells_of_block HC.out
      have hd0 := hcd.1 0
      have hdf := hcd.2
      (try simp at hd0)
      clear hcd
      have hcr := cells_of_block hR
      have hr0 := hcr.1 0
      have hr1 := hcr.1 1
      have hr2 := hcr.1 2
      have hr3 := hcr.1 3
      have hr4 := hcr.1 4
      have hr5 := hcr.1 5
      have hrf := hcr.2
      have hlz := (HS.out).1.size
      have hlR := (Array.getElem?_eq_some_iff.1 hR).1
      have HR := Lib.hid hR
      simp at hr0 hr1 hr2 hr3 hr4 hr5
      clear hcr hR
      go_upto_region 6 with (fail)
      refine wp_world (fun W => W.heap[w.heap.size]? = some (.cells #[.int .i64 1, .int .i64 0, .int .i64 0, .string t, .int .u64 0, .string ⟨#[]⟩] 32 (0, 0)) ∧ Hid (CurAt b rk pq W) ∧ Hid (StepB b w W)) ⟨?_, Lib.hid ?_, Lib.hid ?_⟩ ?_
      · exact tok_set HR.out
      · repeat (refine CurAt.setNew ?_ (by omega))
        exact HC.out
      · repeat (refine StepB.setNew ?_ (by omega) (by omega))
        exact HS.out
      clear hr0 hr1 hr2 hr3 hr4 hr5 hrf hd0 hdf hlz hlR HC HS HR
      rintro W7 ⟨hR, HC, HS⟩
      have hcd := cells_of_block HC.out
      have hd0 := hcd.1 0
      have hdf := hcd.2
      (try simp at hd0)
      clear hcd
      have hcr := cells_of_block hR
      have hr0 := hcr.1 0
      have hr1 := hcr.1 1
      have hr2 := hcr.1 2
      have hr3 := hcr.1 3
      have hr4 := hcr.1 4
      have hr5 := hcr.1 5
      have hrf := hcr.2
      have hlz := (HS.out).1.size
      have hlR := (Array.getElem?_eq_some_iff.1 hR).1
      have HR := Lib.hid hR
      simp at hr0 hr1 hr2 hr3 hr4 hr5
      clear hcr hR
      go_upto_region 20 with (go_at_call 13; (with_reducible refine (HWD.out _).mono ?_); rintro e w' ⟨rfl, rfl⟩)
      refine wp_world (fun W => W.heap[w.heap.size]? = some (.cells #[.int .i64 2, .int .i64 0, .int .i64 0, .string t, .int .u64 0, .string ⟨#[]⟩] 32 (0, 0)) ∧ Hid (CurAt b rk pq W) ∧ Hid (StepB b w W)) ⟨?_, Lib.hid ?_, Lib.hid ?_⟩ ?_
      · exact setC_at HR.out _ _
      · repeat (refine CurAt.setNew ?_ (by omega))
        exact HC.out
      · repeat (refine StepB.setNew ?_ (by omega) (by omega))
        exact HS.out
      clear hr0 hr1 hr2 hr3 hr4 hr5 hrf hd0 hdf hlz hlR HC HS HR
      rintro W8 ⟨hR, HC, HS⟩
      have hcd := cells_of_block HC.out
      have hd0 := hcd.1 0
      have hdf := hcd.2
      (try simp at hd0)
      clear hcd
      have hcr := cells_of_block hR
      have hr0 := hcr.1 0
      have hr1 := hcr.1 1
      have hr2 := hcr.1 2
      have hr3 := hcr.1 3
      have hr4 := hcr.1 4
      have hr5 := hcr.1 5
      have hrf := hcr.2
      have hlz := (HS.out).1.size
      have hlR := (Array.getElem?_eq_some_iff.1 hR).1
      have HR := Lib.hid hR
      simp at hr0 hr1 hr2 hr3 hr4 hr5
      clear hcr hR
      go_upto_region 23 with (fail)
      refine wp_world (fun W => W.heap[w.heap.size]? = some (.cells #[.int .i64 2, .int .i64 0, .int .i64 0, .string (r.extract 0 k), .int .u64 0, .string ⟨#[]⟩] 32 (0, 0)) ∧ Hid (CurAt b rk pq W) ∧ Hid (StepB b w W)) ⟨?_, Lib.hid ?_, Lib.hid ?_⟩ ?_
      · exact setC_at HR.out _ _
      · repeat (refine CurAt.setNew ?_ (by omega))
        exact HC.out
      · repeat (refine StepB.setNew ?_ (by omega) (by omega))
        exact HS.out
      clear hr0 hr1 hr2 hr3 hr4 hr5 hrf hd0 hdf hlz hlR HC HS HR
      rintro W9 ⟨hR, HC, HS⟩
      have hcd := cells_of_block HC.out
      have hd0 := hcd.1 0
      have hdf := hcd.2
      (try simp at hd0)
      clear hcd
      have hcr := cells_of_block hR
      have hr0 := hcr.1 0
      have hr1 := hcr.1 1
      have hr2 := hcr.1 2
      have hr3 := hcr.1 3
      have hr4 := hcr.1 4
      have hr5 := hcr.1 5
      have hrf := hcr.2
      have hlz := (HS.out).1.size
      have hlR := (Array.getElem?_eq_some_iff.1 hR).1
      have HR := Lib.hid hR
      simp at hr0 hr1 hr2 hr3 hr4 hr5
      clear hcr hR
      go_wp2
      all_goals ((try simp only [Exit.inBlock, Exit.then]); go_light; refine bodyPost_ret (by simp [results, Tryz.results19, go_sem, *, ↓IntWalk.iteOmega]; try rfl) rfl ?_)
      refine ⟨ptok_ok HT.out rfl ?_, ?_⟩
      · show CurAt b (r.extract k r.size) (Lx.moved p (r.data.toList.take k)) _
        rw [HRK.out, HPQ.out]
        repeat (refine CurAt.setNew ?_ (by omega))
        exact HC.out
      · repeat (refine StepB.setNew ?_ (by omega) (by omega))
        exact HS.out
    | false =>
      have HT : Hid (Lx.tokenL Lx.flF r.data.toList = .ok ⟨1, k, 0, []⟩) := Lib.hid (hT2.trans (by rw [if_neg (of_decide_eq_false hbw)]))
      rw [hbw] at hwd
      have HWD := Lib.hid hwd
      clear hT2 hbw hwd
      go_enter Tryz.func19, Tryz.ntmps19
      go_wp2
      go_region
      go_wp2_with (first
        | (go_at_call 31; (with_reducible refine (HPK.out _ HCA.out).mono ?_); rintro e w5 ⟨rfl, hbl5⟩; have hz5 := hbl5.size; simp only [World.size_drew, World.size_alloc] at hz5; have HC5 := Lib.hid (HCA.out.keep hbl5); have HT5 := Lib.hid (tabs_below HTA.out (by simp only [World.size_drew, World.size_alloc]; omega) hbl5); have hR5 := (hbl5.block _ (by simp only [World.size_drew, World.size_alloc]; omega)).trans HRA.out; have HS5 := Lib.hid (HSA.out.trans (StepB.of (by simp only [World.size_drew, World.size_alloc]; omega) hbl5)))
        | (go_at_call 32; (with_reducible refine (HLT.out _).mono ?_); rintro e w' ⟨rfl, rfl⟩))
      refine (HWH.out _ HC5.out HT5.out).mono ?_
      rintro e w6 ⟨rfl, hcu, hst⟩
      have hR := (hst.2 _ (by omega) (by omega)).trans hR5
      have HC := Lib.hid hcu
      have HS := Lib.hid (HS5.out.trans hst)
      clear hbl5 hR5 hcu hst
      have hcd := cells_of_block HC.out
      have hd0 := hcd.1 0
      have hdf := hcd.2
      (try simp at hd0)
      clear hcd
      have hcr := cells_of_block hR
      have hr0 := hcr.1 0
      have hr1 := hcr.1 1
      have hr2 := hcr.1 2
      have hr3 := hcr.1 3
      have hr4 := hcr.1 4
      have hr5 := hcr.1 5
      have hrf := hcr.2
      have hlz := (HS.out).1.size
      have hlR := (Array.getElem?_eq_some_iff.1 hR).1
      have HR := Lib.hid hR
      simp at hr0 hr1 hr2 hr3 hr4 hr5
      clear hcr hR
      go_upto_region 6 with (fail)
      refine wp_world (fun W => W.heap[w.heap.size]? = some (.cells #[.int .i64 1, .int .i64 0, .int .i64 0, .string t, .int .u64 0, .string ⟨#[]⟩] 32 (0, 0)) ∧ Hid (CurAt b rk pq W) ∧ Hid (StepB b w W)) ⟨?_, Lib.hid ?_, Lib.hid ?_⟩ ?_
      · exact tok_set HR.out
      · repeat (refine CurAt.setNew ?_ (by omega))
        exact HC.out
      · repeat (refine StepB.setNew ?_ (by omega) (by omega))
        exact HS.out
      clear hr0 hr1 hr2 hr3 hr4 hr5 hrf hd0 hdf hlz hlR HC HS HR
      rintro W7 ⟨hR, HC, HS⟩
      have hcd := cells_of_block HC.out
      have hd0 := hcd.1 0
      have hdf := hcd.2
      (try simp at hd0)
      clear hcd
      have hcr := cells_of_block hR
      have hr0 := hcr.1 0
      have hr1 := hcr.1 1
      have hr2 := hcr.1 2
      have hr3 := hcr.1 3
      have hr4 := hcr.1 4
      have hr5 := hcr.1 5
      have hrf := hcr.2
      have hlz := (HS.out).1.size
      have hlR := (Array.getElem?_eq_some_iff.1 hR).1
      have HR := Lib.hid hR
      simp at hr0 hr1 hr2 hr3 hr4 hr5
      clear hcr hR
      go_upto_region 20 with (go_at_call 13; (with_reducible refine (HWD.out _).mono ?_); rintro e w' ⟨rfl, rfl⟩)
      go_upto_region 23 with (fail)
      refine wp_world (fun W => W.heap[w.heap.size]? = some (.cells #[.int .i64 1, .int .i64 0, .int .i64 0, .string (r.extract 0 k), .int .u64 0, .string ⟨#[]⟩] 32 (0, 0)) ∧ Hid (CurAt b rk pq W) ∧ Hid (StepB b w W)) ⟨?_, Lib.hid ?_, Lib.hid ?_⟩ ?_
      · exact setC_at HR.out _ _
      · repeat (refine CurAt.setNew ?_ (by omega))
        exact HC.out
      · repeat (refine StepB.setNew ?_ (by omega) (by omega))
        exact HS.out
      clear hr0 hr1 hr2 hr3 hr4 hr5 hrf hd0 hdf hlz hlR HC HS HR
      rintro W9 ⟨hR, HC, HS⟩
      have hcd := cells_of_block HC.out
      have hd0 := hcd.1 0
      have hdf := hcd.2
      (try simp at hd0)
      clear hcd
      have hcr := cells_of_block hR
      have hr0 := hcr.1 0
      have hr1 := hcr.1 1
      have hr2 := hcr.1 2
      have hr3 := hcr.1 3
      have hr4 := hcr.1 4
      have hr5 := hcr.1 5
      have hrf := hcr.2
      have hlz := (HS.out).1.size
      have hlR := (Array.getElem?_eq_some_iff.1 hR).1
      have HR := Lib.hid hR
      simp at hr0 hr1 hr2 hr3 hr4 hr5
      clear hcr hR
      go_wp2
      all_goals ((try simp only [Exit.inBlock, Exit.then]); go_light; refine bodyPost_ret (by simp [results, Tryz.results19, go_sem, *, ↓IntWalk.iteOmega]; try rfl) rfl ?_)
      refine ⟨ptok_ok HT.out rfl ?_, ?_⟩
      · show CurAt b (r.extract k r.size) (Lx.moved p (r.data.toList.take k)) _
        rw [HRK.out, HPQ.out]
        repeat (refine CurAt.setNew ?_ (by omega))
        exact HC.out
      · repeat (refine StepB.setNew ?_ (by omega) (by omega))
        exact HS.out
end Go.Proofs.YteplbbjmbhgllaaGreatDoor

namespace Go.Proofs.YteplbbjmbhgllaaGreatDoor
open Go.RowKit
set_option linter.unusedVariables false
set_option linter.unusedSimpArgs false

set_option maxRecDepth 100000 in
set_option maxHeartbeats 8000000 in
theorem token_num (b : Nat) (hb : 13 ≤ b) (r : ByteArray) (hr : r.size ≤ 1048576) (h0 : 0 < r.size) (hlet : Lx.isLet (byteN r.data.toList 0) = false) (hdig : Lx.isDig (byteN r.data.toList 0) = true) (p : Lx.Pl) (hp : PlaceOk 4194304 p) (w : World) (hcur : CurAt b r p w) (hT : Tabs w) :
    Calls Tryz.prog 19 #[.pointer (some ⟨b, 0, none⟩)] w fun e w' => PTok b r p e w' ∧ StepB b w w' := by
  have HT0 := Lib.hid hT
  have hlt := hcur.lt
  have hz : 13 ≤ w.heap.size := by omega
  have hcc := cells_of_block hcur
  have hc0 := hcc.1 0
  have hc1 := hcc.1 1
  have hc2 := hcc.1 2
  have hcf := hcc.2
  simp at hc0 hc1 hc2
  clear hcc
  have hA1 := cell_alloc_if
  have hA2 := frozen_alloc_if
  have hA3 := cell_set_if
  have hB0 : Below w.heap.size w (w.alloc (.cells #[.int .i64 0, .int .i64 0, .int .i64 0, .string ⟨#[]⟩, .int .u64 0, .string ⟨#[]⟩] 32)).drew := Below.drew ((Below.refl _ _).alloc (Nat.le_refl _) _)
  have HCA := Lib.hid (hcur.keep hB0)
  have HTA := Lib.hid (tabs_below hT hz hB0)
  have HRA : Hid ((w.alloc (.cells #[.int .i64 0, .int .i64 0, .int .i64 0, .string ⟨#[]⟩, .int .u64 0, .string ⟨#[]⟩] 32)).drew.heap[w.heap.size]? = some (.cells #[.int .i64 0, .int .i64 0, .int .i64 0, .string ⟨#[]⟩, .int .u64 0, .string ⟨#[]⟩] 32 (0, 0))) := Lib.hid (heap_alloc_new w _)
  have HSA : Hid (StepB b w (w.alloc (.cells #[.int .i64 0, .int .i64 0, .int .i64 0, .string ⟨#[]⟩, .int .u64 0, .string ⟨#[]⟩] 32)).drew) := Lib.hid (StepB.of (by omega) hB0)
  have HPK := Lib.hid (fun W (h : CurAt b r p W) => peek_any b r p W h)
  have hpk := pk_le r
  clear hB0 hcur hT
  have hL := pk_let h0
  rw [hlet] at hL
  have hD := pk_dig h0
  rw [hdig] at hD
  have HLT := Lib.hid (fun W => letter_any (pk r) (by omega) W)
  rw [hL] at HLT
  have HDG := Lib.hid (fun W => digit_any (pk r) (by omega) W)
  rw [hD] at HDG
  clear hL hD
  have hNU := fun W (h1 : CurAt b r p W) (h2 : Tabs W) => number_any b hb r hr p hp W h1 h2
  have hkl := span_size pNm r
  have htk := Lx.token_dig (fl := Lx.flF) (L := r.data.toList) (k := (Lx.spanL pNm r.data.toList).length) (by rw [szl]; exact h0) hlet hdig (by rw [szl]; exact hkl) (span_take pNm r.data.toList)
  obtain ⟨k, hk⟩ : ∃ k, (Lx.spanL pNm r.data.toList).length = k := ⟨_, rfl⟩
  rw [hk] at hNU hkl htk
  clear hk hlet hdig
  have HRZ := Lib.hid (drop_size r k)
  obtain ⟨rk, hrk⟩ : ∃ rk, r.extract k r.size = rk := ⟨_, rfl⟩
  obtain ⟨pq, hpq⟩ : ∃ pq, Lx.moved p (r.data.toList.take k) = pq := ⟨_, rfl⟩
  obtain ⟨t, ht⟩ : ∃ t, r.extract 0 k = t := ⟨_, rfl⟩
  have htd : t.data.toList = r.data.toList.take k := by rw [← ht]; exact take_data r k
  rw [hrk, hpq, ht] at hNU
  rw [hrk] at HRZ
  have HRK := Lib.hid hrk
  have HPQ := Lib.hid hpq
  have hzI : (r.size : Int) - (rk.size : Int) = (k : Int) := by have := HRZ.out; omega
  have hzL : rk.size ≤ r.size := by omega
  rw [← htd] at htk
  unfold NuP at hNU
  clear hrk hpq htd ht
  generalize pk r = c at HPK HLT HDG hpk
  cases hnl : Lx.numL Lx.flF t.data.toList with
  | none =>
    rw [hnl] at htk hNU
    have HT : Hid (Lx.tokenL Lx.flF r.data.toList = .error 2) := Lib.hid htk
    have HNU := Lib.hid hNU
    clear htk hnl hNU
    go_enter Tryz.func19, Tryz.ntmps19
    go_wp2
    go_region
    go_wp2_with (first
      | (go_at_call 31; (with_reducible refine (HPK.out _ HCA.out).mono ?_); rintro e w5 ⟨rfl, hbl5⟩; have hz5 := hbl5.size; simp only [World.size_drew, World.size_alloc] at hz5; have HC5 := Lib.hid (HCA.out.keep hbl5); have HT5 := Lib.hid (tabs_below HTA.out (by simp only [World.size_drew, World.size_alloc]; omega) hbl5); have hR5 := (hbl5.block _ (by simp only [World.size_drew, World.size_alloc]; omega)).trans HRA.out; have HS5 := Lib.hid (HSA.out.trans (StepB.of (by simp only [World.size_drew, World.size_alloc]; omega) hbl5)))
      | (go_at_call 32; (with_reducible refine (HLT.out _).mono ?_); rintro e w' ⟨rfl, rfl⟩)
      | (go_at_call 34; (with_reducible refine (HDG.out _).mono ?_); rintro e w' ⟨rfl, rfl⟩))
    refine (HNU.out _ HC5.out HT5.out).mono ?_
    rintro e w6 ⟨⟨tt, ⟨t1, t2, t3, t4, t5, t6, rfl⟩, rfl⟩, hcu, hst⟩
    have hR := (hst.2 _ (by omega) (by omega)).trans hR5
    have HC := Lib.hid hcu
    have HS := Lib.hid (HS5.out.trans hst)
    clear hbl5 hR5 hcu hst
    have hcd := cells_of_block HC.out
    have hd0 := hcd.1 0
    have hdf := hcd.2
    (try simp at hd0)
    clear hcd
    have hcr := cells_of_block hR
    have hr0 := hcr.1 0
    have hr1 := hcr.1 1
    have hr2 := hcr.1 2
    have hr3 := hcr.1 3
    have hr4 := hcr.1 4
    have hr5 := hcr.1 5
    have hrf := hcr.2
    have hlz := (HS.out).1.size
    have hlR := (Array.getElem?_eq_some_iff.1 hR).1
    have HR := Lib.hid hR
    simp at hr0 hr1 hr2 hr3 hr4 hr5
    clear hcr hR
    go_upto_region 20 with (fail)
    refine wp_world (fun W => W.heap[w.heap.size]? = some (.cells #[.int .i64 t1, .int .i64 t2, .int .i64 t3, .string t4, .int .u64 t5, .string t6] 32 (0, 0)) ∧ Hid (CurAt b rk pq W) ∧ Hid (StepB b w W)) ⟨?_, Lib.hid ?_, Lib.hid ?_⟩ ?_
    · exact tok_set HR.out
    · repeat (refine CurAt.setNew ?_ (by omega))
      exact HC.out
    · repeat (refine StepB.setNew ?_ (by omega) (by omega))
      exact HS.out
    clear hr0 hr1 hr2 hr3 hr4 hr5 hrf hd0 hdf hlz hlR HC HS HR
    rintro W7 ⟨hR, HC, HS⟩
    have hcd := cells_of_block HC.out
    have hd0 := hcd.1 0
    have hdf := hcd.2
    (try simp at hd0)
    clear hcd
    have hcr := cells_of_block hR
    have hr0 := hcr.1 0
    have hr1 := hcr.1 1
    have hr2 := hcr.1 2
    have hr3 := hcr.1 3
    have hr4 := hcr.1 4
    have hr5 := hcr.1 5
    have hrf := hcr.2
    have hlz := (HS.out).1.size
    have hlR := (Array.getElem?_eq_some_iff.1 hR).1
    have HR := Lib.hid hR
    simp at hr0 hr1 hr2 hr3 hr4 hr5
    clear hcr hR
    go_wp2
    all_goals ((try simp only [Exit.inBlock, Exit.then]); go_light; refine bodyPost_ret (by simp [results, Tryz.results19, go_sem, *, ↓IntWalk.iteOmega]; try rfl) rfl ?_)
    refine ⟨ptok_err HT.out rfl (isTok _ _ _ _ _ _), ?_⟩
    repeat (refine StepB.setNew ?_ (by omega) (by omega))
    exact HS.out
  | some kn =>
    obtain ⟨kd, n⟩ := kn
    rw [hnl] at htk hNU
    dsimp only at htk hNU
    unfold tokV at hNU
    dsimp only at hNU
    have HT : Hid (Lx.tokenL Lx.flF r.data.toList = .ok ⟨kd, k, n, []⟩) := Lib.hid htk
    have HNU := Lib.hid hNU
    clear htk hnl hNU
    go_enter Tryz.func19, Tryz.ntmps19
    go_wp2
    go_region
    go_wp2_with (first
      | (go_at_call 31; (with_reducible refine (HPK.out _ HCA.out).mono ?_); rintro e w5 ⟨rfl, hbl5⟩; have hz5 := hbl5.size; simp only [World.size_drew, World.size_alloc] at hz5; have HC5 := Lib.hid (HCA.out.keep hbl5); have HT5 := Lib.hid (tabs_below HTA.out (by simp only [World.size_drew, World.size_alloc]; omega) hbl5); have hR5 := (hbl5.block _ (by simp only [World.size_drew, World.size_alloc]; omega)).trans HRA.out; have HS5 := Lib.hid (HSA.out.trans (StepB.of (by simp only [World.size_drew, World.size_alloc]; omega) hbl5)))
      | (go_at_call 32; (with_reducible refine (HLT.out _).mono ?_); rintro e w' ⟨rfl, rfl⟩)
      | (go_at_call 34; (with_reducible refine (HDG.out _).mono ?_); rintro e w' ⟨rfl, rfl⟩))
    refine (HNU.out _ HC5.out HT5.out).mono ?_
    rintro e w6 ⟨rfl, hcu, hst⟩
    have hR := (hst.2 _ (by omega) (by omega)).trans hR5
    have HC := Lib.hid hcu
    have HS := Lib.hid (HS5.out.trans hst)
    clear hbl5 hR5 hcu hst
    have hcd := cells_of_block HC.out
    have hd0 := hcd.1 0
    have hdf := hcd.2
    (try simp at hd0)
    clear hcd
    have hcr := cells_of_block hR
    have hr0 := hcr.1 0
    have hr1 := hcr.1 1
    have hr2 := hcr.1 2
    have hr3 := hcr.1 3
    have hr4 := hcr.1 4
    have hr5 := hcr.1 5
    have hrf := hcr.2
    have hlz := (HS.out).1.size
    have hlR := (Array.getElem?_eq_some_iff.1 hR).1
    have HR := Lib.hid hR
    simp at hr0 hr1 hr2 hr3 hr4 hr5
    clear hcr hR
    go_upto_region 20 with (fail)
    refine wp_world (fun W => W.heap[w.heap.size]? = some (.cells #[.int .i64 (kd : Int), .int .i64 0, .int .i64 0, .string t, .int .u64 (n : Int), .string .empty] 32 (0, 0)) ∧ Hid (CurAt b rk pq W) ∧ Hid (StepB b w W)) ⟨?_, Lib.hid ?_, Lib.hid ?_⟩ ?_
    · exact tok_set HR.out
    · repeat (refine CurAt.setNew ?_ (by omega))
      exact HC.out
    · repeat (refine StepB.setNew ?_ (by omega) (by omega))
      exact HS.out
    clear hr0 hr1 hr2 hr3 hr4 hr5 hrf hd0 hdf hlz hlR HC HS HR
    rintro W7 ⟨hR, HC, HS⟩
    have hcd := cells_of_block HC.out
    have hd0 := hcd.1 0
    have hdf := hcd.2
    (try simp at hd0)
    clear hcd
    have hcr := cells_of_block hR
    have hr0 := hcr.1 0
    have hr1 := hcr.1 1
    have hr2 := hcr.1 2
    have hr3 := hcr.1 3
    have hr4 := hcr.1 4
    have hr5 := hcr.1 5
    have hrf := hcr.2
    have hlz := (HS.out).1.size
    have hlR := (Array.getElem?_eq_some_iff.1 hR).1
    have HR := Lib.hid hR
    simp at hr0 hr1 hr2 hr3 hr4 hr5
    clear hcr hR
    go_upto_region 23 with (fail)
    refine wp_world (fun W => W.heap[w.heap.size]? = some (.cells #[.int .i64 (kd : Int), .int .i64 0, .int .i64 0, .string (r.extract 0 k), .int .u64 (n : Int), .string .empty] 32 (0, 0)) ∧ Hid (CurAt b rk pq W) ∧ Hid (StepB b w W)) ⟨?_, Lib.hid ?_, Lib.hid ?_⟩ ?_
    · exact setC_at HR.out _ _
    · repeat (refine CurAt.setNew ?_ (by omega))
      exact HC.out
    · repeat (refine StepB.setNew ?_ (by omega) (by omega))
      exact HS.out
    clear hr0 hr1 hr2 hr3 hr4 hr5 hrf hd0 hdf hlz hlR HC HS HR
    rintro W9 ⟨hR, HC, HS⟩
    have hcd := cells_of_block HC.out
    have hd0 := hcd.1 0
    have hdf := hcd.2
    (try simp at hd0)
    clear hcd
    have hcr := cells_of_block hR
    have hr0 := hcr.1 0
    have hr1 := hcr.1 1
    have hr2 := hcr.1 2
    have hr3 := hcr.1 3
    have hr4 := hcr.1 4
    have hr5 := hcr.1 5
    have hrf := hcr.2
    have hlz := (HS.out).1.size
    have hlR := (Array.getElem?_eq_some_iff.1 hR).1
    have HR := Lib.hid hR
    simp at hr0 hr1 hr2 hr3 hr4 hr5
    clear hcr hR
    go_wp2
    all_goals ((try simp only [Exit.inBlock, Exit.then]); go_light; refine bodyPost_ret (by simp [results, Tryz.results19, go_sem, *, ↓IntWalk.iteOmega]; try rfl) rfl ?_)
    refine ⟨ptok_ok HT.out rfl ?_, ?_⟩
    · show CurAt b (r.extract k r.size) (Lx.moved p (r.data.toList.take k)) _
      rw [HRK.out, HPQ.out]
      repeat (refine CurAt.setNew ?_ (by omega))
      exact HC.out
    · repeat (refine StepB.setNew ?_ (by omega) (by omega))
      exact HS.out
end Go.Proofs.YteplbbjmbhgllaaGreatDoor
