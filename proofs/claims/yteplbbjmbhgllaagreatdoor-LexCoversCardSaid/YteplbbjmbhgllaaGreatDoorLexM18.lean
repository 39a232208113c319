/-
  The program's cursor: peek and next.
  The program's while: runes as long as they are so.
  strings.Builder over this program: copyCheck, WriteByte, WriteRune (after the walks of the kit's shelf, whose body of copyCheck is another).
  internal/strconv.ParseUint at base 16 and 8 (after the walk of the kit's shelf at base 10); strconv.ParseUint.
-/
import Derived.Test.YteplbbjmbhgllaaGreatDoorLexM16
import Derived.Test.YteplbbjmbhgllaaGreatDoorShelf
import Derived.Test.YteplbbjmbhgllaaGreatDoorLexM07
import Derived.Test.YteplbbjmbhgllaaGreatDoorLexM12
import Derived.Test.YteplbbjmbhgllaaGreatDoorLexM15
import Derived.Laws.RangeAny
import Derived.Test.YteplbbjmbhgllaaGreatDoorIf
import Derived.Shelf.Strings.Builder1
import Derived.Laws.EntriesVeiled
import Derived.Test.YteplbbjmbhgllaaGreatDoorLexM06
import Derived.Lib.ConvBytes
import Derived.Lib.AtoiAllMem
namespace Go.Proofs.YteplbbjmbhgllaaGreatDoor
open Go.RowKit
set_option linter.unusedVariables false
set_option linter.unusedSimpArgs false

/-- The cursor in its block. -/
def CurAt (b : Nat) (r : ByteArray) (p : Lx.Pl) (w : World) : Prop := w.heap[b]? = some (.cells #[.string r, .int .i64 p.1, .int .i64 p.2] 45 (0, 0))
/-- No block but b is another; new ones may be there. -/
def StepB (b : Nat) (w w' : World) : Prop := Below b w w' ∧ ∀ k, b < k → k < w.heap.size → w'.heap[k]? = w.heap[k]?
theorem CurAt.lt {b : Nat} {r : ByteArray} {p : Lx.Pl} {w : World} (h : CurAt b r p w) : b < w.heap.size := (Array.getElem?_eq_some_iff.1 h).1
theorem CurAt.keep {b : Nat} {r : ByteArray} {p : Lx.Pl} {w w' : World} (h : CurAt b r p w) (hb : Below w.heap.size w w') : CurAt b r p w' := (hb.block _ h.lt).trans h
theorem StepB.refl (b : Nat) (w : World) : StepB b w w := ⟨Below.refl _ _, fun _ _ _ => rfl⟩
theorem StepB.trans {b : Nat} {w1 w2 w3 : World} (h : StepB b w1 w2) (k : StepB b w2 w3) : StepB b w1 w3 :=
  ⟨h.1.trans k.1, fun i hi hl => (k.2 i hi (Nat.lt_of_lt_of_le hl h.1.size)).trans (h.2 i hi hl)⟩
theorem StepB.of {b : Nat} {w w' : World} (hb : b ≤ w.heap.size) (h : Below w.heap.size w w') : StepB b w w' := ⟨h.mono hb, fun k _ hl => h.block k hl⟩
theorem StepB.set {b o : Nat} {v : Value} {w w' : World} (h : StepB b w w') : StepB b w (w'.setCell ⟨b, o, none⟩ v) :=
  ⟨h.1.setCell (p := ⟨b, o, none⟩) (Nat.le_refl b) v, fun k hk hl => (setC_other _ _ _ _ (by omega)).trans (h.2 k hk hl)⟩
theorem StepB.low {b B : Nat} {w w' : World} (h : StepB b w w') (hB : B ≤ b) : Below B w w' := h.1.mono hB
/-- What the library's variables hold. -/
structure Tabs (w : World) : Prop where
  utf : Lib.Utf8Tabs 0 1 w
  syn : ∃ ev, w.cell? ⟨6, 0, none⟩ = some ev ∧ (ev = .nilIface ∨ ∃ te pe, ev = .iface te pe)
  rng : ∃ ev, w.cell? ⟨7, 0, none⟩ = some ev ∧ (ev = .nilIface ∨ ∃ te pe, ev = .iface te pe)
  mxl : ∃ m : Int, w.cell? ⟨8, 0, none⟩ = some (.int .i64 m)
  one : w.cell? ⟨3, 0, none⟩ = some (.float .f64 (Lx.dblN 1))
  ten : ∀ i, i < 16 → w.cell? ⟨4, i, none⟩ = some (.float .f64 (Lx.dblN (10 ^ i)))
theorem tabs_below {B : Nat} {w w' : World} (h : Tabs w) (hB : 13 ≤ B) (hb : Below B w w') : Tabs w' := by
  have k : ∀ b o, b < 13 → w'.cell? ⟨b, o, none⟩ = w.cell? ⟨b, o, none⟩ := fun b o hl => hb.cell (p := ⟨b, o, none⟩) (by show b < B; omega)
  refine ⟨⟨fun c hc => (k 0 c (by omega)).trans (h.utf.1 c hc), fun i hi => ⟨(k 1 _ (by omega)).trans (h.utf.2 i hi).1, (k 1 _ (by omega)).trans (h.utf.2 i hi).2⟩⟩, ?_, ?_, ?_, (k 3 0 (by omega)).trans h.one, fun i hi => (k 4 i (by omega)).trans (h.ten i hi)⟩
  · rw [k 6 0 (by omega)]; exact h.syn
  · rw [k 7 0 (by omega)]; exact h.rng
  · rw [k 8 0 (by omega)]; exact h.mxl
theorem StepB.tabs {b : Nat} {w w' : World} (h : StepB b w w') (hb : 13 ≤ b) (hT : Tabs w) : Tabs w' := tabs_below hT hb h.1
/-- The rune ahead and its width; at the end: what is no rune. -/
def dec0 (r : ByteArray) : Nat × Nat := if r.size = 0 then (65533, 0) else Utf8.decode r 0
theorem dec0_le (r : ByteArray) : (dec0 r).1 ≤ 1114111 ∧ (dec0 r).2 ≤ r.size := by
  unfold dec0
  split
  · exact ⟨by decide, by simp⟩
  · rename_i h
    refine ⟨Lib.rune_le r 0, ?_⟩
    have := (dec_len (s := r) (k := 0) (by omega)).2
    omega
/-- The rune that is peeked at. -/
def pk (r : ByteArray) : Nat := if r.size = 0 then 0 else (Utf8.decode r 0).1
theorem pk_le (r : ByteArray) : pk r ≤ 1114111 := by
  unfold pk
  split
  · omega
  · exact Lib.rune_le r 0
set_option maxRecDepth 100000 in
set_option maxHeartbeats 4000000 in
/-- peek: the next rune; 0 at the end. -/
theorem peek_any (b : Nat) (r : ByteArray) (p : Lx.Pl) (w : World) (h : CurAt b r p w) : Calls Tryz.prog 31 #[.pointer (some ⟨b, 0, none⟩)] w fun e w' => e = .returned (.int .i32 (pk r : Int)) ∧ Below w.heap.size w w' := by
  have HC := Lib.hid h
  clear h
  have hcc := cells_of_block HC.out
  have hc0 := hcc.1 0
  have hc1 := hcc.1 1
  have hc2 := hcc.1 2
  have hcf := hcc.2
  have hlt := CurAt.lt HC.out
  simp at hc0 hc1 hc2
  clear hcc
  go_enter Tryz.func31, Tryz.ntmps31
  go_wp2
  go_loopw [] (fun wr => wr.heap[w.heap.size]? = some (.stringIter r 0) ∧ Below w.heap.size w wr) (fun wr => 0)
  case atStart => exact ⟨World.iter_heap w r 0, (Below.refl _ w).alloc (Nat.le_refl _) _⟩
  case round =>
    obtain ⟨hit, hbw⟩ := hrel
    by_cases hp : 0 < r.size
    · have hnx : ∀ ty, (Instr.next (.pointer (some ⟨w.heap.size, 0, none⟩)) true ty).run Tryz.prog wr = _ := fun ty => Lib.run_next_any_at wr w.heap.size r 0 ty hit hp
      have hbw2 := Lib.below_iterAt hbw (k := w.heap.size) (by omega) r (0 + (Utf8.decode r 0).2)
      have HR : Hid (pk r = (Utf8.decode r 0).1) := Lib.hid (by unfold pk; rw [if_neg (by omega)])
      simp only [Nat.zero_add] at hnx hbw2
      generalize Utf8.decode r 0 = d at hnx hbw2 HR
      go_wp2
      go_returns
      exact ⟨by rw [HR.out]; rfl, hbw2⟩
    · have hnx : ∀ ty, (Instr.next (.pointer (some ⟨w.heap.size, 0, none⟩)) true ty).run Tryz.prog wr = _ := fun ty => Lib.run_next_end_at wr w.heap.size r 0 ty hit hp
      have HR : Hid (pk r = 0) := Lib.hid (by unfold pk; rw [if_pos (by omega)])
      go_wp2
      go_returns
      exact ⟨by rw [HR.out]; rfl, hbw⟩
set_option maxRecDepth 100000 in
set_option maxHeartbeats 4000000 in
/-- next: takes the next rune. -/
theorem next_any (b : Nat) (hb2 : 13 ≤ b) (r : ByteArray) (hr : r.size ≤ 1048576) (p : Lx.Pl) (hp : PlaceOk 8388608 p) (w : World) (h : CurAt b r p w) (hT : Tabs w) : Calls Tryz.prog 30 #[.pointer (some ⟨b, 0, none⟩)] w fun e w' =>
    e = .returned (.int .i32 ((dec0 r).1 : Int)) ∧ CurAt b (r.extract (dec0 r).2 r.size) (Lx.stepP p (dec0 r).1) w' ∧ StepB b w w' := by
  have HC := Lib.hid h
  have HD := Lib.hid (fun W (h : Tabs W) => Tryz.utf8_DecodeRuneInString r W h.utf)
  have hd := dec0_le r
  have e0 : Lib.decodeGo r = dec0 r := rfl
  rw [e0] at HD
  have HT := Lib.hid hT
  obtain ⟨p1, p2⟩ := p
  obtain ⟨hp1, hp2, hp3, hp4⟩ := hp
  dsimp only at hp1 hp2 hp3 hp4
  clear h hT e0
  obtain ⟨c, n, ed⟩ : ∃ c n, dec0 r = (c, n) := ⟨_, _, rfl⟩
  rw [ed] at HD hd
  rw [ed]
  dsimp only at hd HD ⊢
  clear ed
  have hcc := cells_of_block HC.out
  have hc0 := hcc.1 0
  have hc1 := hcc.1 1
  have hc2 := hcc.1 2
  have hcf := hcc.2
  have hlt := CurAt.lt HC.out
  simp at hc0 hc1 hc2
  clear hcc
  have hA1 := cell_alloc_if
  have hA2 := frozen_alloc_if
  have hA3 := cell_set_if
  have hd1 := hd.1
  have hd2 := hd.2
  by_cases h10 : c = 10
  · have d10 : ((c : Int) == 10) = true := by simp [h10]
    have HS : Hid (Lx.stepP (p1, p2) c = (p1 + 1, 1)) := Lib.hid (by unfold Lx.stepP; rw [if_pos h10])
    clear h10
    go_enter Tryz.func30, Tryz.ntmps30
    go_wp2_with (go_at_call 29; (with_reducible refine (HD.out _ HT.out).mono ?_); rintro e w' ⟨rfl, hbl⟩; obtain ⟨hc, hf, hz⟩ := cif hbl; (try simp only [World.size_alloc, World.size_setCell, World.size_drew, World.heap_drewN] at hz))
    go_returns
    have hk := CurAt.keep HC.out hbl
    refine ⟨rfl, ?_, ((((StepB.of (by omega) hbl).set).set).set).set⟩
    rw [HS.out]
    exact setC_at (setC_at (setC_at (setC_at hk 0 _) 2 _) 1 _) 2 _
  · have d10 : ((c : Int) == 10) = false := by simp; omega
    have HS : Hid (Lx.stepP (p1, p2) c = (p1, p2 + 1)) := Lib.hid (by unfold Lx.stepP; rw [if_neg h10])
    clear h10
    go_enter Tryz.func30, Tryz.ntmps30
    go_wp2_with (go_at_call 29; (with_reducible refine (HD.out _ HT.out).mono ?_); rintro e w' ⟨rfl, hbl⟩; obtain ⟨hc, hf, hz⟩ := cif hbl; (try simp only [World.size_alloc, World.size_setCell, World.size_drew, World.heap_drewN] at hz))
    go_returns
    have hk := CurAt.keep HC.out hbl
    refine ⟨rfl, ?_, ((StepB.of (by omega) hbl).set).set⟩
    rw [HS.out]
    exact setC_at (setC_at hk 0 _) 2 _
end Go.Proofs.YteplbbjmbhgllaaGreatDoor

namespace Go.Proofs.YteplbbjmbhgllaaGreatDoor
open Go.RowKit
set_option linter.unusedVariables false
set_option linter.unusedSimpArgs false

theorem empty_iff (r : ByteArray) : (r.toList == []) = decide (r.size = 0) := by
  rw [Lib.toList_data]
  have h := szl r
  match hL : r.data.toList, h with
  | [], h => rw [decide_eq_true (by simpa using h.symm)]; rfl
  | a :: l, h => rw [decide_eq_false (by rw [List.length_cons] at h; omega)]; rfl
def curSz (b : Nat) (w : World) : Nat := match w.heap[b]? with
  | some (.cells cs _ _) => szV (cs.getD 0 undef)
  | _ => 0
theorem CurAt.sz {b : Nat} {r : ByteArray} {p : Lx.Pl} {w : World} (h : CurAt b r p w) : curSz b w = r.size := by
  unfold curSz; rw [h]; rfl
theorem moved_snoc {l : List UInt8} {c : UInt8} (h : ∀ b ∈ l, b.toNat < 128) (hc : c.toNat < 128) (p : Lx.Pl) : Lx.moved p (l ++ [c]) = Lx.stepP (Lx.moved p l) c.toNat := by
  have hv : Lx.Val l := by
    clear hc
    induction l with
    | nil => exact .nil
    | cons a l ih => exact .ascii (h a (by simp)) (ih fun b hb => h b (by simp [hb]))
  rw [Lx.moved_app hv, Lx.moved_one hc]
theorem byte_rest {L : List UInt8} {r : ByteArray} {k : Nat} (h : r.data.toList = L.drop k) (j : Nat) : byteN r.data.toList j = byteN L (k + j) := by
  rw [h]; unfold byteN; rw [List.getD_eq_getElem?_getD, List.getD_eq_getElem?_getD, List.getElem?_drop]
theorem dec_ascii {r : ByteArray} (h0 : 0 < r.size) (h : byteN r.data.toList 0 < 128) : Utf8.decode r 0 = (byteN r.data.toList 0, 1) := by
  have hl : 0 < r.data.toList.length := by rw [szl]; exact h0
  have e := drop_byte (l := r.data.toList) (k := 0) hl
  rw [List.drop_zero] at e
  have := Lib.decodeL_drop r 0
  rw [List.drop_zero] at this
  rw [← this, e, Lx.decodeL_ascii (by exact h)]
  rfl
theorem dec_high {r : ByteArray} (h0 : 0 < r.size) (h : ¬ byteN r.data.toList 0 < 128) : 128 ≤ (Utf8.decode r 0).1 := by
  have e : (r[0]'h0).toNat = byteN r.data.toList 0 := by unfold byteN; rw [← Lib.getD_at r 0 h0]
  exact (decode_high r 0 h0 (by rw [e]; omega)).1
set_option maxRecDepth 100000 in
set_option maxHeartbeats 4000000 in
theorem while_any (b : Nat) (hb2 : 13 ≤ b) (f : Nat) (pred : Nat → Bool) (hpr : ∀ c, pred c = true → c < 128) (he : ∀ args w, (callFunc f args).run Tryz.prog w = .ok (.enter f args) w)
    (hl : ∀ (c : Nat) W, c < 2147483648 → Calls Tryz.prog f #[.int .i32 c] W fun e w' => e = .returned (.bool (pred c)) ∧ W = w')
    (r : ByteArray) (hr : r.size ≤ 1048576) (p : Lx.Pl) (hp : PlaceOk 4194304 p) (w : World) (h : CurAt b r p w) (hT : Tabs w) :
    Calls Tryz.prog 18 #[.pointer (some ⟨b, 0, none⟩), .func (.func f) #[] #[]] w fun e w' =>
      e = .returned (.string (r.extract 0 (Lx.spanL pred r.data.toList).length)) ∧ CurAt b (r.extract (Lx.spanL pred r.data.toList).length r.size) (Lx.moved p (r.data.toList.take (Lx.spanL pred r.data.toList).length)) w' ∧ StepB b w w' := by
  have HC := Lib.hid h
  have HT := Lib.hid hT
  have HL := Lib.hid hl
  have HPR := Lib.hid hpr
  have HPL := Lib.hid hp
  clear h hT hl hpr hp
  have hcc := cells_of_block HC.out
  have hc0 := hcc.1 0
  have hc1 := hcc.1 1
  have hc2 := hcc.1 2
  have hcf := hcc.2
  have hlt := CurAt.lt HC.out
  simp at hc0 hc1 hc2
  clear hcc
  go_enter Tryz.func18, Tryz.ntmps18
  go_wp2
  clear hc0 hc1 hc2 hcf hlt
  go_loopw [] (fun wr => ∃ (k : Nat) (rk : ByteArray) (q : Lx.Pl), k ≤ r.size ∧ rk.size = r.size - k ∧ Hid (CurAt b rk q wr) ∧ Hid (StepB b w wr) ∧ Hid (rk.data.toList = r.data.toList.drop k ∧ q = Lx.moved p (r.data.toList.take k) ∧ ∀ x ∈ r.data.toList.take k, pred x.toNat = true)) (fun wr => curSz b wr)
  case atStart => exact ⟨0, r, p, by omega, by omega, HC, Lib.hid (StepB.refl _ _), Lib.hid ⟨by rw [List.drop_zero], rfl, by simp⟩⟩
  case round =>
    obtain ⟨k, rk, q, hk, hkz, HC1, HS, HI⟩ := hrel
    have HT1 : Hid (Tabs wr) := Lib.hid (HS.out.tabs hb2 HT.out)
    have hpk := pk_le rk
    have hcc := cells_of_block HC1.out
    have hc0 := hcc.1 0
    have hcf := hcc.2
    have hlt := CurAt.lt HC1.out
    simp at hc0
    clear hcc
    have hzI : (r.size : Int) - (rk.size : Int) = (k : Int) := by omega
    have hPQ : PlaceOk 8388608 q := by
      rw [HI.out.2.1]
      exact (moved_ok _ _ _ (Nat.le_refl _) HPL.out (by omega)).mono (by rw [List.length_take, szl]; omega)
    by_cases h0 : 0 < rk.size
    · have hne : (rk.toList == []) = false := by rw [empty_iff]; exact decide_eq_false (by omega)
      have hne2 : (rk.toList != []) = true := by unfold bne; rw [hne]; rfl
      have HPK : Hid (∀ W, CurAt b rk q W → Calls Tryz.prog 31 #[.pointer (some ⟨b, 0, none⟩)] W fun e w' => e = .returned (.int .i32 (pk rk : Int)) ∧ Below W.heap.size W w') := Lib.hid fun W h => peek_any b rk q W h
      have HF := Lib.hid (fun W => HL.out (pk rk) W (by omega))
      cases hpd : pred (pk rk) with
      | true =>
        have h128 := HPR.out _ hpd
        have hb : byteN rk.data.toList 0 < 128 := by
          by_cases c : byteN rk.data.toList 0 < 128
          · exact c
          · have := dec_high h0 c
            unfold pk at h128
            rw [if_neg (by omega)] at h128
            omega
        have hdc := dec_ascii h0 hb
        have hd0 : dec0 rk = (byteN rk.data.toList 0, 1) := by unfold dec0; rw [if_neg (by omega), hdc]
        have hpk2 : pk rk = byteN rk.data.toList 0 := by unfold pk; rw [if_neg (by omega), hdc]
        have HNX : Hid (∀ W, CurAt b rk q W → Tabs W → Calls Tryz.prog 30 #[.pointer (some ⟨b, 0, none⟩)] W fun e w' => e = .returned (.int .i32 ((byteN rk.data.toList 0 : Nat) : Int)) ∧ CurAt b (rk.extract 1 rk.size) (Lx.stepP q (byteN rk.data.toList 0)) w' ∧ StepB b W w') := Lib.hid fun W h1 h2 => by
          have := next_any b hb2 rk (by omega) q hPQ W h1 h2
          rw [hd0] at this
          exact this
        have hkl : k < r.data.toList.length := by rw [szl]; omega
        have hbk : byteN rk.data.toList 0 = byteN r.data.toList k := byte_rest HI.out.1 0
        have HN : Hid ((rk.extract 1 rk.size).data.toList = r.data.toList.drop (k + 1) ∧ Lx.stepP q (byteN rk.data.toList 0) = Lx.moved p (r.data.toList.take (k + 1)) ∧ ∀ x ∈ r.data.toList.take (k + 1), pred x.toNat = true) := Lib.hid (by
          refine ⟨by rw [Lib.extract_data, List.take_of_length_le (by rw [List.length_drop, szl]; exact Nat.le_refl _), HI.out.1, List.drop_drop], ?_, take_all HI.out.2.2 hkl (by rw [← hbk, ← hpk2]; exact hpd)⟩
          have et : r.data.toList.take (k + 1) = r.data.toList.take k ++ [r.data.toList.getD k 0] := by
            rw [List.take_add_one, List.getD_eq_getElem?_getD, List.getElem?_eq_getElem hkl]; rfl
          rw [et, moved_snoc (fun x hx => HPR.out _ (HI.out.2.2 x hx)) (by show byteN r.data.toList k < 128; omega), ← HI.out.2.1, hbk]
          rfl)
        have hsz1 : (rk.extract 1 rk.size).size = rk.size - 1 := by rw [← szl, Lib.extract_data, List.length_take, List.length_drop, szl]; omega
        have HZ1 := Lib.hid hsz1
        rw [hpd] at HF
        clear hpd hdc hd0 hbk hPQ hsz1 hb hpk2 h128 hkl
        generalize pk rk = c at HPK HF hpk
        generalize byteN rk.data.toList 0 = x at HNX HN
        go_wp2_with (first
          | (go_at_call 31; (with_reducible refine (HPK.out _ HC1.out).mono ?_); rintro e w5 ⟨rfl, hbl⟩; have HC5 := Lib.hid (HC1.out.keep hbl); have HT5 := Lib.hid (tabs_below HT1.out (by omega) hbl))
          | (go_at_call 30; (with_reducible refine (HNX.out _ HC5.out HT5.out).mono ?_); rintro e w6 ⟨rfl, hcu, hst⟩)
          | ((with_reducible refine (HF.out _).mono ?_); rintro e w' ⟨rfl, rfl⟩))
        go_roundw
        case rel => exact ⟨k + 1, rk.extract 1 rk.size, _, by omega, by rw [HZ1.out]; omega, Lib.hid hcu, Lib.hid ((HS.out.trans (StepB.of (by omega) hbl)).trans hst), HN⟩
        case measure => rw [CurAt.sz hcu, CurAt.sz HC1.out, HZ1.out]; omega
      | false =>
        have HE : Hid ((Lx.spanL pred r.data.toList).length = k) := Lib.hid (by
          rw [Lx.spanL_at (k := k) (by rw [szl]; exact hk) HI.out.2.2 (.inr (by
            rw [show byteN r.data.toList k = byteN rk.data.toList 0 from (byte_rest HI.out.1 0).symm]
            by_cases c : byteN rk.data.toList 0 < 128
            · have : pk rk = byteN rk.data.toList 0 := by unfold pk; rw [if_neg (by omega), dec_ascii h0 c]
              rw [← this]; exact hpd
            · cases hc : pred (byteN rk.data.toList 0) with
              | false => rfl
              | true => exact absurd (HPR.out _ hc) c)), List.length_take, szl]
          omega)
        rw [hpd] at HF
        clear hpd hPQ
        generalize pk rk = c at HPK HF hpk
        go_wp2_with (first
          | (go_at_call 31; (with_reducible refine (HPK.out _ HC1.out).mono ?_); rintro e w5 ⟨rfl, hbl⟩; obtain ⟨hc, hf, hz⟩ := cif hbl)
          | ((with_reducible refine (HF.out _).mono ?_); rintro e w' ⟨rfl, rfl⟩))
        go_returns
        refine ⟨by rw [HE.out]; show Ending.returned (Value.string (r.extract 0 (r.size - (r.size - k)))) = _; rw [show r.size - (r.size - k) = k from by omega], ?_, HS.out.trans (StepB.of (by omega) hbl)⟩
        rw [HE.out, show r.extract k r.size = rk from ba_eq (by rw [drop_data, HI.out.1]), ← HI.out.2.1]
        exact HC1.out.keep hbl
    · have hne : (rk.toList == []) = true := by rw [empty_iff]; exact decide_eq_true (by omega)
      have hne2 : (rk.toList != []) = false := by unfold bne; rw [hne]; rfl
      have HE : Hid ((Lx.spanL pred r.data.toList).length = k) := Lib.hid (by
        rw [Lx.spanL_at (k := k) (by rw [szl]; exact hk) HI.out.2.2 (.inl (by rw [szl]; omega)), List.length_take, szl]
        omega)
      clear hPQ
      go_wp2
      go_returns
      refine ⟨by rw [HE.out]; show Ending.returned (Value.string (r.extract 0 (r.size - (r.size - k)))) = _; rw [show r.size - (r.size - k) = k from by omega], ?_, HS.out⟩
      rw [HE.out, show r.extract k r.size = rk from ba_eq (by rw [drop_data, HI.out.1]), ← HI.out.2.1]
      exact HC1.out
end Go.Proofs.YteplbbjmbhgllaaGreatDoor

namespace Go.Proofs.YteplbbjmbhgllaaGreatDoor
open Go.RowKit
set_option linter.unusedVariables false
set_option linter.unusedSimpArgs false

theorem builder_info : (Tryz.prog.info? 85).map (·.size) = some 2 := by kernel_rfl
theorem builder_lies : liesAt Tryz.prog Tryz.prog.depth 85 (2 / Tryz.prog.cellsOf 85) 0 85 1 = true := by kernel_rfl

set_option maxHeartbeats 1000000 in
set_option maxRecDepth 100000 in
theorem copyCheck_used (b : Nat) (w : World) (h0 : w.cell? ⟨b, 0, none⟩ = some (.pointer (some ⟨b, 0, none⟩))) :
    Calls Tryz.prog 77 #[.pointer (some ⟨b, 0, none⟩)] w fun e w' => e = .returned (.tuple #[]) ∧ w' = w := by
  obtain ⟨j, hj, _⟩ := Option.map_eq_some_iff.1 builder_info
  go_enter Tryz.func77, Tryz.ntmps77
  go_wp2
  rw [Lib.run_neq_ptr_same w _ Tryz.underlying83 hj]
  go_wp2
  go_end0
  exact ⟨rfl, rfl⟩

set_option maxHeartbeats 1000000 in
set_option maxRecDepth 100000 in
theorem copyCheck_fresh (b : Nat) (w : World) (h0 : w.cell? ⟨b, 0, none⟩ = some (.pointer none)) (hsh : w.shape? b = some (85, 2)) (hfz : w.frozen? ⟨b, 0, none⟩ = false) :
    Calls Tryz.prog 77 #[.pointer (some ⟨b, 0, none⟩)] w fun e w' => e = .returned (.tuple #[]) ∧ w' = w.setCell ⟨b, 0, none⟩ (.pointer (some ⟨b, 0, none⟩)) := by
  obtain ⟨j, hj, hjs⟩ := Option.map_eq_some_iff.1 builder_info
  go_enter Tryz.func77, Tryz.ntmps77
  go_wp2
  rw [Lib.run_to_unsafe w ⟨b, 0, none⟩ Tryz.underlying83 Tryz.underlying128 hj (by rw [hjs]; decide) hsh (Nat.zero_lt_succ 1)]
  simp only [Result.andThen]
  rw [Oper.upon_value]
  go_wp2
  rw [run_callFunc_extern Tryz.func101 (by kernel_rfl) (by kernel_rfl) (by kernel_rfl) (e := Extern.AbiNoEscape.same) (by kernel_rfl)]
  rw [Lib.run_noEscape]
  simp only [Result.andThen]
  rw [Oper.upon_value]
  go_wp2
  rw [Lib.run_from_unsafe w ⟨b, 0, none⟩ Tryz.underlying128 Tryz.underlying83 hj hsh builder_lies]
  simp only [Result.andThen]
  rw [Oper.upon_value]
  go_wp2
  go_end0
  exact ⟨rfl, rfl⟩

abbrev BldAt (B b : Nat) (p : Value) (bs : List Value) (w : World) : Prop := Lib.BuilderAt 85 5 B b p bs w
theorem copyCheck_any (B b : Nat) (bs : List Value) (w : World) (h : Lib.IsBuilder 85 5 B b bs w) :
    Calls Tryz.prog 77 #[.pointer (some ⟨b, 0, none⟩)] w fun e w' => e = .returned (.tuple #[]) ∧ (Lib.BuilderAt 85 5 B b (.pointer (some ⟨b, 0, none⟩)) bs w' ∧ Below B w w') ∧ (w'.cell? ⟨b, 1, none⟩ = w.cell? ⟨b, 1, none⟩ ∧ w'.heap.size = w.heap.size) := by
  rcases h with h | h
  · refine (copyCheck_fresh b w h.cell0 h.shape h.frozen0).mono ?_
    rintro e w' ⟨rfl, rfl⟩
    refine ⟨rfl, ⟨h.used _, (Below.refl B w).setCell (p := ⟨b, 0, none⟩) h.1 _⟩, ?_, World.size_setCell _ _ _⟩
    rw [cell_set_if]
    simp
  · refine (copyCheck_used b w h.cell0).mono ?_
    rintro e w' ⟨rfl, rfl⟩
    exact ⟨rfl, ⟨h, Below.refl B _⟩, rfl, rfl⟩
/-- A builder that holds a text. -/
abbrev Bld (b : Nat) (D : List UInt8) (w : World) : Prop := Lib.IsBuilder 85 5 b b (Lib.byteCells D) w
theorem byC_cells (D : List UInt8) : D.flatMap byC = Lib.byteCells D := by rw [byC_flat]; rfl
theorem bcl (D : List UInt8) : (Lib.byteCells D).length = D.length := by rw [← byC_cells, byC_flat, List.length_map]
theorem Bld.fresh (w : World) : Bld w.heap.size [] (w.alloc (.cells #[.pointer none, .slice none 0 0] 85)) :=
  .inl ⟨Nat.le_refl _, .slice none 0 0, heap_alloc_new _ _, World.ownsRow_nil _ _ _ _, by simp [Value.ownBlock]⟩
theorem Bld.keep {b : Nat} {D : List UInt8} {w w' : World} (h : Bld b D w) (hk : ∀ k, b ≤ k → k < w.heap.size → w'.heap[k]? = w.heap[k]?) : Bld b D w' := by
  have key : ∀ p, BldAt b b p (Lib.byteCells D) w → BldAt b b p (Lib.byteCells D) w' := by
    rintro p ⟨h1, v, h2, h3, h4⟩
    refine ⟨h1, v, (hk b (Nat.le_refl _) (Array.getElem?_eq_some_iff.1 h2).1).trans h2, ⟨h3.1, ?_⟩, h4⟩
    rcases h3.2 with h5 | ⟨g, cap, cur, h5, h6, h7, h8⟩
    · exact .inl h5
    · exact .inr ⟨g, cap, cur, h5, h6, (hk g h6 (Array.getElem?_eq_some_iff.1 h7).1).trans h7, h8⟩
  rcases h with h | h
  · exact .inl (key _ h)
  · exact .inr (key _ h)
set_option maxHeartbeats 2000000 in
set_option maxRecDepth 100000 in
theorem writeByte_any (b : Nat) (D : List UInt8) (c : Nat) (hc : c < 256) (w : World) (h : Bld b D w) (hlen : D.length + 1 ≤ 1073741824) (hBw : b ≤ w.heap.size) :
    Calls Tryz.prog 55 #[.pointer (some ⟨b, 0, none⟩), .int .u8 c] w fun e w' => e = .returned .nilIface ∧ Bld b (D ++ [UInt8.ofNat c]) w' ∧ Below b w w' := by
  obtain ⟨i0, hi0, hz0, hz1, hz2⟩ := byte_info
  go_enter Tryz.func55, Tryz.ntmps55
  go_wp2_with (go_at_call 77; refine (copyCheck_any b b _ _ h).mono ?_)
  rintro e w1 ⟨rfl, ⟨h1, hb1⟩, HK0⟩
  have hs1 := HK0.2
  clear HK0
  obtain ⟨hB, v, hbk, hown, hne⟩ := h1
  have c0 : w1.cell? ⟨b, 0, none⟩ = some (.pointer (some ⟨b, 0, none⟩)) := by rw [Lib.cell_of_heap hbk]; rfl
  have c1 : w1.cell? ⟨b, 1, none⟩ = some v := by rw [Lib.cell_of_heap hbk]; rfl
  have hlt : b < w1.heap.size := (Array.getElem?_eq_some_iff.1 hbk).1
  have hO : OwnB b w1 v D := by
    rw [bcl] at hown
    rcases hown.2 with ⟨hv, h0⟩ | ⟨g, cap, cur, hv, _⟩
    · exact ⟨none, 0, by rw [hv, h0], by rw [byC_cells]; exact hown⟩
    · exact ⟨_, _, hv, by rw [byC_cells]; exact hown⟩
  have HO := Lib.hid hO
  have HB := Lib.hid (And.intro hbk hb1)
  have HN := Lib.hid hne
  clear hown hbk hb1 hO hne h
  go_wp2_with (at_builtin; refine wpList_app (e := 5) (f := byC) rfl _ _ 34 rfl b i0 _ 1 Tryz.underlying34 hi0 hz0 hz1 hz2 rfl (by decide) (fun _ => rfl) v D rfl ?c0 _ 1 _ [UInt8.ofNat c] rfl ?c1 ?c2 (by decide) ?c3 ?c4 ?_)
  case c0 => exact HO.out.alloc _
  case c1 => exact RdL.oneB hc (heap_alloc_at _ _ hs1.symm)
  case c2 => intro a ha u hu; simp at ha; subst ha; simp [byC] at hu; subst hu; rfl
  case c3 => simp; omega
  case c4 => simp only [World.size_alloc]; omega
  intro A9 c9 w12 hown hg hB2 hor
  have hb2 : w12.heap[b]? = some (.cells #[.pointer (some ⟨b, 0, none⟩), v] 85 (0, 0)) := by
    rw [hg.block b (by simp only [World.size_alloc]; omega) (fun e => HN.out e.symm), heap_alloc_old _ _ hlt]
    exact HB.out.1
  have hcb := cells_of_block hb2
  have d0 := hcb.1 0
  have d1 := hcb.1 1
  have df := hcb.2
  simp at d0 d1
  have HO2 := Lib.hid hown
  have HB2 := Lib.hid (And.intro hb2 hB2)
  clear hown hg hB2 hor hcb hb2
  go_wp2
  go_ret
  refine ⟨rfl, ?_, ?_⟩
  · refine .inr ?_
    obtain ⟨A', c', e1, h2⟩ := HO2.out
    have el : (D ++ [UInt8.ofNat c]).length = D.length + 1 := by simp
    rw [byC_cells, el] at h2
    have := Lib.BuilderAt.put (T := 85) (e := 5) hB HB2.out.1 (bs' := Lib.byteCells (D ++ [UInt8.ofNat c])) (by rw [bcl, el]; exact h2) (by decide)
    exact this
  · exact ((HB.out.2.alloc (by omega) _).trans HB2.out.2).setCell (p := ⟨b, 1, none⟩) hB _
set_option maxHeartbeats 2000000 in
set_option maxRecDepth 100000 in
theorem writeRune_any (b : Nat) (D : List UInt8) (c : Nat) (hc : c ≤ 1114111) (w : World) (h : Bld b D w) (hlen : D.length + 4 ≤ 1073741824) (hBw : b ≤ w.heap.size) :
    Calls Tryz.prog 56 #[.pointer (some ⟨b, 0, none⟩), .int .i32 c] w fun e w' => (∃ n : Int, e = .returned (.tuple #[.int .i64 n, .nilIface])) ∧ Bld b (D ++ Lib.encodeRune (c : Int)) w' ∧ Below b w w' := by
  go_enter Tryz.func56, Tryz.ntmps56
  go_wp2_with (go_at_call 77; refine (copyCheck_any b b _ _ h).mono ?_)
  rintro e w1 ⟨rfl, ⟨h1, hb1⟩, HK0⟩
  have hs1 := HK0.2
  clear HK0
  obtain ⟨hB, v, hbk, hown, hne⟩ := h1
  rw [bcl] at hown
  obtain ⟨ao, cap, rfl⟩ : ∃ ao cap, v = .slice ao D.length cap := by
    rcases hown.2 with ⟨hv, h0⟩ | ⟨g, cap, cur, hv, _⟩
    · exact ⟨none, 0, by rw [hv, h0]⟩
    · exact ⟨_, _, hv⟩
  have c0 : w1.cell? ⟨b, 0, none⟩ = some (.pointer (some ⟨b, 0, none⟩)) := by rw [Lib.cell_of_heap hbk]; rfl
  have c1 : w1.cell? ⟨b, 1, none⟩ = some (.slice ao D.length cap) := by rw [Lib.cell_of_heap hbk]; rfl
  have hlt : b < w1.heap.size := (Array.getElem?_eq_some_iff.1 hbk).1
  have HA := Lib.hid (Tryz.utf8_AppendRune_plain b (.slice ao D.length cap) D.length (Lib.byteCells D) (c : Int) (by omega) (by omega) w1 hown (by omega) (by omega))
  have HB := Lib.hid (And.intro hbk hb1)
  have HN := Lib.hid hne
  have HOW := Lib.hid hown
  clear hown hbk hb1 hne h
  go_wp2_with (go_at_call 78; refine (HA.out).mono ?_)
  rintro e w2 ⟨v2, rfl, hown2, o, hgrow⟩
  have hb2 : w2.heap[b]? = some (.cells #[.pointer (some ⟨b, 0, none⟩), .slice ao D.length cap] 85 (0, 0)) := by
    rw [hgrow.block b (by simp only [World.size_alloc]; omega) (fun e => HN.out e.symm), heap_alloc_old _ _ hlt]
    exact HB.out.1
  have hcb := cells_of_block hb2
  have d0 := hcb.1 0
  have d1 := hcb.1 1
  have df := hcb.2
  simp at d0 d1
  obtain ⟨ao', n', cap', rfl⟩ : ∃ ao n' cap, v2 = .slice ao n' cap := by
    rcases hown2.2 with ⟨hv, _⟩ | ⟨g, cap, cur, hv, _⟩
    · exact ⟨_, _, _, hv⟩
    · exact ⟨_, _, _, hv⟩
  have HO2 := Lib.hid hown2
  have hl2 : Below b w w2 := (HB.out.2.alloc (by omega) _).grown hgrow (by simp only [World.size_alloc]; omega) (fun k hk => (HOW.out.lt k hk).1)
  have HL2 := Lib.hid hl2
  have HB2 := Lib.hid hb2
  have hn' : n' ≤ 9223372036854775807 := by
    rcases hown2.2 with ⟨hv, _⟩ | ⟨g, cap, cur, hv, _, _, h5, h6, _⟩
    · injection hv with _ hv _; omega
    · injection hv with _ hv _; unfold maxLen at h6; omega
  clear hown2 hgrow hcb hb2 hl2
  go_wp2
  go_returns
  refine ⟨⟨_, rfl⟩, .inr ?_, HL2.out.setCell (p := ⟨b, 1, none⟩) hB _⟩
  have el : (Lib.byteCells (D ++ Lib.encodeRune (c : Int))).length = D.length + (Lib.runeCells (c : Int)).length := by rw [bcl, List.length_append, Lib.runeCells_length]
  have ec : Lib.byteCells (D ++ Lib.encodeRune (c : Int)) = Lib.byteCells D ++ Lib.runeCells (c : Int) := by rw [Lib.byteCells_append, Lib.byteCells_encodeRune]
  exact Lib.BuilderAt.put (T := 85) (e := 5) hB HB2.out (bs' := Lib.byteCells (D ++ Lib.encodeRune (c : Int))) (by rw [el, ec]; exact HO2.out) (by decide)
end Go.Proofs.YteplbbjmbhgllaaGreatDoor

namespace Go.Proofs.YteplbbjmbhgllaaGreatDoor
open Go.RowKit
set_option linter.unusedVariables false
set_option linter.unusedSimpArgs false

/-- Digits to a base, no greater than M. -/
def numM (base M : Nat) : Nat → List UInt8 → Option Nat
  | acc, [] => some acc
  | acc, b :: l => match Lx.hexV b.toNat with
    | none => none
    | some d => if d < base ∧ acc * base + d ≤ M then numM base M (acc * base + d) l else none
theorem numM_B (base : Nat) : ∀ (l : List UInt8) (acc : Nat), numM base 18446744073709551615 acc l = Lx.numB base acc l
  | [], acc => rfl
  | b :: l, acc => by
    unfold numM Lx.numB
    cases h : Lx.hexV b.toNat with
    | none => rfl
    | some d =>
      dsimp only
      by_cases c : d < base ∧ acc * base + d ≤ 18446744073709551615
      · rw [if_pos c, if_pos (by omega)]; exact numM_B base l _
      · rw [if_neg c, if_neg (by omega)]
def lowN (x : Nat) : Nat := x ||| 32
theorem lowN_cases : ∀ x, x < 256 → (65 ≤ x ∧ x ≤ 90 → lowN x = x + 32) ∧ (97 ≤ x ∧ x ≤ 122 → lowN x = x) ∧ lowN x < 256 ∧ (¬ (65 ≤ x ∧ x ≤ 90) → ¬ (97 ≤ x ∧ x ≤ 122) → lowN x < 97 ∨ 122 < lowN x) := by decide +kernel
theorem lowN_low : ∀ x, x < 256 → (x < 48 → lowN x < 97) ∧ (x = 95 → lowN x = 127) := by decide +kernel
theorem lower_any (x : Nat) (hx : x < 256) (w : World) : Calls Tryz.prog 60 #[.int .u8 x] w fun e w' => e = .returned (.int .u8 (lowN x)) ∧ w = w' := by
  refine (Tryz.internal_strconv_lower (x : Int) w).mono ?_
  rintro e w' ⟨rfl, rfl⟩
  exact ⟨by rw [show bits .or .u8 (x : Int) 32 = ((x ||| 32 : Nat) : Int) from u8_or_nat x 32 hx (by omega)]; rfl, rfl⟩
/-- A byte's number among 0-9, a-z, A-Z. -/
def alN (x : Nat) : Option Nat := if 48 ≤ x ∧ x ≤ 57 then some (x - 48) else if 65 ≤ x ∧ x ≤ 90 then some (x - 55) else if 97 ≤ x ∧ x ≤ 122 then some (x - 87) else none
theorem hexV_al {x base : Nat} (hb : base ≤ 16) : (match Lx.hexV x with | some d => if d < base then some d else none | none => none) = (match alN x with | some d => if d < base then some d else none | none => none) := by
  unfold Lx.hexV alN
  by_cases c1 : 48 ≤ x ∧ x ≤ 57
  · rw [if_pos c1, if_pos c1]
  · rw [if_neg c1, if_neg c1]
    by_cases c2 : 97 ≤ x ∧ x ≤ 102
    · rw [if_pos c2, if_neg (by omega), if_pos (by omega)]
    · rw [if_neg c2]
      by_cases c3 : 65 ≤ x ∧ x ≤ 70
      · rw [if_pos c3, if_pos (by omega)]
      · rw [if_neg c3]
        by_cases c4 : 65 ≤ x ∧ x ≤ 90
        · rw [if_pos c4]; dsimp only; rw [if_neg (by omega)]
        · rw [if_neg c4]
          by_cases c5 : 97 ≤ x ∧ x ≤ 122
          · rw [if_pos c5]; dsimp only; rw [if_neg (by omega)]
          · rw [if_neg c5]
theorem numM_step {base M acc k : Nat} {L : List UInt8} (hb : base ≤ 16) (hk : k < L.length) : numM base M acc (L.drop k) = match alN (byteN L k) with
    | none => none
    | some d => if d < base ∧ acc * base + d ≤ M then numM base M (acc * base + d) (L.drop (k + 1)) else none := by
  rw [drop_byte hk, numM]
  have e : (L.getD k 0).toNat = byteN L k := rfl
  rw [e]
  have h := hexV_al (x := byteN L k) hb
  cases h1 : Lx.hexV (byteN L k) with
  | none =>
    rw [h1] at h
    cases h2 : alN (byteN L k) with
    | none => rfl
    | some d =>
      rw [h2] at h
      dsimp only at h ⊢
      by_cases c : d < base
      · rw [if_pos c] at h; cases h
      · rw [if_neg (fun h => c h.1)]
  | some d =>
    rw [h1] at h
    dsimp only at h ⊢
    cases h2 : alN (byteN L k) with
    | none =>
      rw [h2] at h
      dsimp only at h
      by_cases c : d < base
      · rw [if_pos c] at h; cases h
      · rw [if_neg (fun h => c h.1)]
    | some d2 =>
      rw [h2] at h
      dsimp only at h ⊢
      by_cases c : d < base
      · rw [if_pos c] at h
        by_cases c2 : d2 < base
        · rw [if_pos c2] at h; injection h with h; rw [h]
        · rw [if_neg c2] at h; cases h
      · rw [if_neg c] at h
        by_cases c2 : d2 < base
        · rw [if_pos c2] at h; cases h
        · rw [if_neg (fun h => c h.1), if_neg (fun h => c2 h.1)]
/-- What ParseUint answers. -/
def PuP : Option Nat → Ending → Prop
  | some n, e => e = .returned (.tuple #[.int .u64 (n : Int), .nilIface])
  | none, e => ∃ (x k : Int), (k = 1 ∨ k = 2) ∧ e = .returned (.tuple #[.int .u64 x, .iface 94 (.int .i64 k)])
end Go.Proofs.YteplbbjmbhgllaaGreatDoor
