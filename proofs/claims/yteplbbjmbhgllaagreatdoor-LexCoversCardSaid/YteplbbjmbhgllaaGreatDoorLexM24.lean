/-
  The program's sign, walked.
  What stands behind a backslash, over the cursor: plain facts.
  The program's spoilt: the place of the first bytes that are no rune.
-/
import Derived.Test.YteplbbjmbhgllaaGreatDoorLexM23
import Derived.Test.YteplbbjmbhgllaaGreatDoorLexM20
import Derived.Test.YteplbbjmbhgllaaGreatDoorLexM18
import Derived.Test.YteplbbjmbhgllaaGreatDoorLexM10
namespace Go.Proofs.YteplbbjmbhgllaaGreatDoor
open Go.RowKit
set_option linter.unusedVariables false
set_option linter.unusedSimpArgs false

theorem CurAt.set6 {b c : Nat} {v0 v1 v2 v3 v4 v5 : Value} {r : ByteArray} {p : Lx.Pl} {w : World} (h : CurAt b r p w) (hc : b ≠ c) :
    CurAt b r p ((((((w.setCell ⟨c, 0, none⟩ v0).setCell ⟨c, 1, none⟩ v1).setCell ⟨c, 2, none⟩ v2).setCell ⟨c, 3, none⟩ v3).setCell ⟨c, 4, none⟩ v4).setCell ⟨c, 5, none⟩ v5) :=
  (((((h.setNew hc).setNew hc).setNew hc).setNew hc).setNew hc).setNew hc
/-- A method's answer of a token, or of none. -/
def SgP (r : ByteArray) (e : Ending) : Prop := match Lx.signL r.data.toList with
  | some k => e = .returned (.tuple #[tokV 7 (0, 0) (r.extract 0 k) 0 .empty, .bool true])
  | none => ∃ t, IsTok t ∧ e = .returned (.tuple #[t, .bool false])
theorem sgP_some {r : ByteArray} {e : Ending} {k : Nat} (h : Lx.signL r.data.toList = some k) (he : e = .returned (.tuple #[tokV 7 (0, 0) (r.extract 0 k) 0 .empty, .bool true])) : SgP r e := by
  unfold SgP; rw [h]; exact he
theorem sgP_none {r : ByteArray} {e : Ending} {t : Value} (h : Lx.signL r.data.toList = none) (he : e = .returned (.tuple #[t, .bool false])) (ht : IsTok t) : SgP r e := by
  unfold SgP; rw [h]; exact ⟨t, ht, he⟩
set_option maxRecDepth 100000 in
set_option maxHeartbeats 8000000 in
theorem signM_any (b : Nat) (hb : 13 ≤ b) (r : ByteArray) (hr : r.size ≤ 1048576) (p : Lx.Pl) (hp : PlaceOk 4194304 p) (w : World) (hcur : CurAt b r p w) (hT : Tabs w) : Calls Tryz.prog 37 #[.pointer (some ⟨b, 0, none⟩)] w fun e w' =>
    SgP r e ∧ (∀ k, Lx.signL r.data.toList = some k → CurAt b (r.extract k r.size) (Lx.moved p (r.data.toList.take k)) w') ∧ StepB b w w' := by
  have hlt := hcur.lt
  have hA1 := cell_alloc_if
  have hA2 := frozen_alloc_if
  have hA3 := cell_set_if
  have HC := Lib.hid hcur
  have HT := Lib.hid hT
  have HSK := Lib.hid (sgnK_3 r.data.toList)
  have hcc := cells_of_block HC.out
  have hc0 := hcc.1 0
  have hc1 := hcc.1 1
  have hc2 := hcc.1 2
  have hcf := hcc.2
  have hlt := CurAt.lt HC.out
  simp at hc0 hc1 hc2
  clear hcc
  clear hcur hT
  go_enter Tryz.func37, Tryz.ntmps37
  go_wp2
  go_loop [4] (fun a4 => ∃ (n : Nat), a4 = .int .i64 n ∧ n ≤ 3 ∧ Hid (Lx.signL r.data.toList = sgnK r.data.toList n)) (fun a4 => (intOf a4).toNat)
  case atStart => exact ⟨3, rfl, by omega, HSK⟩
  case round =>
    obtain ⟨n, rfl, hn, HS⟩ := hrel
    by_cases h0 : 0 < n
    · obtain ⟨m, hm⟩ : ∃ m, n = m + 1 := ⟨n - 1, by omega⟩
      have hnm : (n : Int) - 1 = (m : Int) := by omega
      have hKK : sgnK r.data.toList n = if n ≤ r.size ∧ isSgn (r.data.toList.take n) = true then some n else sgnK r.data.toList m := by rw [hm, ← szl]; rfl
      have HM := Lib.hid hm
      by_cases hlen : n ≤ r.size
      · have HSG : Hid (∀ W, Calls Tryz.prog 14 #[.string (r.extract 0 n)] W fun e w' => e = .returned (.bool (isSgn (r.data.toList.take n))) ∧ W = w') := Lib.hid fun W => by
          have := sign_any (r.extract 0 n) (by rw [take_size hlen]; omega) W
          rw [take_data] at this
          exact this
        cases hg : isSgn (r.data.toList.take n) with
        | false =>
          have HN : Hid (Lx.signL r.data.toList = sgnK r.data.toList m) := Lib.hid (by rw [HS.out, hKK, if_neg (by rw [hg]; simp)])
          rw [hg] at HSG
          clear HS HSK hKK hg hm
          go_wp2_with (go_at_call 14; (with_reducible refine (HSG.out _).mono ?_); rintro e w' ⟨rfl, rfl⟩)
          go_round
          case rel => exact ⟨m, by first | rfl | go_num | (congr 1), by have := HM.out; omega, HN⟩
          case measure => simp [intOf]; have := HM.out; omega
        | true =>
          have HN : Hid (Lx.signL r.data.toList = some n) := Lib.hid (by rw [HS.out, hKK, if_pos ⟨hlen, hg⟩])
          have HAS := Lib.hid (isSgn_ascii hg)
          rw [hg] at HSG
          clear HS HSK hKK hg hm
          go_wp2_with (go_at_call 14; (with_reducible refine (HSG.out _).mono ?_); rintro e w' ⟨rfl, rfl⟩)
          obtain ⟨W2, hW2⟩ : ∃ W2, W2 = (w.alloc (.cells tokZ 32)).alloc (.cells #[.int .i64 7, .int .i64 0, .int .i64 0, .string (r.extract 0 n), .int .u64 0, .string ⟨#[]⟩] 32) := ⟨_, rfl⟩
          have hbl2 : Below w.heap.size w W2 := by rw [hW2]; exact ((Below.refl _ _).alloc (Nat.le_refl _) _).alloc (by simp only [World.size_alloc]; omega) _
          have hz2 : W2.heap.size = w.heap.size + 2 := by rw [hW2]; simp only [World.size_alloc]
          have hx1 : W2.heap[w.heap.size]? = some (.cells tokZ 32 (0, 0)) := by rw [hW2, heap_alloc_old _ _ (by simp only [World.size_alloc]; omega), heap_alloc_new]
          have hx2 : W2.heap[w.heap.size + 1]? = some (.cells #[.int .i64 7, .int .i64 0, .int .i64 0, .string (r.extract 0 n), .int .u64 0, .string ⟨#[]⟩] 32 (0, 0)) := by rw [hW2]; exact heap_alloc_at _ _ (by simp only [World.size_alloc])
          have HW2 := Lib.hid (And.intro hbl2 (And.intro hx1 hx2))
          have HPL := Lib.hid hp
          go_loopw [34] (fun a34 wr => ∃ (i : Nat) (rk : ByteArray) (q : Lx.Pl), a34 = .int .i64 i ∧ i ≤ n ∧ rk.size = r.size - i ∧ Hid (CurAt b rk q wr) ∧ Hid (StepB b W2 wr) ∧ Hid (rk.data.toList = r.data.toList.drop i ∧ q = Lx.moved p (r.data.toList.take i))) (fun a34 _ => n - (intOf a34).toNat)
          case atStart =>
            refine ⟨0, r, p, rfl, by omega, by omega, Lib.hid ?_, Lib.hid ?_, Lib.hid ⟨by rw [List.drop_zero], rfl⟩⟩
            · have := HC.out.keep hbl2; rw [hW2] at this; exact this
            · have := StepB.refl b W2; rw [hW2] at this ⊢; exact this
          case round =>
            obtain ⟨i, rk, q, rfl, hi, hrk, HC1, HS1, HI⟩ := hrel
            clear hc0 hc1 hc2 hcf hx1 hx2 hbl2 hW2
            by_cases hin : i < n
            · have h0k : 0 < rk.size := by omega
              have hil : i < r.data.toList.length := by rw [szl]; omega
              have hbi : byteN rk.data.toList 0 = byteN r.data.toList i := byte_rest HI.out.1 0
              have hlt128 : byteN r.data.toList i < 128 := HAS.out (r.data.toList.getD i 0) (by
                rw [List.mem_iff_getElem?]
                exact ⟨i, by rw [List.getElem?_take, if_pos hin, List.getD_eq_getElem?_getD, List.getElem?_eq_getElem hil]; rfl⟩)
              have hd0 : dec0 rk = (byteN rk.data.toList 0, 1) := by unfold dec0; rw [if_neg (by omega), dec_ascii h0k (by rw [hbi]; exact hlt128)]
              have hPQ : PlaceOk 8388608 q := by
                rw [HI.out.2]
                exact (moved_ok _ _ _ (Nat.le_refl _) HPL.out (by omega)).mono (by rw [List.length_take, szl]; omega)
              have HNX : Hid (∀ W, CurAt b rk q W → Tabs W → Calls Tryz.prog 30 #[.pointer (some ⟨b, 0, none⟩)] W fun e w' => (∃ c : Int, e = .returned (.int .i32 c)) ∧ CurAt b (rk.extract 1 rk.size) (Lx.stepP q (byteN rk.data.toList 0)) w' ∧ StepB b W w') := Lib.hid fun W h1 h2 => by
                have := next_any b hb rk (by omega) q hPQ W h1 h2
                rw [hd0] at this
                exact this.mono fun e w' h => ⟨⟨_, h.1⟩, h.2⟩
              have HT1 := Lib.hid (StepB.tabs HS1.out hb (tabs_below HT.out (by omega) HW2.out.1))
              have HNN : Hid ((rk.extract 1 rk.size).data.toList = r.data.toList.drop (i + 1) ∧ Lx.stepP q (byteN rk.data.toList 0) = Lx.moved p (r.data.toList.take (i + 1))) := Lib.hid (by
                refine ⟨by rw [drop_data, HI.out.1, List.drop_drop], ?_⟩
                have et : r.data.toList.take (i + 1) = r.data.toList.take i ++ [r.data.toList.getD i 0] := by
                  rw [List.take_add_one, List.getD_eq_getElem?_getD, List.getElem?_eq_getElem hil]; rfl
                rw [et, moved_snoc (fun x hx => HAS.out x (by
                  rw [List.mem_iff_getElem?] at hx ⊢
                  obtain ⟨j, hj⟩ := hx
                  rw [List.getElem?_take] at hj
                  split at hj
                  · exact ⟨j, by rw [List.getElem?_take, if_pos (by omega)]; exact hj⟩
                  · cases hj)) hlt128, ← HI.out.2, hbi]
                rfl)
              have hsz1 := drop_size rk 1
              have HZ1 := Lib.hid hsz1
              clear hPQ hd0 hbi hlt128 hil hsz1
              go_wp2_with (go_at_call 30; (with_reducible refine (HNX.out _ HC1.out HT1.out).mono ?_); rintro e w6 ⟨⟨c, rfl⟩, hcu, hst⟩)
              go_roundw
              case rel => exact ⟨i + 1, rk.extract 1 rk.size, _, by go_num, by omega, by rw [HZ1.out]; omega, Lib.hid hcu, Lib.hid (HS1.out.trans hst), HNN⟩
              case measure => simp [intOf]; omega
            · have hin' : i = n := by omega
              have hy1 : wr.heap[w.heap.size]? = some (.cells tokZ 32 (0, 0)) := (HS1.out.2 _ (by omega) (by omega)).trans HW2.out.2.1
              have hy2 : wr.heap[w.heap.size + 1]? = some (.cells #[.int .i64 7, .int .i64 0, .int .i64 0, .string (r.extract 0 n), .int .u64 0, .string ⟨#[]⟩] 32 (0, 0)) := (HS1.out.2 _ (by omega) (by omega)).trans HW2.out.2.2
              have hcr := cells_of_block hy1
              have hr0 := hcr.1 0
              have hr1 := hcr.1 1
              have hr2 := hcr.1 2
              have hr3 := hcr.1 3
              have hr4 := hcr.1 4
              have hr5 := hcr.1 5
              have hrf := hcr.2
              have hct := cells_of_block hy2
              have ht0 := hct.1 0
              have ht1 := hct.1 1
              have ht2 := hct.1 2
              have ht3 := hct.1 3
              have ht4 := hct.1 4
              have ht5 := hct.1 5
              simp [tokZ] at hr0 hr1 hr2 hr3 hr4 hr5 ht0 ht1 ht2 ht3 ht4 ht5
              have HCF : Hid (CurAt b (r.extract n r.size) (Lx.moved p (r.data.toList.take n)) wr) := Lib.hid (by
                rw [show r.extract n r.size = rk from ba_eq (by rw [drop_data, HI.out.1, hin']), ← hin', ← HI.out.2]
                exact HC1.out)
              have HSF : Hid (StepB b w wr) := Lib.hid ((StepB.of (by omega) HW2.out.1).trans HS1.out)
              clear hy1 hy2 hcr hct hin'
              go_wp2
              all_goals ((try simp only [Exit.inBlock, Exit.then]); go_light; refine bodyPost_ret (by simp [results, Tryz.results37, go_sem, *, ↓IntWalk.iteOmega]; try rfl) rfl ?_)
              refine ⟨sgP_some HN.out rfl, fun k hk => ?_, ?_⟩
              · have ek : n = k := by
                  have h2 := HN.out.symm.trans hk
                  injection h2
                rw [← ek]
                exact CurAt.set6 HCF.out (by omega)
              · have hst7 := HSF.out
                exact (((((hst7.setNew (Nat.le_refl _) (by omega)).setNew (Nat.le_refl _) (by omega)).setNew (Nat.le_refl _) (by omega)).setNew (Nat.le_refl _) (by omega)).setNew (Nat.le_refl _) (by omega)).setNew (Nat.le_refl _) (by omega)
      · have HN : Hid (Lx.signL r.data.toList = sgnK r.data.toList m) := Lib.hid (by rw [HS.out, hKK, if_neg (fun h => hlen h.1)])
        clear HS HSK hKK hm
        go_wp2
        go_round
        case rel => exact ⟨m, by first | rfl | go_num | (congr 1), by have := HM.out; omega, HN⟩
        case measure => simp [intOf]; have := HM.out; omega
    · obtain rfl : n = 0 := by omega
      have HN : Hid (Lx.signL r.data.toList = none) := Lib.hid HS.out
      clear HS HSK
      go_wp2
      all_goals ((try simp only [Exit.inBlock, Exit.then]); go_light; refine bodyPost_ret (by simp [results, Tryz.results37, go_sem, *, ↓IntWalk.iteOmega]; try rfl) rfl ?_)
      exact ⟨sgP_none HN.out rfl (isTok _ _ _ _ _ _), fun k hk => by (rw [HN.out] at hk; cases hk), StepB.of (by omega) ((Below.refl _ _).alloc (Nat.le_refl _) _)⟩
end Go.Proofs.YteplbbjmbhgllaaGreatDoor

namespace Go.Proofs.YteplbbjmbhgllaaGreatDoor
open Go.RowKit
set_option linter.unusedVariables false
set_option linter.unusedSimpArgs false

theorem numM_two (a b : UInt8) : numM 16 255 0 [a, b] = match Lx.hexV a.toNat, Lx.hexV b.toNat with
    | some x, some y => some (x * 16 + y)
    | _, _ => none := by
  rw [numM]
  cases ha : Lx.hexV a.toNat with
  | none => rfl
  | some x =>
    have hx := (Lx.hexV_lt ha).2
    dsimp only
    rw [if_pos (by omega), numM]
    cases hb : Lx.hexV b.toNat with
    | none => rfl
    | some y =>
      have hy := (Lx.hexV_lt hb).2
      dsimp only
      rw [if_pos (by omega), numM]
      congr 1; omega
/-- What stands behind a backslash is one byte. -/
theorem escL_one {L : List UInt8} (h0 : 0 < L.length) {x : Nat} (hx : byteN L 0 = x) (h : x ≠ 120) : Lx.escL L = if x = 110 then some (10, 1) else if x = 116 then some (9, 1) else if x = 114 then some (13, 1) else if x = 48 then some (0, 1)
    else if x = 92 ∨ x = 39 ∨ x = 34 then some (x, 1) else none := by
  match L, h0 with
  | b :: r, _ =>
    have e : b.toNat = x := hx
    subst e
    unfold Lx.escL
    dsimp only
    rw [if_neg h]
theorem escL_hex {L : List UInt8} (h0 : 0 < L.length) (hx : byteN L 0 = 120) : Lx.escL L = if 3 ≤ L.length then (numM 16 255 0 ((L.drop 1).take 2)).map (fun v => (v, 3)) else none := by
  match L, h0 with
  | b :: r, _ =>
    have e : b.toNat = 120 := hx
    unfold Lx.escL
    dsimp only
    rw [if_neg (by omega), if_neg (by omega), if_neg (by omega), if_neg (by omega), if_neg (by omega), if_pos e]
    match r with
    | [] => rfl
    | [_] => rfl
    | c :: d :: r =>
      rw [if_pos (by simp)]
      show _ = (numM 16 255 0 [c, d]).map _
      rw [numM_two]
      dsimp only
      cases Lx.hexV c.toNat <;> cases Lx.hexV d.toNat <;> rfl
/-- Digits of sixteen are no signs. -/
theorem numM_hex {t : List UInt8} (hl : t.length = 2) {v : Nat} (h : numM 16 255 0 t = some v) : v < 256 ∧ ∃ x y : Nat, byteN t 0 = x ∧ byteN t 1 = y ∧ x < 128 ∧ y < 128 ∧ x ≠ 43 ∧ x ≠ 95 ∧ y ≠ 43 ∧ y ≠ 95 := by
  match t, hl with
  | [a, b], _ =>
    rw [numM_two] at h
    cases ha : Lx.hexV a.toNat with
    | none => rw [ha] at h; cases h
    | some x =>
      cases hb : Lx.hexV b.toNat with
      | none => rw [ha, hb] at h; cases h
      | some y =>
        rw [ha, hb] at h
        injection h with h
        have h1 := Lx.hexV_lt ha
        have h2 := Lx.hexV_lt hb
        refine ⟨by omega, a.toNat, b.toNat, rfl, rfl, h1.1, h2.1, ?_, ?_, ?_, ?_⟩
        · intro e; rw [e] at ha; cases (show Lx.hexV 43 = none from by decide).symm.trans ha
        · intro e; rw [e] at ha; cases (show Lx.hexV 95 = none from by decide).symm.trans ha
        · intro e; rw [e] at hb; cases (show Lx.hexV 43 = none from by decide).symm.trans hb
        · intro e; rw [e] at hb; cases (show Lx.hexV 95 = none from by decide).symm.trans hb
/-- What escape answers. -/
def EscP (b : Nat) (r : ByteArray) (p : Lx.Pl) (e : Ending) (w' : World) : Prop := match Lx.escL r.data.toList with
  | some (c, k) => e = .returned (.tuple #[.int .u8 (c : Int), .bool true]) ∧ CurAt b (r.extract k r.size) (Lx.moved p (r.data.toList.take k)) w'
  | none => e = .returned (.tuple #[.int .u8 0, .bool false])
theorem escP_some {b : Nat} {r : ByteArray} {p : Lx.Pl} {e : Ending} {w' : World} {c k : Nat} (h : Lx.escL r.data.toList = some (c, k)) (he : e = .returned (.tuple #[.int .u8 (c : Int), .bool true]))
    (hc : CurAt b (r.extract k r.size) (Lx.moved p (r.data.toList.take k)) w') : EscP b r p e w' := by
  unfold EscP; rw [h]; exact ⟨he, hc⟩
theorem escP_none {b : Nat} {r : ByteArray} {p : Lx.Pl} {e : Ending} {w' : World} (h : Lx.escL r.data.toList = none) (he : e = .returned (.tuple #[.int .u8 0, .bool false])) : EscP b r p e w' := by
  unfold EscP; rw [h]; exact he
/-- The rune ahead is an ASCII where the byte is. -/
theorem dec0_ascii {r : ByteArray} (h0 : 0 < r.size) (h : byteN r.data.toList 0 < 128) : dec0 r = (byteN r.data.toList 0, 1) := by
  unfold dec0; rw [if_neg (by omega), dec_ascii h0 h]
theorem dec0_high {r : ByteArray} (h0 : 0 < r.size) (h : ¬ byteN r.data.toList 0 < 128) : 128 ≤ (dec0 r).1 := by
  unfold dec0; rw [if_neg (by omega)]; exact dec_high h0 h
theorem take_one {L : List UInt8} (h0 : 0 < L.length) : L.take 1 = [L.getD 0 0] := by
  match L, h0 with
  | b :: r, _ => rfl
theorem moved_take1 {L : List UInt8} (h0 : 0 < L.length) (h : byteN L 0 < 128) (p : Lx.Pl) : Lx.moved p (L.take 1) = Lx.stepP p (byteN L 0) := by
  rw [take_one h0]; exact Lx.moved_one h p
theorem take_step {L : List UInt8} {i : Nat} (h : i < L.length) : L.take (i + 1) = L.take i ++ [L.getD i 0] := by
  rw [List.take_add_one, List.getD_eq_getElem?_getD, List.getElem?_eq_getElem h]; rfl
theorem ext_ext (r : ByteArray) (i j : Nat) : (r.extract i r.size).extract j (r.extract i r.size).size = r.extract (i + j) r.size := ba_eq (by rw [drop_data, drop_data, drop_data, List.drop_drop])
theorem stepP_ok {n : Nat} {p : Lx.Pl} (h : PlaceOk n p) (h1 : 1 ≤ n) (c : Nat) : PlaceOk (n + 1) (Lx.stepP p c) := by
  obtain ⟨a1, a2, a3, a4⟩ := h
  unfold Lx.stepP
  split
  · exact ⟨by dsimp only; omega, by dsimp only; omega, by dsimp only; omega, by dsimp only; omega⟩
  · exact ⟨by dsimp only; omega, by dsimp only; omega, by dsimp only; omega, by dsimp only; omega⟩
end Go.Proofs.YteplbbjmbhgllaaGreatDoor

namespace Go.Proofs.YteplbbjmbhgllaaGreatDoor
open Go.RowKit
set_option linter.unusedVariables false
set_option linter.unusedSimpArgs false

theorem moved_take {L : List UInt8} {i : Nat} (hi : i < L.length) (hv : Lx.Val (L.take i)) (hn : ¬ ((Lib.decodeL (L.drop i)).1 = 65533 ∧ (Lib.decodeL (L.drop i)).2 = 1)) (p : Lx.Pl) :
    Lx.Val (L.take (i + (Lib.decodeL (L.drop i)).2)) ∧ Lx.moved p (L.take (i + (Lib.decodeL (L.drop i)).2)) = Lx.stepP (Lx.moved p (L.take i)) (Lib.decodeL (L.drop i)).1 := by
  have hne := Lx.drop_ne hi
  have hk := Lx.decodeL_len hne
  have hl : ((L.drop i).take (Lib.decodeL (L.drop i)).2).length = (Lib.decodeL (L.drop i)).2 := by rw [List.length_take]; omega
  have hx : (L.drop i).take (Lib.decodeL (L.drop i)).2 ≠ [] := fun e => by rw [e] at hl; simp at hl; omega
  have hd : ∀ y, Lib.decodeL ((L.drop i).take (Lib.decodeL (L.drop i)).2 ++ y) = ((Lib.decodeL (L.drop i)).1, ((L.drop i).take (Lib.decodeL (L.drop i)).2).length) := fun y => by rw [Lx.decodeL_self hne hn y, hl]
  have hvx : Lx.Val ((L.drop i).take (Lib.decodeL (L.drop i)).2) := by
    have := Lx.Val.rune (l := []) hx (by rw [hl]; exact hn) hd .nil
    rwa [List.append_nil] at this
  rw [List.take_add]
  refine ⟨hv.app hvx, ?_⟩
  rw [Lx.moved_app hv]
  have := Lx.moved_rune (l := []) hx hd (Lx.moved p (L.take i))
  rw [List.append_nil] at this
  rw [this]
  rfl
set_option maxRecDepth 100000 in
set_option maxHeartbeats 8000000 in
theorem spoilt_any (s : ByteArray) (hs : s.size ≤ 1048576) (k : Nat) (hk : Lx.spoilt s.data.toList = some k) (w : World) (hT : Tabs w) (hz : 13 ≤ w.heap.size) : Calls Tryz.prog 16 #[.string s] w fun e w' => e = .returned (plV (Lx.moved (1, 1) (s.data.toList.take k))) ∧ Below w.heap.size w w' := by
  have hA1 := cell_alloc_if
  have hA2 := frozen_alloc_if
  have hA3 := cell_set_if
  have HT := Lib.hid hT
  have HK := Lib.hid ((Lx.spoA_zero s.data.toList).symm.trans hk)
  clear hT hk
  go_enter Tryz.func16, Tryz.ntmps16
  go_wp2
  go_loopw [] (fun wr => ∃ (i : Nat) (rk : ByteArray) (q : Lx.Pl), i ≤ s.size ∧ rk.size = s.size - i ∧ wr.heap[w.heap.size]? = some (.cells #[.int .i64 0, .int .i64 0] 25 (0, 0)) ∧ Hid (CurAt (w.heap.size + 1) rk q wr) ∧ Hid (Below w.heap.size w wr) ∧ Hid (rk.data.toList = s.data.toList.drop i ∧ q = Lx.moved (1, 1) (s.data.toList.take i) ∧ Lx.Val (s.data.toList.take i) ∧ Lx.spoA s.data.toList i = some k)) (fun wr => curSz (w.heap.size + 1) wr)
  case atStart =>
    refine ⟨0, s, (1, 1), by omega, by omega, ?_, Lib.hid ?_, Lib.hid ?_, Lib.hid ⟨by rw [List.drop_zero], rfl, .nil, HK.out⟩⟩
    · rw [heap_alloc_old _ _ (by simp only [World.size_alloc]; omega), heap_alloc_new]
    · exact heap_alloc_at _ _ (by simp only [World.size_alloc])
    · exact ((Below.refl _ w).alloc (Nat.le_refl _) _).alloc (by simp only [World.size_alloc]; omega) _
  case round =>
    obtain ⟨i, rk, q, hi, hrk, hrs, HC1, HB, HI⟩ := hrel
    obtain ⟨q1, q2⟩ := q
    have hil : i < s.size := by
      rcases Nat.lt_or_ge i s.size with h | h
      · exact h
      · have := HI.out.2.2.2
        rw [Lx.spoA_end (by rw [szl]; exact h)] at this
        cases this
    have hill : i < s.data.toList.length := by rw [szl]; exact hil
    have hst := Lx.spoA_step hill
    rw [HI.out.2.2.2] at hst
    have hdl := Lx.decodeL_len (Lx.drop_ne hill)
    rw [List.length_drop, szl] at hdl
    have hdk : Utf8.decode rk 0 = Lib.decodeL (s.data.toList.drop i) := by
      have := Lib.decodeL_drop rk 0
      rw [List.drop_zero, HI.out.1] at this
      exact this.symm
    have hd0 : dec0 rk = Lib.decodeL (s.data.toList.drop i) := by unfold dec0; rw [if_neg (by omega), hdk]
    have HT1 : Hid (Tabs wr) := Lib.hid (tabs_below HT.out hz HB.out)
    have HD : Hid (∀ W, Tabs W → Calls Tryz.prog 29 #[.string rk] W fun e w' => e = .returned (.tuple #[.int .i32 ((Lib.decodeL (s.data.toList.drop i)).1 : Int), .int .i64 ((Lib.decodeL (s.data.toList.drop i)).2 : Int)]) ∧ Below W.heap.size W w') := Lib.hid fun W h => by
      have := Tryz.utf8_DecodeRuneInString rk W h.utf
      rw [show Lib.decodeGo rk = dec0 rk from rfl, hd0] at this
      exact this
    have hlt1 := CurAt.lt HC1.out
    have hcc := cells_of_block HC1.out
    have hc0 := hcc.1 0
    have hc1 := hcc.1 1
    have hc2 := hcc.1 2
    have hcf := hcc.2
    have hcr := cells_of_block hrs
    have hr0 := hcr.1 0
    have hr1 := hcr.1 1
    have hrf := hcr.2
    simp at hc0 hc1 hc2 hr0 hr1
    clear hcc hcr
    by_cases hsp : (Lib.decodeL (s.data.toList.drop i)).1 = 65533 ∧ (Lib.decodeL (s.data.toList.drop i)).2 = 1
    · rw [if_pos hsp] at hst
      injection hst with hst
      have HN : Hid (Lx.moved (1, 1) (s.data.toList.take k) = (q1, q2)) := Lib.hid (by rw [hst]; exact HI.out.2.1.symm)
      have hr65 : (((Lib.decodeL (s.data.toList.drop i)).1 : Int) == 65533) = true := by simp [hsp.1]
      have hr2 : ((Lib.decodeL (s.data.toList.drop i)).2 : Int) < 2 := by omega
      clear hst hdl hdk hd0 HI
      generalize (Lib.decodeL (s.data.toList.drop i)).1 = r at HD hr65 hsp
      generalize (Lib.decodeL (s.data.toList.drop i)).2 = d at HD hr2 hsp
      clear hsp
      go_wp2_with (go_at_call 29; (with_reducible refine (HD.out _ HT1.out).mono ?_); rintro e w' ⟨rfl, hbl⟩; obtain ⟨hc, hf, hz⟩ := cif hbl; (try simp only [World.size_alloc, World.size_setCell, World.size_drew, World.heap_drewN] at hz))
      all_goals ((try simp only [Exit.inBlock, Exit.then]); go_light; refine bodyPost_ret (by simp [results, Tryz.results16, go_sem, *, ↓IntWalk.iteOmega]; try rfl) rfl ?_)
      all_goals exact ⟨by rw [HN.out]; rfl, by (have := HB.out; have h2 : Below w.heap.size wr w' := hbl.mono (by omega); have h3 := this.trans h2; clear hbl h2 this; (repeat' (first | (with_reducible exact Below.refl _ _) | (with_reducible assumption) | (with_reducible refine Below.setCell ?_ ?_ _) | (with_reducible refine Below.alloc ?_ ?_ _) | (with_reducible refine Below.drew ?_) | (with_reducible refine below_drewN ?_ _) | (with_reducible refine below_next ?_ (by with_reducible assumption)) | omega | (dsimp only; omega) | (simp only [World.size_alloc, World.size_setCell, World.size_drew, World.heap_drewN]; omega))))⟩
    · rw [if_neg hsp] at hst
      obtain ⟨hv2, hmv⟩ := moved_take hill HI.out.2.2.1 hsp (1, 1)
      have hPQ : PlaceOk 8388608 (q1, q2) := by
        rw [HI.out.2.1]
        exact (moved_ok (n := 1) _ _ _ (Nat.le_refl _) ⟨by decide, by decide, by decide, by decide⟩ (by omega)).mono (by rw [List.length_take, szl]; omega)
      have HNX : Hid (∀ W, CurAt (w.heap.size + 1) rk (q1, q2) W → Tabs W → Calls Tryz.prog 30 #[.pointer (some ⟨w.heap.size + 1, 0, none⟩)] W fun e w' => (∃ c : Int, e = .returned (.int .i32 c)) ∧ CurAt (w.heap.size + 1) (rk.extract (Lib.decodeL (s.data.toList.drop i)).2 rk.size) (Lx.stepP (q1, q2) (Lib.decodeL (s.data.toList.drop i)).1) w' ∧ StepB (w.heap.size + 1) W w') := Lib.hid fun W h1 h2 => by
        have := next_any (w.heap.size + 1) (by omega) rk (by omega) (q1, q2) hPQ W h1 h2
        rw [hd0] at this
        exact this.mono fun e w' h => ⟨⟨_, h.1⟩, h.2⟩
      have hsz1 := drop_size rk (Lib.decodeL (s.data.toList.drop i)).2
      have HNN : Hid ((rk.extract (Lib.decodeL (s.data.toList.drop i)).2 rk.size).data.toList = s.data.toList.drop (i + (Lib.decodeL (s.data.toList.drop i)).2) ∧ Lx.stepP (q1, q2) (Lib.decodeL (s.data.toList.drop i)).1 = Lx.moved (1, 1) (s.data.toList.take (i + (Lib.decodeL (s.data.toList.drop i)).2)) ∧ Lx.Val (s.data.toList.take (i + (Lib.decodeL (s.data.toList.drop i)).2)) ∧ Lx.spoA s.data.toList (i + (Lib.decodeL (s.data.toList.drop i)).2) = some k) := Lib.hid
        ⟨by rw [drop_data, HI.out.1, List.drop_drop], by rw [hmv, ← HI.out.2.1], hv2, hst.symm⟩
      have hgo : (((Lib.decodeL (s.data.toList.drop i)).1 : Int) == 65533) = false ∨ (((Lib.decodeL (s.data.toList.drop i)).1 : Int) == 65533) = true ∧ ¬ ((Lib.decodeL (s.data.toList.drop i)).2 : Int) < 2 := by
        by_cases c : (Lib.decodeL (s.data.toList.drop i)).1 = 65533
        · exact .inr ⟨by simp [c], fun h => hsp ⟨c, by omega⟩⟩
        · exact .inl (by simp; omega)
      have HZ1 := Lib.hid hsz1
      clear hst hdk hd0 HI hv2 hmv hPQ hsp hsz1
      generalize (Lib.decodeL (s.data.toList.drop i)).1 = r at HD HNX HNN hgo
      generalize (Lib.decodeL (s.data.toList.drop i)).2 = d at HD HNX HNN hgo HZ1 hdl
      rcases hgo with hg | ⟨hg, hg2⟩
      all_goals (
        go_wp2_with (first
          | (go_at_call 29; (with_reducible refine (HD.out _ HT1.out).mono ?_); rintro e w5 ⟨rfl, hbl⟩; have HC5 := Lib.hid (HC1.out.keep hbl); have HT5 := Lib.hid (tabs_below HT1.out (by omega) hbl))
          | (go_at_call 30; (with_reducible refine (HNX.out _ HC5.out HT5.out).mono ?_); rintro e w6 ⟨⟨c, rfl⟩, hcu, hst⟩))
        go_roundw
        case rel => exact ⟨i + d, rk.extract d rk.size, _, by omega, by rw [HZ1.out]; omega, (hst.1.block _ (by omega)).trans ((hbl.block _ (by omega)).trans hrs), Lib.hid hcu, Lib.hid ((HB.out.trans (hbl.mono (by omega))).trans (hst.1.mono (by omega))), HNN⟩
        case measure => rw [CurAt.sz hcu, CurAt.sz HC1.out, HZ1.out]; omega)
end Go.Proofs.YteplbbjmbhgllaaGreatDoor
