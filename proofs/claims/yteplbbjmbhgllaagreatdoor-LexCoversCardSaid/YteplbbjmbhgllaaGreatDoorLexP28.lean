/-
  The program's quoted, walked.
-/
import Derived.Test.YteplbbjmbhgllaaGreatDoorLexM28
import Derived.Test.YteplbbjmbhgllaaGreatDoorLexP27
namespace Go.Proofs.YteplbbjmbhgllaaGreatDoor
open Go.RowKit
set_option linter.unusedVariables false
set_option linter.unusedSimpArgs false

set_option maxRecDepth 100000 in
set_option maxHeartbeats 8000000 in
theorem quoted_any (q : Nat) (hq : q = 39 ∨ q = 34) (b : Nat) (hb : 13 ≤ b) (r : ByteArray) (hr : r.size ≤ 1048576) (h0 : 0 < r.size) (hbq : byteN r.data.toList 0 = q) (hv : Lx.Val (r.data.toList.drop 1)) (p : Lx.Pl) (hp : PlaceOk 4194304 p)
    (w : World) (hcur : CurAt b r p w) (hT : Tabs w) : Calls Tryz.prog 36 #[.pointer (some ⟨b, 0, none⟩), .int .i32 q] w fun e w' => PQuo q b r p e w' ∧ StepB b w w' := by
  have hbw := hcur.lt
  have hl0 : 0 < r.data.toList.length := by rw [szl]; exact h0
  have h128 : byteN r.data.toList 0 < 128 := by omega
  have hstA : StepB b w (w.alloc (.cells #[.pointer none, .slice none 0 0] 85)) := StepB.of (by omega) ((Below.refl _ _).alloc (Nat.le_refl _) _)
  have HA := Lib.hid (And.intro (hcur.keep ((Below.refl _ _).alloc (Nat.le_refl _) _ : Below w.heap.size w (w.alloc (.cells #[.pointer none, .slice none 0 0] 85)))) (And.intro (hstA.tabs hb hT) (And.intro (Bld.fresh w) hstA)))
  have HN0 : Hid (∀ W, CurAt b r p W → Tabs W → Calls Tryz.prog 30 #[.pointer (some ⟨b, 0, none⟩)] W fun e w' => e = .returned (.int .i32 (q : Int)) ∧ CurAt b (r.extract 1 r.size) (Lx.stepP p (byteN r.data.toList 0)) w' ∧ StepB b W w') := Lib.hid fun W a1 a2 => by
    have := next_any b hb r hr p (hp.mono (by omega)) W a1 a2
    rw [dec0_ascii h0 h128] at this
    dsimp only at this
    rw [hbq] at this ⊢
    exact this
  have HST : Hid (∀ w2, StepB b (w.alloc (.cells #[.pointer none, .slice none 0 0] 85)) w2 → CurAt b (r.extract 1 r.size) (Lx.stepP p (byteN r.data.toList 0)) w2 → PQuoS b w q r.data.toList p (r.extract 1 r.size) (Lx.stepP p (byteN r.data.toList 0)) [] 0 0 1 w2) :=
    Lib.hid fun w2 a1 a2 => PQuoS.start hbw h0 hv h128 HA.out.2.2.1 hstA a1 a2
  have HPL := Lib.hid hp
  have HT := Lib.hid hT
  have HQ39 := Lib.hid hq
  have hq2 : q < 128 := by omega
  clear hcur hT hstA h128 hv hbq hp hq
  go_enter Tryz.func36, Tryz.ntmps36
  go_wp2_with (go_at_call 30; (with_reducible refine (HN0.out _ HA.out.1 HA.out.2.1).mono ?_); rintro e w1 ⟨rfl, hcu1, hst1⟩)
  go_loopw [9, 10] (fun a9 a10 wr => ∃ (n last i : Nat) (rk : ByteArray) (pq : Lx.Pl) (D : List UInt8), a9 = .int .i64 n ∧ a10 = .int .u64 last ∧ 1 ≤ i ∧ i ≤ r.size ∧ n ≤ i ∧ last < 4294967296 ∧ rk.size = r.size - i ∧ Hid (PQuoS b w q r.data.toList p rk pq D n last i wr)) (fun _ _ wr => curSz b wr)
  case atStart => exact ⟨0, 0, 1, _, _, [], rfl, rfl, by omega, by omega, by omega, by omega, drop_size _ _, Lib.hid (HST.out _ hst1 hcu1)⟩
  case round =>
    obtain ⟨n, last, i, rk, pq, D, rfl, rfl, hi1, hi2, hn, hlast, hrk, HS⟩ := hrel
    clear hst1 hcu1 HST HN0 HA
    have HC1 := Lib.hid HS.out.cur
    have HB := Lib.hid HS.out.bld
    have HT1 : Hid (Tabs wr) := Lib.hid (HS.out.step.tabs hb HT.out)
    have HST1 := Lib.hid HS.out.step
    have hPQ : PlaceOk 5242880 pq := by
      rw [HS.out.pl]
      exact (moved_ok _ _ _ (Nat.le_refl _) HPL.out (by omega)).mono (by rw [List.length_take, szl]; omega)
    have hcc := cells_of_block HC1.out
    have hc0 := hcc.1 0
    have hcf := hcc.2
    have hlt := CurAt.lt HC1.out
    simp at hc0
    clear hcc
    by_cases h0k : 0 < rk.size
    · have hne : (rk.toList == []) = false := by rw [empty_iff]; exact decide_eq_false (by omega)
      have hne2 : (rk.toList != []) = true := by unfold bne; rw [hne]; rfl
      have hil : i < r.data.toList.length := by rw [szl]; omega
      have hxr : byteN rk.data.toList 0 = byteN r.data.toList i := byte_rest HS.out.rest 0
      have HNX := Lib.hid (fun W a1 a2 => next_any b hb rk (by omega) pq (hPQ.mono (by omega)) W a1 a2)
      by_cases hx : byteN r.data.toList i < 128
      · have hd0 := dec0_ascii h0k (by rw [hxr]; exact hx)
        rw [hxr] at hd0
        by_cases cq : byteN r.data.toList i = q
        · rw [hd0, cq] at HNX
          have HR : Hid (Lx.quoL q (r.data.toList.drop 1) [] 0 0 = some ⟨D, n, last, r.data.toList.drop (i + 1)⟩) := Lib.hid (by rw [HS.out.law]; exact Lx.quo_quote hil cq)
          have HQT := Lib.hid (fun W h => PQuoS.quote (W := W) HS.out hil cq hq2 h)
          have HSG : Hid (∀ W, Bld w.heap.size D W → w.heap.size ≤ W.heap.size → Calls Tryz.prog 53 #[.pointer (some ⟨w.heap.size, 0, none⟩)] W fun e w' => e = .returned (.string ⟨D.toArray⟩) ∧ Below w.heap.size W w') :=
            Lib.hid fun W a1 a2 => Tryz.Builder_String_any w.heap.size w.heap.size D W a1 a2
          have dq : ((q : Int) == (q : Int)) = true := by simp
          clear HS hd0 hxr hPQ cq hx
          go_wp2_with (first
            | (go_at_call 30; (with_reducible refine (HNX.out _ HC1.out HT1.out).mono ?_); rintro e w6 ⟨rfl, hcu, hst⟩; have hbl6 := HB.out.step hst hbw)
            | (go_at_call 53; (with_reducible refine (HSG.out _ hbl6 (Nat.le_of_lt hbl6.lt)).mono ?_); rintro e w7 ⟨rfl, hlo7⟩))
          go_returns
          exact ⟨pquo_some (by omega) HR.out rfl ((HQT.out _ hcu).low hlo7 hbw), (HST1.out.trans hst).above hlo7 (Nat.le_refl _) (by omega)⟩
        · by_cases c10 : byteN r.data.toList i = 10
          · rw [hd0, c10] at HNX
            have HR : Hid (Lx.quoL q (r.data.toList.drop 1) [] 0 0 = none) := Lib.hid (by rw [HS.out.law]; exact Lx.quo_line hil c10 cq)
            have dq : (((10 : Nat) : Int) == (q : Int)) = false := by simp; omega
            have dq2 : ((10 : Int) == (q : Int)) = false := by simp; omega
            clear HS hd0 hxr hPQ cq hx c10
            go_wp2_with (go_at_call 30; (with_reducible refine (HNX.out _ HC1.out HT1.out).mono ?_); rintro e w6 ⟨rfl, hcu, hst⟩)
            go_returns
            exact ⟨pquo_none HR.out rfl, HST1.out.trans hst⟩
          · by_cases c92 : byteN r.data.toList i = 92
            · have dq : (((92 : Nat) : Int) == (q : Int)) = false := by simp; omega
              have dq2 : ((92 : Int) == (q : Int)) = false := by simp; omega
              have hrk1 : (rk.extract 1 rk.size).data.toList = r.data.toList.drop (i + 1) := by rw [drop_data, HS.out.rest, List.drop_drop]
              have hz1 := drop_size rk 1
              have HES := fun W a1 a2 => escape_any b hb (rk.extract 1 rk.size) (by omega) (Lx.stepP pq 92) ((stepP_ok hPQ (by omega) 92).mono (by omega)) W a1 a2
              unfold EscP at HES
              rw [hrk1] at HES
              cases hesc : Lx.escL (r.data.toList.drop (i + 1)) with
              | none =>
                rw [hd0, c92] at HNX
                have HR : Hid (Lx.quoL q (r.data.toList.drop 1) [] 0 0 = none) := Lib.hid (by rw [HS.out.law, Lx.quo_esc hil c92 cq, hesc])
                rw [hesc] at HES
                have HES := Lib.hid HES
                clear HS hd0 hxr hPQ cq hx c10 c92 hesc hrk1 hz1
                go_wp2_with (first
                  | (go_at_call 30; (with_reducible refine (HNX.out _ HC1.out HT1.out).mono ?_); rintro e w6 ⟨rfl, hcu, hst⟩; have HT6 := Lib.hid (hst.tabs hb HT1.out))
                  | (go_at_call 54; (with_reducible refine (HES.out _ hcu HT6.out).mono ?_); rintro e w7 ⟨rfl, hst7⟩))
                go_returns
                exact ⟨pquo_none HR.out rfl, (HST1.out.trans hst).trans hst7⟩
              | some ck =>
                obtain ⟨c, k⟩ := ck
                rw [hd0, c92] at HNX
                rw [hesc] at HES
                dsimp only at HES
                obtain ⟨hc, hk⟩ := escL_byte hesc
                have hk1 := (Lx.escL_len hesc).1
                rw [List.length_drop, szl] at hk
                have HR : Hid (∀ w2 w3, StepB b wr w2 → CurAt b ((rk.extract 1 rk.size).extract k (rk.extract 1 rk.size).size) (Lx.moved (Lx.stepP pq 92) ((r.data.toList.drop (i + 1)).take k)) w2 → Bld w.heap.size (D ++ [UInt8.ofNat c]) w3 → Below w.heap.size w2 w3 →
                    PQuoS b w q r.data.toList p (rk.extract (1 + k) rk.size) (Lx.moved (Lx.stepP pq 92) ((r.data.toList.drop (i + 1)).take k)) (D ++ [UInt8.ofNat c]) (n + 1) c (i + 1 + k) w3) :=
                  Lib.hid fun w2 w3 a1 a2 a3 a4 => HS.out.esc hil c92 (by omega) hbw hesc a1 a2 a3 a4
                have HES := Lib.hid HES
                have HDL := Lib.hid HS.out.len
                have HWB : Hid (∀ W, Bld w.heap.size D W → w.heap.size ≤ W.heap.size → Calls Tryz.prog 55 #[.pointer (some ⟨w.heap.size, 0, none⟩), .int .u8 c] W fun e w' => e = .returned .nilIface ∧ Bld w.heap.size (D ++ [UInt8.ofNat c]) w' ∧ Below w.heap.size W w') :=
                  Lib.hid fun W a1 a2 => writeByte_any w.heap.size D c hc W a1 (by have := HDL.out; omega) a2
                have HZ1 := Lib.hid (drop_size rk (1 + k))
                clear HS hd0 hxr hPQ cq hx c10 c92 hesc hrk1 hz1
                generalize Lx.moved (Lx.stepP pq 92) ((r.data.toList.drop (i + 1)).take k) = pq2 at HES HR
                go_wp2_with (first
                  | (go_at_call 30; (with_reducible refine (HNX.out _ HC1.out HT1.out).mono ?_); rintro e w6 ⟨rfl, hcu, hst⟩; have HT6 := Lib.hid (hst.tabs hb HT1.out))
                  | (go_at_call 54; (with_reducible refine (HES.out _ hcu HT6.out).mono ?_); rintro e w7 ⟨⟨rfl, hcu7⟩, hst7⟩; have hbl7 := HB.out.step (hst.trans hst7) hbw)
                  | (go_at_call 55; (with_reducible refine (HWB.out _ hbl7 (Nat.le_of_lt hbl7.lt)).mono ?_); rintro e w8 ⟨rfl, hbl8, hlo8⟩))
                go_roundw
                case rel => exact ⟨n + 1, c, i + 1 + k, _, _, _, by go_num, by go_num, by omega, by omega, by omega, by omega, by rw [HZ1.out]; omega, Lib.hid (HR.out _ _ (hst.trans hst7) hcu7 hbl8 hlo8)⟩
                case measure => rw [CurAt.sz (HR.out _ _ (hst.trans hst7) hcu7 hbl8 hlo8).cur, CurAt.sz HC1.out, HZ1.out]; omega
            · have dq : (((Lib.decodeL (r.data.toList.drop i)).1 : Int) == (q : Int)) = false := by
                rw [← HS.out.rest, ← dec0_L h0k, hd0]; simp; omega
              have d10 : (((Lib.decodeL (r.data.toList.drop i)).1 : Int) == 10) = false := by
                rw [← HS.out.rest, ← dec0_L h0k, hd0]; simp; omega
              have d92 : (((Lib.decodeL (r.data.toList.drop i)).1 : Int) == 92) = false := by
                rw [← HS.out.rest, ← dec0_L h0k, hd0]; simp; omega
              clear hd0
              have HQ : Hid (PQuoS b w q r.data.toList p rk pq D n last i wr) := HS
              have hne0 := Lx.drop_ne hil
              have hdl := Lx.decodeL_len hne0
              have hd0 : dec0 rk = Lib.decodeL (r.data.toList.drop i) := by rw [dec0_L h0k, HS.out.rest]
              have hdz : (Lib.decodeL (r.data.toList.drop i)).2 ≤ r.size - i := by have := hdl.2; rw [List.length_drop, szl] at this; exact this
              have hd1 := hdl.1
              have hr4 := (dec0_le rk).1
              rw [hd0] at HNX hr4
              have HR : Hid (∀ w2 w3, StepB b wr w2 → CurAt b (rk.extract (Lib.decodeL (r.data.toList.drop i)).2 rk.size) (Lx.stepP pq (Lib.decodeL (r.data.toList.drop i)).1) w2 → Bld w.heap.size (D ++ Lib.encodeRune ((Lib.decodeL (r.data.toList.drop i)).1 : Int)) w3 → Below w.heap.size w2 w3 →
                  PQuoS b w q r.data.toList p (rk.extract (Lib.decodeL (r.data.toList.drop i)).2 rk.size) (Lx.stepP pq (Lib.decodeL (r.data.toList.drop i)).1) (D ++ Lib.encodeRune ((Lib.decodeL (r.data.toList.drop i)).1 : Int)) (n + 1) (Lib.decodeL (r.data.toList.drop i)).1 (i + (Lib.decodeL (r.data.toList.drop i)).2) w3) :=
                Lib.hid fun w2 w3 a1 a2 a3 a4 => HS.out.rune hil c92 cq c10 hbw a1 a2 a3 a4
              have hz1 := drop_size rk (Lib.decodeL (r.data.toList.drop i)).2
              clear hd0 hdl hne0 HQ
              generalize Lx.stepP pq (Lib.decodeL (r.data.toList.drop i)).1 = pq1 at HNX HR
              have HDL := Lib.hid (HS.out.len)
              generalize (Lib.decodeL (r.data.toList.drop i)).1 = c at HNX HR hr4 dq d10 d92
              generalize (Lib.decodeL (r.data.toList.drop i)).2 = d at HNX HR hdz hd1 hz1
              have HZ1 := Lib.hid hz1
              clear hz1
              have HWR : Hid (∀ W, Bld w.heap.size D W → w.heap.size ≤ W.heap.size → Calls Tryz.prog 56 #[.pointer (some ⟨w.heap.size, 0, none⟩), .int .i32 c] W fun e w' => (∃ n : Int, e = .returned (.tuple #[.int .i64 n, .nilIface])) ∧ Bld w.heap.size (D ++ Lib.encodeRune (c : Int)) w' ∧ Below w.heap.size W w') :=
                Lib.hid fun W a1 a2 => writeRune_any w.heap.size D c hr4 W a1 (by have := HDL.out; omega) a2
              go_wp2_with (first
                | (go_at_call 30; (with_reducible refine (HNX.out _ HC1.out HT1.out).mono ?_); rintro e w6 ⟨rfl, hcu, hst⟩; have hbl6 := HB.out.step hst hbw)
                | (go_at_call 56; (with_reducible refine (HWR.out _ hbl6 (Nat.le_of_lt hbl6.lt)).mono ?_); rintro e w7 ⟨⟨nn, rfl⟩, hbl7, hlo7⟩))
              go_roundw
              case rel => exact ⟨n + 1, c, i + d, _, _, _, by go_num, by go_num, by omega, by omega, by omega, by omega, by rw [HZ1.out]; omega, Lib.hid (HR.out _ _ hst hcu hbl7 hlo7)⟩
              case measure => rw [CurAt.sz (HR.out _ _ hst hcu hbl7 hlo7).cur, CurAt.sz HC1.out, HZ1.out]; omega
      · have hh := dec0_high h0k (by rw [hxr]; exact hx)
        rw [dec0_L h0k, HS.out.rest] at hh
        have cq : byteN r.data.toList i ≠ q := by omega
        have c10 : byteN r.data.toList i ≠ 10 := by omega
        have c92 : byteN r.data.toList i ≠ 92 := by omega
        have dq : (((Lib.decodeL (r.data.toList.drop i)).1 : Int) == (q : Int)) = false := by simp; omega
        have d10 : (((Lib.decodeL (r.data.toList.drop i)).1 : Int) == 10) = false := by simp; omega
        have d92 : (((Lib.decodeL (r.data.toList.drop i)).1 : Int) == 92) = false := by simp; omega
        clear hh
        have HQ : Hid (PQuoS b w q r.data.toList p rk pq D n last i wr) := HS
        have hne0 := Lx.drop_ne hil
        have hdl := Lx.decodeL_len hne0
        have hd0 : dec0 rk = Lib.decodeL (r.data.toList.drop i) := by rw [dec0_L h0k, HS.out.rest]
        have hdz : (Lib.decodeL (r.data.toList.drop i)).2 ≤ r.size - i := by have := hdl.2; rw [List.length_drop, szl] at this; exact this
        have hd1 := hdl.1
        have hr4 := (dec0_le rk).1
        rw [hd0] at HNX hr4
        have HR : Hid (∀ w2 w3, StepB b wr w2 → CurAt b (rk.extract (Lib.decodeL (r.data.toList.drop i)).2 rk.size) (Lx.stepP pq (Lib.decodeL (r.data.toList.drop i)).1) w2 → Bld w.heap.size (D ++ Lib.encodeRune ((Lib.decodeL (r.data.toList.drop i)).1 : Int)) w3 → Below w.heap.size w2 w3 →
            PQuoS b w q r.data.toList p (rk.extract (Lib.decodeL (r.data.toList.drop i)).2 rk.size) (Lx.stepP pq (Lib.decodeL (r.data.toList.drop i)).1) (D ++ Lib.encodeRune ((Lib.decodeL (r.data.toList.drop i)).1 : Int)) (n + 1) (Lib.decodeL (r.data.toList.drop i)).1 (i + (Lib.decodeL (r.data.toList.drop i)).2) w3) :=
          Lib.hid fun w2 w3 a1 a2 a3 a4 => HS.out.rune hil c92 cq c10 hbw a1 a2 a3 a4
        have hz1 := drop_size rk (Lib.decodeL (r.data.toList.drop i)).2
        clear hd0 hdl hne0 HQ
        generalize Lx.stepP pq (Lib.decodeL (r.data.toList.drop i)).1 = pq1 at HNX HR
        have HDL := Lib.hid (HS.out.len)
        generalize (Lib.decodeL (r.data.toList.drop i)).1 = c at HNX HR hr4 dq d10 d92
        generalize (Lib.decodeL (r.data.toList.drop i)).2 = d at HNX HR hdz hd1 hz1
        have HZ1 := Lib.hid hz1
        clear hz1
        have HWR : Hid (∀ W, Bld w.heap.size D W → w.heap.size ≤ W.heap.size → Calls Tryz.prog 56 #[.pointer (some ⟨w.heap.size, 0, none⟩), .int .i32 c] W fun e w' => (∃ n : Int, e = .returned (.tuple #[.int .i64 n, .nilIface])) ∧ Bld w.heap.size (D ++ Lib.encodeRune (c : Int)) w' ∧ Below w.heap.size W w') :=
          Lib.hid fun W a1 a2 => writeRune_any w.heap.size D c hr4 W a1 (by have := HDL.out; omega) a2
        go_wp2_with (first
          | (go_at_call 30; (with_reducible refine (HNX.out _ HC1.out HT1.out).mono ?_); rintro e w6 ⟨rfl, hcu, hst⟩; have hbl6 := HB.out.step hst hbw)
          | (go_at_call 56; (with_reducible refine (HWR.out _ hbl6 (Nat.le_of_lt hbl6.lt)).mono ?_); rintro e w7 ⟨⟨nn, rfl⟩, hbl7, hlo7⟩))
        go_roundw
        case rel => exact ⟨n + 1, c, i + d, _, _, _, by go_num, by go_num, by omega, by omega, by omega, by omega, by rw [HZ1.out]; omega, Lib.hid (HR.out _ _ hst hcu hbl7 hlo7)⟩
        case measure => rw [CurAt.sz (HR.out _ _ hst hcu hbl7 hlo7).cur, CurAt.sz HC1.out, HZ1.out]; omega
    · have hne : (rk.toList == []) = true := by rw [empty_iff]; exact decide_eq_true (by omega)
      have hne2 : (rk.toList != []) = false := by unfold bne; rw [hne]; rfl
      have HR : Hid (Lx.quoL q (r.data.toList.drop 1) [] 0 0 = none) := Lib.hid (by rw [HS.out.law]; exact Lx.quo_end (by rw [szl]; omega))
      clear HS
      go_wp2
      go_returns
      exact ⟨pquo_none HR.out rfl, HST1.out⟩
end Go.Proofs.YteplbbjmbhgllaaGreatDoor
