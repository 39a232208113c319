/-
  The reference's quoted, walked.
-/
import Derived.Test.YteplbbjmbhgllaaGreatDoorLexM11
namespace Go.Proofs.YteplbbjmbhgllaaGreatDoor
open Go.RowKit
set_option linter.unusedVariables false
set_option linter.unusedSimpArgs false

/-- What holds ahead of each rune. -/
structure QuoS (base : Nat) (w0 : World) (q : Nat) (L : List UInt8) (v : Value) (D : List UInt8) (n last i : Nat) (w : World) : Prop where
  own : OwnB (base + 1) w v D
  res : w.heap[base]? = some (.cells tokZ 32 (0, 0))
  low : Below base w0 w
  law : Lx.quoL q (L.drop 1) [] 0 0 = Lx.quoL q (L.drop i) D n last
  val : Lx.Val (L.drop i)
  len : D.length ≤ 4 * i
theorem QuoS.keep {base q n last i : Nat} {w0 w w' : World} {L D : List UInt8} {v : Value} (h : QuoS base w0 q L v D n last i w) (hb : Below w.heap.size w w') : QuoS base w0 q L v D n last i w' :=
  ⟨h.own.next hb, (hb.block _ (Array.getElem?_eq_some_iff.1 h.res).1).trans h.res, h.low.trans (hb.mono (by have := (Array.getElem?_eq_some_iff.1 h.res).1; omega)), h.law, h.val, h.len⟩
theorem QuoS.lt {base q n last i : Nat} {w0 w : World} {L D : List UInt8} {v : Value} (h : QuoS base w0 q L v D n last i w) : base < w.heap.size := (Array.getElem?_eq_some_iff.1 h.res).1
theorem QuoS.form {base q n last i : Nat} {w0 w : World} {L D : List UInt8} {v : Value} (h : QuoS base w0 q L v D n last i w) : ∃ A c, v = .slice A D.length c := h.own.form
set_option maxRecDepth 100000 in
set_option maxHeartbeats 8000000 in
theorem rquoted_any (q : Nat) (hq : q = 39 ∨ q = 34) (s : ByteArray) (hs : s.size ≤ 1048576) (h0 : 0 < s.size) (hb : byteN s.data.toList 0 = q) (hv : Lx.Val (s.data.toList.drop 1)) (w : World) : Calls Tryz.prog 42 #[.string s] w fun e w' => QuoP q s e ∧ Below w.heap.size w w' := by
  have hA2 := frozen_alloc_if
  have hA3 := cell_set_if
  have hq2 : q < 128 := by omega
  have hix0 := fun W => idx_s (P := Tryz.prog) 9 Tryz.underlying9 s .i64 0 0 rfl h0 W
  rw [hb] at hix0
  have HV := Lib.hid hv
  have HQ := Lib.hid hq
  clear hv hb hq
  go_enter Tryz.func42, Tryz.ntmps42
  go_wp2
  go_loopw [5, 6, 7, 8] (fun a5 a6 a7 a8 wr => ∃ (v : Value) (D : List UInt8) (n last i : Nat), v = a5 ∧ a6 = .int .i64 n ∧ a7 = .int .u64 last ∧ a8 = .int .i64 i ∧ 1 ≤ i ∧ i ≤ s.size ∧ n ≤ i ∧ last < 4294967296 ∧ Hid (QuoS w.heap.size w q s.data.toList v D n last i wr)) (fun _ _ _ a8 _ => s.size - (intOf a8).toNat)
  case atStart =>
    refine ⟨.slice none 0 0, [], 0, 0, 1, rfl, rfl, rfl, rfl, by omega, by omega, by omega, by omega, Lib.hid ⟨OwnL.nil _ _ _ _ _, ?_, ?_, rfl, HV.out, by simp⟩⟩
    · exact heap_alloc_new w _
    · exact (Below.refl _ w).alloc (Nat.le_refl _) _
  case round =>
    obtain ⟨v, D, n, last, i, rfl, rfl, rfl, rfl, hi1, hi2, hn, hlast, HS⟩ := hrel
    by_cases hlt : i < s.size
    · have hix := fun W => idx_s (P := Tryz.prog) 9 Tryz.underlying9 s .i64 (i : Int) i rfl (by omega) W
      have hx := byteN_lt s.data.toList i
      have hl : i < s.data.toList.length := by rw [szl]; exact hlt
      obtain ⟨x, ex⟩ : ∃ x, byteN s.data.toList i = x := ⟨_, rfl⟩
      rw [ex] at hix hx
      have EX := Lib.hid ex
      clear ex
      by_cases c1 : x = q
      · have HR : Hid (Lx.quoL q (s.data.toList.drop 1) [] 0 0 = some ⟨D, n, last, s.data.toList.drop (i + 1)⟩) := Lib.hid (by rw [HS.out.law]; exact Lx.quo_quote hl (by rw [EX.out]; exact c1))
        subst c1
        rcases HQ.out with e | e
        · subst e
          by_cases hn1 : n = 1
          · subst hn1
            have hcr := cells_of_block (QuoS.res HS.out)
            have hr0 := hcr.1 0
            have hr1 := hcr.1 1
            have hr2 := hcr.1 2
            have hr3 := hcr.1 3
            have hr4 := hcr.1 4
            have hr5 := hcr.1 5
            have hrf := hcr.2
            have hsz := QuoS.lt HS.out
            simp [tokZ] at hr0 hr1 hr2 hr3 hr4 hr5
            have HB := Lib.hid (QuoS.low HS.out)
            clear hcr
            clear HS
            go_wp2
            ((try simp only [Exit.inBlock, Exit.then]); go_light; refine bodyPost_ret (by simp [results, Tryz.results42, go_sem, *, ↓IntWalk.iteOmega]; try rfl) rfl ?_)
            exact ⟨quoP_char hlt HR.out rfl, by (have := HB.out); (repeat' (first | (with_reducible exact Below.refl _ _) | (with_reducible assumption) | (with_reducible refine Below.setCell ?_ ?_ _) | (with_reducible refine Below.alloc ?_ ?_ _) | (with_reducible refine Below.drew ?_) | (with_reducible refine below_drewN ?_ _) | (with_reducible refine below_next ?_ (by with_reducible assumption)) | omega | (dsimp only; omega) | (simp only [World.size_alloc, World.size_setCell, World.size_drew, World.heap_drewN]; omega)))⟩
          · have dn : ((n : Int) == 1) = false := by simp; omega
            have dn2 : ((n : Int) != 1) = true := by simp; omega
            have hcr := cells_of_block (QuoS.res HS.out)
            have hr0 := hcr.1 0
            have hr1 := hcr.1 1
            have hr2 := hcr.1 2
            have hr3 := hcr.1 3
            have hr4 := hcr.1 4
            have hr5 := hcr.1 5
            have hrf := hcr.2
            have hsz := QuoS.lt HS.out
            simp [tokZ] at hr0 hr1 hr2 hr3 hr4 hr5
            have HB := Lib.hid (QuoS.low HS.out)
            clear hcr
            clear HS
            go_wp2
            ((try simp only [Exit.inBlock, Exit.then]); go_light; refine bodyPost_ret (by simp [results, Tryz.results42, go_sem, *, ↓IntWalk.iteOmega]; try rfl) rfl ?_)
            exact ⟨quoP_many HR.out hn1 rfl (isTok _ _ _ _ _ _), by (have := HB.out); (repeat' (first | (with_reducible exact Below.refl _ _) | (with_reducible assumption) | (with_reducible refine Below.setCell ?_ ?_ _) | (with_reducible refine Below.alloc ?_ ?_ _) | (with_reducible refine Below.drew ?_) | (with_reducible refine below_drewN ?_ _) | (with_reducible refine below_next ?_ (by with_reducible assumption)) | omega | (dsimp only; omega) | (simp only [World.size_alloc, World.size_setCell, World.size_drew, World.heap_drewN]; omega)))⟩
        · subst e
          have HCV : Hid (∀ W, Below wr.heap.size wr W → (convert 34 9 v).run Tryz.prog W = .ok (.string ⟨D.toArray⟩) W) := Lib.hid fun W hb => OwnB.conv (OwnL.next HS.out.own hb)
          have hcr := cells_of_block (QuoS.res HS.out)
          have hr0 := hcr.1 0
          have hr1 := hcr.1 1
          have hr2 := hcr.1 2
          have hr3 := hcr.1 3
          have hr4 := hcr.1 4
          have hr5 := hcr.1 5
          have hrf := hcr.2
          have hsz := QuoS.lt HS.out
          simp [tokZ] at hr0 hr1 hr2 hr3 hr4 hr5
          have HB := Lib.hid (QuoS.low HS.out)
          clear hcr
          clear HS
          go_wp2
          refine wp_region_tail 7 (by intro c a d v w h; cases d <;> (simp [Exit.then, Exit.inBlock] at h ⊢; exact h)) (by kernel_rfl) (by kernel_rfl) (by kernel_rfl) (by kernel_rfl) ?_
          apply Exists.intro
          refine ⟨fun m hm => ?_, fun w' hw' => ?_⟩
          · simp only [List.map_cons, List.map_nil, List.take_succ_cons, List.take_zero, deAl]
            repeat (first | go_big_quiet_skip | (go_big_quiet_want; go_big_quiet_op; first | go_big_quiet_on | (apply Exists.intro; refine ⟨fun W hW => ?_, ?_⟩; (focus (first
              | (have hcv := HCV.out _ (Ext.of (Ext.past hm hW)); simp [go_sem, hcv]; exact rfl)
              | exact rfl | (obtain ⟨hcW, hfW, hzW⟩ := cif (Ext.of (Ext.past hm hW)); (try simp only [World.size_alloc, World.size_setCell, World.size_drew, World.heap_drewN] at hzW); simp [go_sem, *, ↓IntWalk.iteOmega]; (try exact rfl)))); go_big_quiet_on)))
            exact wpQuiet_nil rfl
          rw [show als _ 0 7 = [] from by kernel_rfl]
          simp only [gEnd, List.drop_succ_cons, List.drop_zero]
          have hbl := Ext.of hw'
          obtain ⟨hc, hf, hz⟩ := cif hbl
          (try simp only [World.size_alloc, World.size_setCell, World.size_drew, World.heap_drewN] at hz)
          clear hw'
          go_wp2
          ((try simp only [Exit.inBlock, Exit.then]); go_light; refine bodyPost_ret (by simp [results, Tryz.results42, go_sem, *, ↓IntWalk.iteOmega]; try rfl) rfl ?_)
          exact ⟨quoP_text hlt HR.out rfl, by (have := HB.out); (repeat' (first | (with_reducible exact Below.refl _ _) | (with_reducible assumption) | (with_reducible refine Below.setCell ?_ ?_ _) | (with_reducible refine Below.alloc ?_ ?_ _) | (with_reducible refine Below.drew ?_) | (with_reducible refine below_drewN ?_ _) | (with_reducible refine below_next ?_ (by with_reducible assumption)) | omega | (dsimp only; omega) | (simp only [World.size_alloc, World.size_setCell, World.size_drew, World.heap_drewN]; omega)))⟩
      · have d1 : ((x : Int) == (q : Int)) = false := by simp; omega
        by_cases c2 : x = 10
        · have HR : Hid (Lx.quoL q (s.data.toList.drop 1) [] 0 0 = none) := Lib.hid (by rw [HS.out.law]; exact Lx.quo_line hl (by rw [EX.out]; exact c2) (by rw [EX.out]; exact c1))
          subst c2
          have hcr := cells_of_block (QuoS.res HS.out)
          have hr0 := hcr.1 0
          have hr1 := hcr.1 1
          have hr2 := hcr.1 2
          have hr3 := hcr.1 3
          have hr4 := hcr.1 4
          have hr5 := hcr.1 5
          have hrf := hcr.2
          have hsz := QuoS.lt HS.out
          simp [tokZ] at hr0 hr1 hr2 hr3 hr4 hr5
          have HB := Lib.hid (QuoS.low HS.out)
          clear hcr
          clear HS
          go_wp2
          ((try simp only [Exit.inBlock, Exit.then]); go_light; refine bodyPost_ret (by simp [results, Tryz.results42, go_sem, *, ↓IntWalk.iteOmega]; try rfl) rfl ?_)
          exact ⟨quoP_none HR.out rfl (isTok _ _ _ _ _ _), by (have := HB.out); (repeat' (first | (with_reducible exact Below.refl _ _) | (with_reducible assumption) | (with_reducible refine Below.setCell ?_ ?_ _) | (with_reducible refine Below.alloc ?_ ?_ _) | (with_reducible refine Below.drew ?_) | (with_reducible refine below_drewN ?_ _) | (with_reducible refine below_next ?_ (by with_reducible assumption)) | omega | (dsimp only; omega) | (simp only [World.size_alloc, World.size_setCell, World.size_drew, World.heap_drewN]; omega)))⟩
        · have d2 : ((x : Int) == 10) = false := by simp; omega
          by_cases c3 : x = 92
          · have hlaw := HS.out.law.trans (Lx.quo_esc (data := D) (n := n) (last := last) hl (by rw [EX.out]; exact c3) (by rw [EX.out]; exact c1))
            have HE := Lib.hid (fun W => rescape_any s (by omega) i hlt W)
            have hE92 : byteN s.data.toList i = 92 := by rw [EX.out]; exact c3
            subst c3
            cases hesc : Lx.escL (s.data.toList.drop (i + 1)) with
            | none =>
              have e1 : escV s.data.toList i = .tuple #[.int .u8 0, .int .i64 0, .bool false] := by unfold escV; rw [hesc]
              rw [e1] at HE
              have HR : Hid (Lx.quoL q (s.data.toList.drop 1) [] 0 0 = none) := Lib.hid (by rw [hlaw, hesc])
              have hcr := cells_of_block (QuoS.res HS.out)
              have hr0 := hcr.1 0
              have hr1 := hcr.1 1
              have hr2 := hcr.1 2
              have hr3 := hcr.1 3
              have hr4 := hcr.1 4
              have hr5 := hcr.1 5
              have hrf := hcr.2
              have hsz := QuoS.lt HS.out
              simp [tokZ] at hr0 hr1 hr2 hr3 hr4 hr5
              have HB := Lib.hid (QuoS.low HS.out)
              clear hcr
              clear HS hlaw hesc e1
              go_wp2_with (go_at_call 59; (with_reducible refine (HE.out _).mono ?_); rintro e w' ⟨rfl, hbl⟩; obtain ⟨hc, hf, hz⟩ := cif hbl; (try simp only [World.size_alloc, World.size_setCell, World.size_drew, World.heap_drewN] at hz))
              all_goals (((try simp only [Exit.inBlock, Exit.then]); go_light; refine bodyPost_ret (by simp [results, Tryz.results42, go_sem, *, ↓IntWalk.iteOmega]; try rfl) rfl ?_); exact ⟨quoP_none HR.out rfl (isTok _ _ _ _ _ _), by (have := HB.out); (repeat' (first | (with_reducible exact Below.refl _ _) | (with_reducible assumption) | (with_reducible refine Below.setCell ?_ ?_ _) | (with_reducible refine Below.alloc ?_ ?_ _) | (with_reducible refine Below.drew ?_) | (with_reducible refine below_drewN ?_ _) | (with_reducible refine below_next ?_ (by with_reducible assumption)) | omega | (dsimp only; omega) | (simp only [World.size_alloc, World.size_setCell, World.size_drew, World.heap_drewN]; omega)))⟩)
            | some ck =>
              obtain ⟨c, k⟩ := ck
              have e1 : escV s.data.toList i = .tuple #[.int .u8 (c : Int), .int .i64 ((i + 1 + k : Nat) : Int), .bool true] := by unfold escV; rw [hesc]
              rw [e1] at HE
              obtain ⟨hc, hk⟩ := escL_byte hesc
              rw [List.length_drop, szl] at hk
              have HN : Hid (Lx.quoL q (s.data.toList.drop 1) [] 0 0 = Lx.quoL q (s.data.toList.drop (i + 1 + k)) (D ++ [UInt8.ofNat c]) (n + 1) c ∧ Lx.Val (s.data.toList.drop (i + 1 + k))) := Lib.hid ⟨by rw [hlaw, hesc], Lx.val_esc hl hE92 HS.out.val hesc⟩
              have HF := QuoS.form HS.out
              obtain ⟨i0, hi0, hz0, hz1, hz2⟩ := byte_info
              clear hlaw hesc e1 hE92
              go_wp2_with (first
                | (go_at_call 59; (with_reducible refine (HE.out _).mono ?_); rintro e w' ⟨rfl, hbl⟩)
                | (at_builtin; refine wpList_app (e := 5) (f := byC) rfl _ _ 34 rfl (w.heap.size + 1) i0 _ 1 Tryz.underlying34 hi0 hz0 hz1 hz2 rfl (by decide) (fun _ => rfl) v D rfl ?c0 _ 1 _ [UInt8.ofNat c] rfl ?c1 ?c2 (by decide) ?c3 ?c4 ?_))
              case c0 => exact ((HS.out.keep hbl).own).alloc _
              case c1 => exact RdL.oneB hc (heap_alloc_new _ _)
              case c2 => intro a ha u hu; simp at ha; subst ha; simp [byC] at hu; subst hu; rfl
              case c3 => have := HS.out.len; simp; omega
              case c4 => have := (HS.out.keep hbl).lt; simp only [World.size_alloc]; omega
              intro A9 c9 w12 hown hg hB hor
              go_wp2
              go_roundw
              case rel =>
                have hS2 := HS.out.keep hbl
                refine ⟨_, D ++ [UInt8.ofNat c], n + 1, c, i + 1 + k, rfl, by go_num, by first | rfl | go_num, by go_num, by omega, by omega, by omega, by omega, Lib.hid ⟨hown, ?_, ?_, HN.out.1, HN.out.2, ?_⟩⟩
                · rw [hB.block _ (by omega), heap_alloc_old _ _ hS2.lt]; exact hS2.res
                · exact (hS2.low.alloc (by have := hS2.lt; omega) _).trans (hB.mono (by omega))
                · have := HS.out.len; simp; omega
              case measure => simp [intOf]; omega
          · have hlaw := HS.out.law.trans (Lx.quo_rune (data := D) (n := n) (last := last) hl (by rw [EX.out]; exact c3) (by rw [EX.out]; exact c1) (by rw [EX.out]; exact c2))
            have d3 : ((x : Int) == 92) = false := by simp; omega
            have n1 : ((x : Int) != (q : Int)) = true := by simp; omega
            have n2 : ((x : Int) != 10) = true := by simp; omega
            have hdl := dec_len hlt
            have hvr := Lx.val_rune hl HS.out.val
            have hen := Lx.encode_len (Lx.drop_ne hl) HS.out.val
            rw [← enc_size] at hen
            rw [dec_drop] at hlaw hvr hen
            have hr4 : (Utf8.decode s i).1 ≤ 1114111 := Lib.rune_le s i
            have hs2 : (s.extract i s.size).size = s.size - i := by simp
            have hd0 : Utf8.decode (s.extract i s.size) 0 = Utf8.decode s i := by have := Lib.tail_decode s i 0; simpa using this
            obtain ⟨r, er⟩ : ∃ r, (Utf8.decode s i).1 = r := ⟨_, rfl⟩
            obtain ⟨d, ed⟩ : ∃ d, (Utf8.decode s i).2 = d := ⟨_, rfl⟩
            have hd0' : Utf8.decode (s.extract i s.size) 0 = (r, d) := by rw [hd0, ← er, ← ed]
            rw [er] at hlaw hen hr4
            rw [ed] at hlaw hen hdl hvr
            have HD0 := Lib.hid hd0'
            have HN : Hid (Lx.quoL q (s.data.toList.drop 1) [] 0 0 = Lx.quoL q (s.data.toList.drop (i + d)) (D ++ (s.data.toList.drop i).take d) (n + 1) r ∧ Lx.Val (s.data.toList.drop (i + d))) := Lib.hid ⟨hlaw, hvr⟩
            clear hlaw hd0 hd0' er ed hvr
            obtain ⟨W1, rfl⟩ : ∃ W1, W1 = wr := ⟨_, rfl⟩
            have hlt2 := QuoS.lt HS.out
            go_wp2
            go_loopw [7, 12] (fun a7 a12 wr => ∃ (pos : Nat), wr.heap[W1.heap.size]? = some (.stringIter (s.extract i s.size) pos) ∧ Below W1.heap.size W1 wr ∧ pos ≤ s.size - i ∧ ((pos = 0 ∧ a7 = .int .u64 last ∧ a12 = .int .i64 i) ∨ (d = pos ∧ a7 = .int .u64 r ∧ a12 = .int .i64 (i + d : Nat)))) (fun _ _ wr => s.size - wr.iterPos W1.heap.size)
            case atStart => exact ⟨0, World.iter_heap W1 _ 0, (Below.refl _ W1).alloc (Nat.le_refl _) _, by omega, .inl ⟨rfl, rfl, rfl⟩⟩
            case round =>
              obtain ⟨pos, hit, hbi, hpos, hcase⟩ := hrel
              rcases hcase with ⟨rfl, rfl, rfl⟩ | ⟨rfl, rfl, rfl⟩
              · have hp0 : 0 < (s.extract i s.size).size := by rw [hs2]; omega
                have hnx : ∀ ty, (Instr.next (.pointer (some ⟨W1.heap.size, 0, none⟩)) true ty).run Tryz.prog wr = _ := fun ty => Lib.run_next_any_at wr W1.heap.size (s.extract i s.size) 0 ty hit hp0
                rw [HD0.out] at hnx
                simp only [Nat.zero_add] at hnx
                have hit2 := Lib.iterAt_heap wr W1.heap.size (s.extract i s.size) 0 d hit
                have hbi2 := Lib.below_iterAt hbi (k := W1.heap.size) (by omega) (s.extract i s.size) d
                go_wp2
                go_roundw
                case rel => exact ⟨d, hit2, hbi2, by omega, .inr ⟨rfl, by go_num, by go_num⟩⟩
                case measure => simp only [World.iterPos, hit, hit2]; omega
              · by_cases hp1 : d < (s.extract i s.size).size
                · have hnx : ∀ ty, (Instr.next (.pointer (some ⟨W1.heap.size, 0, none⟩)) true ty).run Tryz.prog wr = _ := fun ty => Lib.run_next_any_at wr W1.heap.size (s.extract i s.size) d ty hit hp1
                  have hbi2 := Lib.below_iterAt hbi (k := W1.heap.size) (by omega) (s.extract i s.size) (d + (Utf8.decode (s.extract i s.size) d).2)
                  generalize Utf8.decode (s.extract i s.size) d = rd at hnx hbi2
                  have hd1 : decide ((d : Int) > 0) = true := decide_eq_true (by omega)
                  have hd2 : 0 < d := by omega
                  have hS2 := HS.out.keep hbi2
                  have HS2 := Lib.hid hS2
                  have hlt3 := hS2.lt
                  have HC := Lib.hid hS2.own
                  clear hS2
                  go_wp2_with (at_builtin; refine wpList_appS rfl _ _ rfl (w.heap.size + 1) v D rfl HC.out (s.extract i (i + d)) rfl ?c1 ?c2 ?_)
                  case c1 => have := HS.out.len; simp; omega
                  case c2 => omega
                  intro v12 w12 hown hg hB
                  go_wp2
                  go_roundw
                  case rel =>
                    have eC : (s.extract i (i + d)).data.toList = (s.data.toList.drop i).take d := by rw [Lib.extract_data, Nat.add_sub_cancel_left]
                    (try rw [eC] at hown)
                    refine ⟨_, D ++ (s.data.toList.drop i).take d, n + 1, r, i + d, rfl, by go_num, by first | rfl | go_num, by go_num, by omega, by omega, by omega, by omega, Lib.hid ⟨hown, ?_, ?_, HN.out.1, HN.out.2, ?_⟩⟩
                    · rw [hB.block _ (by omega)]; exact HS2.out.res
                    · exact HS2.out.low.trans (hB.mono (by omega))
                    · have := HS.out.len; simp; omega
                  case measure => simp [intOf]; omega
                · have hnx : ∀ ty, (Instr.next (.pointer (some ⟨W1.heap.size, 0, none⟩)) true ty).run Tryz.prog wr = _ := fun ty => Lib.run_next_end_at wr W1.heap.size (s.extract i s.size) d ty hit hp1
                  have hS2 := HS.out.keep hbi
                  have HS2 := Lib.hid hS2
                  have hlt3 := hS2.lt
                  have HC := Lib.hid hS2.own
                  clear hS2
                  go_wp2_with (at_builtin; refine wpList_appS rfl _ _ rfl (w.heap.size + 1) v D rfl HC.out (s.extract i (i + d)) rfl ?c1 ?c2 ?_)
                  case c1 => have := HS.out.len; simp; omega
                  case c2 => omega
                  intro v12 w12 hown hg hB
                  go_wp2
                  go_roundw
                  case rel =>
                    have eC : (s.extract i (i + d)).data.toList = (s.data.toList.drop i).take d := by rw [Lib.extract_data, Nat.add_sub_cancel_left]
                    (try rw [eC] at hown)
                    refine ⟨_, D ++ (s.data.toList.drop i).take d, n + 1, r, i + d, rfl, by go_num, by first | rfl | go_num, by go_num, by omega, by omega, by omega, by omega, Lib.hid ⟨hown, ?_, ?_, HN.out.1, HN.out.2, ?_⟩⟩
                    · rw [hB.block _ (by omega)]; exact HS2.out.res
                    · exact HS2.out.low.trans (hB.mono (by omega))
                    · have := HS.out.len; simp; omega
                  case measure => simp [intOf]; omega
    · have HR : Hid (Lx.quoL q (s.data.toList.drop 1) [] 0 0 = none) := Lib.hid (by rw [HS.out.law]; exact Lx.quo_end (by rw [szl]; omega))
      have hcr := cells_of_block (QuoS.res HS.out)
      have hr0 := hcr.1 0
      have hr1 := hcr.1 1
      have hr2 := hcr.1 2
      have hr3 := hcr.1 3
      have hr4 := hcr.1 4
      have hr5 := hcr.1 5
      have hrf := hcr.2
      have hsz := QuoS.lt HS.out
      simp [tokZ] at hr0 hr1 hr2 hr3 hr4 hr5
      have HB := Lib.hid (QuoS.low HS.out)
      clear hcr
      clear HS
      go_wp2
      ((try simp only [Exit.inBlock, Exit.then]); go_light; refine bodyPost_ret (by simp [results, Tryz.results42, go_sem, *, ↓IntWalk.iteOmega]; try rfl) rfl ?_)
      exact ⟨quoP_none HR.out rfl (isTok _ _ _ _ _ _), by (have := HB.out); (repeat' (first | (with_reducible exact Below.refl _ _) | (with_reducible assumption) | (with_reducible refine Below.setCell ?_ ?_ _) | (with_reducible refine Below.alloc ?_ ?_ _) | (with_reducible refine Below.drew ?_) | (with_reducible refine below_drewN ?_ _) | (with_reducible refine below_next ?_ (by with_reducible assumption)) | omega | (dsimp only; omega) | (simp only [World.size_alloc, World.size_setCell, World.size_drew, World.heap_drewN]; omega)))⟩
end Go.Proofs.YteplbbjmbhgllaaGreatDoor
