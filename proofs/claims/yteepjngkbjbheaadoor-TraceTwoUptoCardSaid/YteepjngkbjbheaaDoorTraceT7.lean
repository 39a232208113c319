/-
  Text, the program's.
-/
import Derived.Test.YteepjngkbjbheaaDoorTraceT6
import Derived.Test.YteepjngkbjbheaaDoorStep
namespace Go.Proofs.YteepjngkbjbheaaDoor
open Go.RowKit
set_option linter.unusedVariables false
set_option linter.unusedSimpArgs false

/-- What one event adds: nothing is told of its result. -/
theorem ev_none {nm : ByteArray} {sv : Value} {args : List V} {r : V} {y : ByteArray} {D : List UInt8} (hy : y = ⟨(commas (args.map valT)).toArray⟩) (hr : r.k = 0) :
    D ++ (nm ++ ⟨#[40]⟩ ++ y ++ ⟨#[41]⟩).data.toList ++ (⟨#[10]⟩ : ByteArray).data.toList = D ++ evT ⟨nm, sv, args, r⟩ := by
  subst hy
  simp [evT, resT, hr]
theorem ev_some {nm : ByteArray} {sv : Value} {args : List V} {r : V} {y z : ByteArray} {D : List UInt8} (hy : y = ⟨(commas (args.map valT)).toArray⟩) (hz : z = ⟨(valT r).toArray⟩) (hr : r.k ≠ 0) :
    D ++ (nm ++ ⟨#[40]⟩ ++ y ++ ⟨#[41]⟩).data.toList ++ (⟨#[32, 61, 32]⟩ ++ z).data.toList ++ (⟨#[10]⟩ : ByteArray).data.toList = D ++ evT ⟨nm, sv, args, r⟩ := by
  subst hy hz
  simp [evT, resT, hr]
theorem wstr_at {b : Nat} {D : List UInt8} {w : World} (s : ByteArray) (h : Bld b D w) (hlen : D.length + s.size ≤ 140737488355328) (hb : b ≤ w.heap.size) : Hid (∀ W, Below w.heap.size w W →
    Calls Tryd.prog 34 #[.pointer (some ⟨b, 0, none⟩), .string s] W fun e w' => e = .returned (.tuple #[.int .i64 s.size, .nilIface]) ∧ Bld b (D ++ s.data.toList) w' ∧ Below b W w' ∧ KeptE b W w' ∧ W.heap.size ≤ w'.heap.size) :=
  Lib.hid fun W hW => wstr_any b D s W (h.next hW) hlen (Nat.le_trans hb hW.size)
theorem size_parts (nm y : ByteArray) : (nm ++ ⟨#[40]⟩ ++ y ++ ⟨#[41]⟩ : ByteArray).size = nm.size + 1 + y.size + 1 := by
  have h1 : (⟨#[40]⟩ : ByteArray).size = 1 := rfl
  have h2 : (⟨#[41]⟩ : ByteArray).size = 1 := rfl
  simp only [ByteArray.size_append, h1, h2]
theorem size_list (s : ByteArray) : s.data.toList.length = s.size := by rw [Array.length_toList]; rfl
set_option maxRecDepth 100000 in
set_option maxHeartbeats 8000000 in
theorem text_any (sv : Value) (o : Out) (w : World) (h : RdEvs w sv o.tr) (hok : ∀ e ∈ o.tr, EvOk e) (hc : I32 o.code) (ht : TabT w) (hl : evsC o.tr ≤ 1099511627776) :
    Calls Tryd.prog 19 #[.agg #[sv, .int .i64 o.st, .int .i32 o.code, .int .i64 o.steps]] w fun e w' => e = .returned (.string ⟨(outT o).toArray⟩) ∧ Below w.heap.size w w' := by
  obtain ⟨i0, hi0, hz0, hz1, hz2⟩ := info_parts str_info
  have mlen := h.1.len
  unfold maxLen at mlen
  obtain ⟨AO, cO, rfl⟩ := h.1.form
  obtain ⟨tr, st, code, steps⟩ := o
  dsimp only at *
  have HE : Hid (∀ W, Below w.heap.size w W → Calls Tryd.prog 37 #[.agg #[.slice AO tr.length cO, .int .i64 st, .int .i32 code, .int .i64 steps]] W fun e w' => e = .returned (.string ⟨(endT ⟨tr, st, code, steps⟩).toArray⟩) ∧ Below W.heap.size W w') := Lib.hid fun W hW => ending_any _ ⟨tr, st, code, steps⟩ hc ⟨_, _, _, rfl⟩ W (ht.next hW)
  have HC := Lib.hid hc
  have HH := Lib.hid (And.intro h (And.intro hok (And.intro ht hl)))
  obtain ⟨n, hn⟩ : ∃ n, n = tr.length := ⟨_, rfl⟩
  have HN := Lib.hid hn
  rw [← hn] at HE mlen ⊢
  clear h hok ht hl hn hc
  have hA1 := cell_alloc_if
  have hA2 := frozen_alloc_if
  have hA3 := cell_set_if
  go_enter Tryd.func19, Tryd.ntmps19
  go_wp2
  go_loopw [12] (fun i wr => ∃ k : Nat, i = .int .i64 k ∧ k ≤ n ∧ Below (w.heap.size + 1) (w.alloc (.cells #[.slice AO n cO, .int .i64 st, .int .i32 code, .int .i64 steps] 40)) wr ∧ w.heap.size + 2 ≤ wr.heap.size ∧ Hid (Bld (w.heap.size + 1) (evsT (tr.take k)) wr)) (fun i _ => n - (intOf i).toNat)
  case atStart =>
    refine ⟨0, rfl, by omega, ?_, by simp, ?_⟩
    · exact (Below.refl _ _).alloc (by simp) _
    · have h := Bld.fresh (w.alloc (.cells #[.slice AO n cO, .int .i64 st, .int .i32 code, .int .i64 steps] 40))
      simp only [World.size_alloc] at h
      exact Lib.hid h
  case round =>
    obtain ⟨k, rfl, hk, hB, hzr, HB⟩ := hrel
    obtain ⟨wo, hwo⟩ : ∃ wo, wo = wr := ⟨_, rfl⟩
    subst hwo
    by_cases hlt : k < n
    · obtain ⟨b1, o1, c1, e0, _, _, hb1, hc1⟩ := HH.out.1.1.some_ (by rw [← HN.out]; omega)
      injection e0 with e0 e1 e2
      subst e0
      clear e1 e2
      obtain ⟨x, hx⟩ : ∃ x, tr[k]? = some x := ⟨_, List.getElem?_eq_getElem (by rw [← HN.out]; exact hlt)⟩
      obtain ⟨p1, p2, p3, p4, p5⟩ := RdL.evAt hc1 hx
      have hBw : Below w.heap.size w wo := Below.trans (by (repeat' (first | (with_reducible exact Below.refl _ _) | (with_reducible assumption) | (with_reducible refine Below.setCell ?_ ?_ _) | (with_reducible refine Below.alloc ?_ ?_ _) | (with_reducible refine Below.drew ?_) | (with_reducible refine below_drewN ?_ _) | (with_reducible refine below_next ?_ (by with_reducible assumption)) | omega | (dsimp only; omega) | (simp only [World.size_alloc, World.size_setCell, World.size_drew, World.heap_drewN]; omega)))) (hB.mono (Nat.le_succ _))
      have hwz := hBw.size
      have p1' := (hBw.cell (p := ⟨b1, _, none⟩) hb1).trans p1
      have p2' := (hBw.cell (p := ⟨b1, _, none⟩) hb1).trans p2
      have p3' := (hBw.cell (p := ⟨b1, _, none⟩) hb1).trans p3
      have p4' := (hBw.cell (p := ⟨b1, _, none⟩) hb1).trans p4
      have p5' := (hBw.cell (p := ⟨b1, _, none⟩) hb1).trans p5
      have HA0 := HH.out.1.2 x (List.mem_of_getElem? hx)
      have hOk := HH.out.2.1 x (List.mem_of_getElem? hx)
      have hT := HH.out.2.2.1
      have hC := evsC_at hx
      have hC2 := HH.out.2.2.2
      have hLn := evsT_len (tr.take k)
      have HT0 : Hid (evsT (tr.take (k + 1)) = evsT (tr.take k) ++ evT x) := Lib.hid (by rw [List.take_add_one, hx]; exact evsT_snoc _ _)
      obtain ⟨D, hD⟩ : ∃ D, D = evsT (tr.take k) := ⟨_, rfl⟩
      rw [← hD] at HB HT0 hLn
      clear p1 p2 p3 p4 p5 hx hc1
      obtain ⟨nm, xsv, xargs, ⟨rk, rb, rl⟩⟩ := x
      dsimp only at *
      obtain ⟨A1, c2, e3⟩ := HA0.form
      subst e3
      have ml := HA0.len
      unfold maxLen at ml
      obtain ⟨y, hy⟩ : ∃ y, y = ByteArray.mk (commas (xargs.map valT)).toArray := ⟨_, rfl⟩
      have hyl := args_len xargs
      unfold evC at hC
      dsimp only at hC
      have hsy : y.size ≤ 24 * xargs.length := by rw [hy, ba_size]; exact hyl
      have hsn : nm.size ≤ 1099511627776 := by omega
      have hsD : D.length + nm.size + y.size + 40 ≤ 1099511627776 := by omega
      have hsa : 24 * xargs.length ≤ 1099511627776 := by omega
      have HY := Lib.hid hy
      have HAR := Lib.hid (And.intro HA0 (And.intro hOk.args hT))
      have HRS := Lib.hid hOk.res
      obtain ⟨m, hm⟩ : ∃ m, m = xargs.length := ⟨_, rfl⟩
      have HM := Lib.hid hm
      rw [← hm] at hsa ml p2' hsy
      clear HA0 hOk hT hC hC2 hLn hD hyl hy hm
      go_wp2
      go_loopw [6, 19] (fun s i wr => ∃ (xs : List ByteArray) (A6 : Option Addr) (c6 : Nat), xs.length ≤ m ∧ i = .int .i64 xs.length ∧ s = .slice A6 xs.length c6 ∧ Below (wo.heap.size + 1) (wo.alloc (.cells #[.string nm, .slice A1 m c2, .int .i64 rk, .int .u64 rb, .int .i64 rl] 32)) wr ∧ Hid (OwnL 9 strC 1 (wo.heap.size + 1) wr (.slice A6 xs.length c6) xs) ∧ Hid (xs = ((xargs.take xs.length).map valT).map fun l => ⟨l.toArray⟩)) (fun _ i _ => m - (intOf i).toNat)
      case atStart => exact ⟨[], none, 0, by simp, rfl, rfl, Below.refl _ _, Lib.hid (OwnL.nil _ _ _ _ _), Lib.hid rfl⟩
      case round =>
        obtain ⟨xs, A6, c6, hxk, rfl, rfl, hXb, HOW, HXS⟩ := hrel
        have hz8 := hXb.size
        simp only [World.size_alloc] at hz8
        have hwr : Below w.heap.size w wr := Below.trans hBw (Below.trans (show Below w.heap.size wo _ by (repeat' (first | (with_reducible exact Below.refl _ _) | (with_reducible assumption) | (with_reducible refine Below.setCell ?_ ?_ _) | (with_reducible refine Below.alloc ?_ ?_ _) | (with_reducible refine Below.drew ?_) | (with_reducible refine below_drewN ?_ _) | (with_reducible refine below_next ?_ (by with_reducible assumption)) | omega | (dsimp only; omega) | (simp only [World.size_alloc, World.size_setCell, World.size_drew, World.heap_drewN]; omega)))) (hXb.mono (by omega)))
        have hwrz := hwr.size
        by_cases hlt2 : xs.length < m
        · obtain ⟨b3, o3, c3, e4, _, _, hb3, hc3⟩ := HAR.out.1.some_ (by rw [← HM.out]; omega)
          injection e4 with e4 e5 e6
          subst e4
          clear e5 e6
          obtain ⟨v, hv⟩ : ∃ v, xargs[xs.length]? = some v := ⟨_, List.getElem?_eq_getElem (by rw [← HM.out]; exact hlt2)⟩
          obtain ⟨q1, q2, q3⟩ := RdL.vAt hc3 hv
          have q1' := (hwr.cell (p := ⟨b3, _, none⟩) hb3).trans q1
          have q2' := (hwr.cell (p := ⟨b3, _, none⟩) hb3).trans q2
          have q3' := (hwr.cell (p := ⟨b3, _, none⟩) hb3).trans q3
          have hvo := HAR.out.2.1 v (List.mem_of_getElem? hv)
          obtain ⟨z, hz⟩ : ∃ z, z = ByteArray.mk (valT v).toArray := ⟨_, rfl⟩
          have HW : Hid (∀ W, Below wr.heap.size wr W → Calls Tryd.prog 33 #[.agg #[.int .i64 v.k, .int .u64 v.b, .int .i64 v.l]] W fun e w' => e = .returned (.string z) ∧ Below W.heap.size W w') := Lib.hid fun W hW => by
            rw [hz]; exact written_any v hvo W ((HAR.out.2.2.next hwr).next hW)
          have HXS2 : Hid (xs ++ [z] = ((xargs.take (xs.length + 1)).map valT).map fun l => ⟨l.toArray⟩) := Lib.hid (by
            rw [List.take_add_one, hv, List.map_append, List.map_append, ← HXS.out, hz]; rfl)
          obtain ⟨vk, vb, vl⟩ := v
          dsimp only at *
          clear q1 q2 q3 hv hvo hc3 hz HXS p1' p2' p3' p4' p5'
          go_wp2_with (first
            | (go_at_call 33; (with_reducible refine (HW.out _ (by (repeat' (first | (with_reducible exact Below.refl _ _) | (with_reducible assumption) | (with_reducible refine Below.setCell ?_ ?_ _) | (with_reducible refine Below.alloc ?_ ?_ _) | (with_reducible refine Below.drew ?_) | (with_reducible refine below_drewN ?_ _) | (with_reducible refine below_next ?_ (by with_reducible assumption)) | omega | (dsimp only; omega) | (simp only [World.size_alloc, World.size_setCell, World.size_drew, World.heap_drewN]; omega))))).mono ?_); rintro e w4 ⟨rfl, hb4⟩; obtain ⟨hc4, hf4, hz4⟩ := cif hb4; (try simp only [World.size_alloc, World.size_setCell, World.size_drew, World.heap_drewN] at hz4))
            | (at_builtin; refine wpList_app (e := 9) (f := strC) rfl _ _ 60 rfl (wo.heap.size + 1) i0 _ 16 Tryd.underlying60 hi0 hz0 hz1 hz2 rfl (by decide) strC_len (.slice A6 xs.length c6) xs rfl ?c0 _ 1 _ [z] rfl ?c1 ?c2 (by decide) ?c3 ?c4 ?_))
          case c0 => exact HOW.out.next (by (repeat' (first | (with_reducible exact Below.refl _ _) | (with_reducible assumption) | (with_reducible refine Below.setCell ?_ ?_ _) | (with_reducible refine Below.alloc ?_ ?_ _) | (with_reducible refine Below.drew ?_) | (with_reducible refine below_drewN ?_ _) | (with_reducible refine below_next ?_ (by with_reducible assumption)) | omega | (dsimp only; omega) | (simp only [World.size_alloc, World.size_setCell, World.size_drew, World.heap_drewN]; omega))))
          case c1 =>
            refine ⟨_, 1, rfl, by simp, by decide, fun _ => ⟨_, 0, rfl, by simp, fun k a ha j v hv => ?_⟩⟩
            match k, ha with
            | 0, ha =>
              simp at ha; subst ha
              match j, hv with
              | 0, hv => simp [strC] at hv; subst hv; simp [cell_alloc_if]
          case c2 => intro a ha u hu; simp [strC] at ha hu; subst hu; rfl
          case c3 => simp; omega
          case c4 => simp; omega
          intro A9 c9 w6 hown hg hBn hor
          have HOWN := Lib.hid hown
          have hlen : ([z] : List ByteArray).length = 1 := rfl
          have hBB : Below (wo.heap.size + 1) wr w6 := Below.trans (Below.mono (show Below wr.heap.size wr _ from by (repeat' (first | (with_reducible exact Below.refl _ _) | (with_reducible assumption) | (with_reducible refine Below.setCell ?_ ?_ _) | (with_reducible refine Below.alloc ?_ ?_ _) | (with_reducible refine Below.drew ?_) | (with_reducible refine below_drewN ?_ _) | (with_reducible refine below_next ?_ (by with_reducible assumption)) | omega | (dsimp only; omega) | (simp only [World.size_alloc, World.size_setCell, World.size_drew, World.heap_drewN]; omega)))) (by omega)) hBn
          clear hown hg hBn hor hc4 hf4
          go_wp2
          go_roundw
          case rel => exact ⟨xs ++ [z], A9, c9, by simp; omega, by simp, by simp, hXb.trans hBB, by simpa using HOWN, by simpa using HXS2⟩
          case measure => simp [intOf]; omega
        · have hkn : xs.length = m := by omega
          have hxs : Hid (xs = (xargs.map valT).map fun l => ⟨l.toArray⟩) := Lib.hid (by have h := HXS.out; rw [hkn, HM.out, List.take_length] at h; exact h)
          clear HXS
          have HJ : Hid (∀ W, Below wr.heap.size wr W → Calls Tryd.prog 35 #[.slice A6 xs.length c6, .string ⟨#[44, 32]⟩] W fun e w' => e = .returned (.string y) ∧ Below W.heap.size W w') := Lib.hid fun W hW => by
            rw [HY.out]
            have hr := (HOW.out.rdl strC_len).next hW
            rw [show RdL strC 1 W (.slice A6 xs.length c6) xs = RdL strC 1 W (.slice A6 xs.length c6) ((xargs.map valT).map fun l => ⟨l.toArray⟩) by rw [← hxs.out]] at hr
            refine join_any _ _ W hr (by have := args_len xargs; rw [← HM.out] at this; omega) (by rw [List.length_map, ← HM.out]; omega)
          clear hkn
          have hev : wr.heap[wo.heap.size]? = some (.cells #[.string nm, .slice A1 m c2, .int .i64 rk, .int .u64 rb, .int .i64 rl] 32 (0, 0)) := (hXb.block wo.heap.size (Nat.lt_succ_self _)).trans (heap_alloc_new _ _)
          have HEV := Lib.hid hev
          have g0 : wr.cell? ⟨wo.heap.size, 0, none⟩ = some (.string nm) := by rw [Lib.cell_of_heap hev]; rfl
          have hwo : Below wo.heap.size wo wr := Below.trans (show Below wo.heap.size wo _ by (repeat' (first | (with_reducible exact Below.refl _ _) | (with_reducible assumption) | (with_reducible refine Below.setCell ?_ ?_ _) | (with_reducible refine Below.alloc ?_ ?_ _) | (with_reducible refine Below.drew ?_) | (with_reducible refine below_drewN ?_ _) | (with_reducible refine below_next ?_ (by with_reducible assumption)) | omega | (dsimp only; omega) | (simp only [World.size_alloc, World.size_setCell, World.size_drew, World.heap_drewN]; omega)))) (hXb.mono (by omega))
          have HBj : Hid (Bld (w.heap.size + 1) D wr) := Lib.hid (HB.out.next hwo)
          have HTw := Lib.hid (HAR.out.2.2.next hwr)
          have HS := wstr_at (nm ++ ⟨#[40]⟩ ++ y ++ ⟨#[41]⟩) HBj.out (by rw [size_parts]; omega) (by omega)
          clear hev HB p1' p2' p3' p4' p5' hXb
          go_wp2
          go_region_with (first
            | (go_at_call 35; (with_reducible refine (HJ.out _ (by (repeat' (first | (with_reducible exact Below.refl _ _) | (with_reducible assumption) | (with_reducible refine Below.setCell ?_ ?_ _) | (with_reducible refine Below.alloc ?_ ?_ _) | (with_reducible refine Below.drew ?_) | (with_reducible refine below_drewN ?_ _) | (with_reducible refine below_next ?_ (by with_reducible assumption)) | omega | (dsimp only; omega) | (simp only [World.size_alloc, World.size_setCell, World.size_drew, World.heap_drewN]; omega))))).mono ?_); rintro e w5 ⟨rfl, hb5⟩; obtain ⟨hc5, hf5, hz5⟩ := cif hb5; (try simp only [World.size_alloc, World.size_setCell, World.size_drew, World.heap_drewN] at hz5))
            | (go_at_call 34; (with_reducible refine (HS.out _ (by (repeat' (first | (with_reducible exact Below.refl _ _) | (with_reducible assumption) | (with_reducible refine Below.setCell ?_ ?_ _) | (with_reducible refine Below.alloc ?_ ?_ _) | (with_reducible refine Below.drew ?_) | (with_reducible refine below_drewN ?_ _) | (with_reducible refine below_next ?_ (by with_reducible assumption)) | omega | (dsimp only; omega) | (simp only [World.size_alloc, World.size_setCell, World.size_drew, World.heap_drewN]; omega))))).mono ?_); rintro e w6 ⟨rfl, HB6, hb6, HK6, hz6⟩))
          all_goals (
            have hev5 := (hb5.block wo.heap.size (by first | exact Nat.lt_of_succ_le hz8 | (simp; omega))).trans HEV.out
            have hev6 := HK6 wo.heap.size _ _ (by omega) (by decide) hev5
            have HEV6 := Lib.hid hev6
            have y2 : w6.cell? ⟨wo.heap.size, 2, none⟩ = some (.int .i64 rk) := by rw [Lib.cell_of_heap hev6]; rfl
            have y3 : w6.cell? ⟨wo.heap.size, 3, none⟩ = some (.int .u64 rb) := by rw [Lib.cell_of_heap hev6]; rfl
            have y4 : w6.cell? ⟨wo.heap.size, 4, none⟩ = some (.int .i64 rl) := by rw [Lib.cell_of_heap hev6]; rfl
            have hw56 : Below (w.heap.size + 1) wr w6 := Below.trans (Below.mono (show Below wr.heap.size wr w5 by (repeat' (first | (with_reducible exact Below.refl _ _) | (with_reducible assumption) | (with_reducible refine Below.setCell ?_ ?_ _) | (with_reducible refine Below.alloc ?_ ?_ _) | (with_reducible refine Below.drew ?_) | (with_reducible refine below_drewN ?_ _) | (with_reducible refine below_next ?_ (by with_reducible assumption)) | omega | (dsimp only; omega) | (simp only [World.size_alloc, World.size_setCell, World.size_drew, World.heap_drewN]; omega)))) (by omega)) hb6
            have hwo6 : Below (w.heap.size + 1) wo w6 := Below.trans (hwo.mono (by omega)) hw56
            have hw6 : Below w.heap.size w w6 := Below.trans hBw (hwo6.mono (by omega))
            have HT6 := Lib.hid (HAR.out.2.2.next hw6)
            have hD1 : (D ++ (nm ++ ⟨#[40]⟩ ++ y ++ ⟨#[41]⟩).data.toList).length = D.length + (nm.size + 1 + y.size + 1) := by rw [List.length_append, size_list, size_parts]
            have hw6z : wo.heap.size + 1 ≤ w6.heap.size := by omega
            clear hev5 hev6 hc5 hf5 hb5 hb6 HK6 hw56 g0
            by_cases hr : rk = 0
            · subst hr
              have HS2 := wstr_at ⟨#[10]⟩ HB6 (by rw [hD1]; have h1 : (⟨#[10]⟩ : ByteArray).size = 1 := rfl; omega) (by omega)
              clear HB6 hD1
              go_wp2_with (go_at_call 34; (with_reducible refine (HS2.out _ (by (repeat' (first | (with_reducible exact Below.refl _ _) | (with_reducible assumption) | (with_reducible refine Below.setCell ?_ ?_ _) | (with_reducible refine Below.alloc ?_ ?_ _) | (with_reducible refine Below.drew ?_) | (with_reducible refine below_drewN ?_ _) | (with_reducible refine below_next ?_ (by with_reducible assumption)) | omega | (dsimp only; omega) | (simp only [World.size_alloc, World.size_setCell, World.size_drew, World.heap_drewN]; omega))))).mono ?_); rintro e w7 ⟨rfl, HB7, hb7, HK7, hz7⟩)
              have HBd := Lib.hid HB7
              clear HB7
              go_wp2
              go_roundw
              case rel => exact ⟨k + 1, by go_num, by omega, hB.trans (hwo6.trans hb7), by omega, Lib.hid (by rw [HT0.out, ← ev_none HY.out rfl]; exact HBd.out)⟩
              case measure => simp [intOf]; omega
            · have hne : (rk != 0) = true := by simpa using hr
              obtain ⟨z, hz⟩ : ∃ z, z = ByteArray.mk (valT ⟨rk, rb, rl⟩).toArray := ⟨_, rfl⟩
              have hzl : z.size ≤ 22 := by rw [hz, ba_size]; exact valT_len _
              have HW : Hid (∀ W, Below w6.heap.size w6 W → Calls Tryd.prog 33 #[.agg #[.int .i64 rk, .int .u64 rb, .int .i64 rl]] W fun e w' => e = .returned (.string z) ∧ Below W.heap.size W w') := Lib.hid fun W hW => by
                rw [hz]; exact written_any ⟨rk, rb, rl⟩ HRS.out W (HT6.out.next hW)
              have HZ := Lib.hid hz
              have hsz3 : (⟨#[32, 61, 32]⟩ ++ z : ByteArray).size = 3 + z.size := by rw [ByteArray.size_append]; rfl
              have HS2 := wstr_at (⟨#[32, 61, 32]⟩ ++ z) HB6 (by rw [hD1, hsz3]; omega) (by omega)
              have hD2 : (D ++ (nm ++ ⟨#[40]⟩ ++ y ++ ⟨#[41]⟩).data.toList ++ (⟨#[32, 61, 32]⟩ ++ z : ByteArray).data.toList).length = D.length + (nm.size + 1 + y.size + 1) + (3 + z.size) := by rw [List.length_append, hD1, size_list, hsz3]
              clear HB6 hz hD1 hsz3
              go_wp2_with (first
                | (go_at_call 33; (with_reducible refine (HW.out _ (by (repeat' (first | (with_reducible exact Below.refl _ _) | (with_reducible assumption) | (with_reducible refine Below.setCell ?_ ?_ _) | (with_reducible refine Below.alloc ?_ ?_ _) | (with_reducible refine Below.drew ?_) | (with_reducible refine below_drewN ?_ _) | (with_reducible refine below_next ?_ (by with_reducible assumption)) | omega | (dsimp only; omega) | (simp only [World.size_alloc, World.size_setCell, World.size_drew, World.heap_drewN]; omega))))).mono ?_); rintro e w7 ⟨rfl, hb7⟩; obtain ⟨hc7, hf7, hz7⟩ := cif hb7; (try simp only [World.size_alloc, World.size_setCell, World.size_drew, World.heap_drewN] at hz7))
                | (go_at_call 34; (with_reducible refine (HS2.out _ (by (repeat' (first | (with_reducible exact Below.refl _ _) | (with_reducible assumption) | (with_reducible refine Below.setCell ?_ ?_ _) | (with_reducible refine Below.alloc ?_ ?_ _) | (with_reducible refine Below.drew ?_) | (with_reducible refine below_drewN ?_ _) | (with_reducible refine below_next ?_ (by with_reducible assumption)) | omega | (dsimp only; omega) | (simp only [World.size_alloc, World.size_setCell, World.size_drew, World.heap_drewN]; omega))))).mono ?_); rintro e w8 ⟨rfl, HB8, hb8, HK8, hz8'⟩)
                | (go_at_call 34; (with_reducible refine (wstr_any (w.heap.size + 1) _ ⟨#[10]⟩ _ HB8 (by have h1 : (⟨#[10]⟩ : ByteArray).size = 1 := rfl; rw [hD2, h1]; omega) (by omega)).mono ?_); rintro e w9 ⟨rfl, HB9, hb9, HK9, hz9⟩))
              have HBd := Lib.hid HB9
              have hw69 : Below (w.heap.size + 1) w6 w9 := Below.trans (Below.trans (Below.mono (show Below w6.heap.size w6 w7 by (repeat' (first | (with_reducible exact Below.refl _ _) | (with_reducible assumption) | (with_reducible refine Below.setCell ?_ ?_ _) | (with_reducible refine Below.alloc ?_ ?_ _) | (with_reducible refine Below.drew ?_) | (with_reducible refine below_drewN ?_ _) | (with_reducible refine below_next ?_ (by with_reducible assumption)) | omega | (dsimp only; omega) | (simp only [World.size_alloc, World.size_setCell, World.size_drew, World.heap_drewN]; omega)))) (by omega)) hb8) hb9
              clear HB9 HB8
              go_wp2
              go_roundw
              case rel => exact ⟨k + 1, by go_num, by omega, hB.trans (hwo6.trans hw69), by omega, Lib.hid (by rw [HT0.out, ← ev_some HY.out HZ.out hr]; exact HBd.out)⟩
              case measure => simp [intOf]; omega)
    · obtain rfl : k = n := by omega
      have hBw : Below w.heap.size w wo := Below.trans (by (repeat' (first | (with_reducible exact Below.refl _ _) | (with_reducible assumption) | (with_reducible refine Below.setCell ?_ ?_ _) | (with_reducible refine Below.alloc ?_ ?_ _) | (with_reducible refine Below.drew ?_) | (with_reducible refine below_drewN ?_ _) | (with_reducible refine below_next ?_ (by with_reducible assumption)) | omega | (dsimp only; omega) | (simp only [World.size_alloc, World.size_setCell, World.size_drew, World.heap_drewN]; omega)))) (hB.mono (Nat.le_succ _))
      have hwz := hBw.size
      have g0 := hB.cell (p := ⟨w.heap.size, 0, none⟩) (Nat.lt_succ_self _)
      have g1 := hB.cell (p := ⟨w.heap.size, 1, none⟩) (Nat.lt_succ_self _)
      have g2 := hB.cell (p := ⟨w.heap.size, 2, none⟩) (Nat.lt_succ_self _)
      have g3 := hB.cell (p := ⟨w.heap.size, 3, none⟩) (Nat.lt_succ_self _)
      simp [cell_alloc_if] at g0 g1 g2 g3
      have hHB := HB.out
      rw [HN.out, List.take_length] at hHB
      obtain ⟨D, hD⟩ : ∃ D, D = evsT tr := ⟨_, rfl⟩
      have hDl : D.length ≤ 1099511627776 := by rw [hD]; exact Nat.le_trans (evsT_len tr) HH.out.2.2.2
      rw [← hD] at hHB
      obtain ⟨x, hx⟩ : ∃ x, x = ByteArray.mk (endT ⟨tr, st, code, steps⟩).toArray := ⟨_, rfl⟩
      have hxl : x.size ≤ 28 := by rw [hx, ba_size]; exact endT_len _ (by obtain ⟨h1, h2⟩ := HC.out; exact ⟨by dsimp only; omega, by dsimp only; omega⟩)
      obtain ⟨d, hd⟩ : ∃ d, d = ByteArray.mk D.toArray := ⟨_, rfl⟩
      have hdl : d.size ≤ 1099511627776 := by rw [hd, ba_size]; exact hDl
      have HX : Hid (d ++ x ++ ⟨#[10]⟩ = ⟨(outT ⟨tr, st, code, steps⟩).toArray⟩) := Lib.hid (by
        rw [hd, hx, ba_app, hD]
        unfold outT
        rw [← List.append_assoc, ← ba_app]; rfl)
      have HS : Hid (∀ W, Below wo.heap.size wo W → Calls Tryd.prog 36 #[.pointer (some ⟨w.heap.size + 1, 0, none⟩)] W fun e w' => e = .returned (.string d) ∧ Below (w.heap.size + 1) W w') := Lib.hid fun W hW => by
        rw [hd]; exact bstr_any (w.heap.size + 1) D W (hHB.next hW) (by have := hW.size; omega)
      rw [← hx] at HE
      clear hHB HB hd hx hDl hD hB
      go_wp2
      go_region_with (first
        | (go_at_call 36; (with_reducible refine (HS.out _ (by (repeat' (first | (with_reducible exact Below.refl _ _) | (with_reducible assumption) | (with_reducible refine Below.setCell ?_ ?_ _) | (with_reducible refine Below.alloc ?_ ?_ _) | (with_reducible refine Below.drew ?_) | (with_reducible refine below_drewN ?_ _) | (with_reducible refine below_next ?_ (by with_reducible assumption)) | omega | (dsimp only; omega) | (simp only [World.size_alloc, World.size_setCell, World.size_drew, World.heap_drewN]; omega))))).mono ?_); rintro e w8 ⟨rfl, hb8⟩; have hq8 := fun o => hb8.cell (p := ⟨w.heap.size, o, none⟩) (Nat.lt_succ_self _); (try dsimp only at hq8); have hz8 := hb8.size; (try simp only [World.size_alloc, World.size_setCell, World.size_drew, World.heap_drewN] at hz8); have hb8' : Below w.heap.size w w8 := Below.trans (by (repeat' (first | (with_reducible exact Below.refl _ _) | (with_reducible assumption) | (with_reducible refine Below.setCell ?_ ?_ _) | (with_reducible refine Below.alloc ?_ ?_ _) | (with_reducible refine Below.drew ?_) | (with_reducible refine below_drewN ?_ _) | (with_reducible refine below_next ?_ (by with_reducible assumption)) | omega | (dsimp only; omega) | (simp only [World.size_alloc, World.size_setCell, World.size_drew, World.heap_drewN]; omega)))) (hb8.mono (Nat.le_succ _)); clear hb8)
        | (go_at_call 37; (with_reducible refine (HE.out _ (by (repeat' (first | (with_reducible exact Below.refl _ _) | (with_reducible assumption) | (with_reducible refine Below.setCell ?_ ?_ _) | (with_reducible refine Below.alloc ?_ ?_ _) | (with_reducible refine Below.drew ?_) | (with_reducible refine below_drewN ?_ _) | (with_reducible refine below_next ?_ (by with_reducible assumption)) | omega | (dsimp only; omega) | (simp only [World.size_alloc, World.size_setCell, World.size_drew, World.heap_drewN]; omega))))).mono ?_); rintro e w9 ⟨rfl, hb9⟩; obtain ⟨hc9, hf9, hz9⟩ := cif hb9; (try simp only [World.size_alloc, World.size_setCell, World.size_drew, World.heap_drewN] at hz9)))
      all_goals (go_wp2; go_returns; exact ⟨ret_str HX.out, by (repeat' (first | (with_reducible exact Below.refl _ _) | (with_reducible assumption) | (with_reducible refine Below.setCell ?_ ?_ _) | (with_reducible refine Below.alloc ?_ ?_ _) | (with_reducible refine Below.drew ?_) | (with_reducible refine below_drewN ?_ _) | (with_reducible refine below_next ?_ (by with_reducible assumption)) | omega | (dsimp only; omega) | (simp only [World.size_alloc, World.size_setCell, World.size_drew, World.heap_drewN]; omega)))⟩)
end Go.Proofs.YteepjngkbjbheaaDoor
