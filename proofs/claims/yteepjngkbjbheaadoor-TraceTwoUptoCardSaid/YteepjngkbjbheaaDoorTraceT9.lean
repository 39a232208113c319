/-
  Text, the reference's.
-/
import Derived.Test.YteepjngkbjbheaaDoorTraceT8
import Derived.Test.YteepjngkbjbheaaDoorTraceW3
namespace Go.Proofs.YteepjngkbjbheaaDoor
open Go.RowKit
set_option linter.unusedVariables false
set_option linter.unusedSimpArgs false

theorem commas_snoc : ∀ (l : List (List UInt8)) (a : List UInt8), commas (l ++ [a]) = if l = [] then a else commas l ++ ([44, 32] ++ a)
  | [], a => rfl
  | [b], a => rfl
  | b :: c :: l, a => by
    have h := commas_snoc (c :: l) a
    rw [if_neg (by simp)] at h
    rw [if_neg (by simp)]
    show b ++ ([44, 32] ++ commas (c :: l ++ [a])) = _
    rw [h]
    simp [commas]
theorem OwnB.kept {base : Nat} {w w' : World} {v : Value} {D : List UInt8} {k : Nat} {c : Array Value} {T : TypeId} (h : OwnB base w v D) (hT : T ≠ 5) (hc : w.heap[k]? = some (.cells c T (0, 0))) (hg : w.grownBy w' v.ownBlock) : w'.heap[k]? = some (.cells c T (0, 0)) := by
  have hlt := (Array.getElem?_eq_some_iff.1 hc).1
  rw [hg.block k hlt fun hown => ?_]
  · exact hc
  obtain ⟨A0, c0, rfl, g1, g2⟩ := h
  rcases g2 with ⟨g5, _⟩ | ⟨g, cap, cur, g5, _, g7, _⟩
  · rw [g5] at hown; simp [Value.ownBlock] at hown
  · rw [g5] at hown
    simp [Value.ownBlock] at hown
    subst hown
    rw [g7] at hc
    injection hc with hc
    injection hc with hc1 hc2 hc3
    exact hT hc2.symm
set_option maxRecDepth 100000 in
set_option maxHeartbeats 8000000 in
theorem rtext_any (sv : Value) (o : Out) (w : World) (h : RdEvs w sv o.tr) (hok : ∀ e ∈ o.tr, EvOk e) (hc : I32 o.code) (hl : evsC o.tr ≤ 1099511627776) :
    Calls Tryd.prog 20 #[.agg #[sv, .int .i64 o.st, .int .i32 o.code, .int .i64 o.steps]] w fun e w' => e = .returned (.string ⟨(outT o).toArray⟩) ∧ Below w.heap.size w w' := by
  have mlen := h.1.len
  unfold maxLen at mlen
  obtain ⟨AO, cO, rfl⟩ := h.1.form
  obtain ⟨tr, st, code, steps⟩ := o
  dsimp only at *
  have HC := Lib.hid hc
  have HH := Lib.hid (And.intro h (And.intro hok hl))
  obtain ⟨n, hn⟩ : ∃ n, n = tr.length := ⟨_, rfl⟩
  have HN := Lib.hid hn
  rw [← hn] at mlen ⊢
  clear h hok hl hn hc
  have hA1 := cell_alloc_if
  have hA2 := frozen_alloc_if
  have hA3 := cell_set_if
  go_enter Tryd.func20, Tryd.ntmps20
  go_wp2
  go_loopw [3, 4] (fun s i wr => ∃ (k : Nat) (D : List UInt8), i = .int .i64 k ∧ k ≤ n ∧ Below (w.heap.size + 1) (w.alloc (.cells #[.slice AO n cO, .int .i64 st, .int .i32 code, .int .i64 steps] 40)) wr ∧ Hid (OwnB (w.heap.size + 1) wr s D) ∧ Hid (D = evsT (tr.take k))) (fun _ i _ => n - (intOf i).toNat)
  case atStart => exact ⟨0, [], rfl, by omega, Below.refl _ _, Lib.hid (OwnL.nil _ _ _ _ _), Lib.hid rfl⟩
  case round =>
    obtain ⟨k, D, rfl, hk, hB, HO, HD⟩ := hrel
    obtain ⟨wo, hwo⟩ : ∃ wo, wo = wr := ⟨_, rfl⟩
    subst hwo
    have hBw : Below w.heap.size w wo := Below.trans (by (repeat' (first | (with_reducible exact Below.refl _ _) | (with_reducible assumption) | (with_reducible refine Below.setCell ?_ ?_ _) | (with_reducible refine Below.alloc ?_ ?_ _) | (with_reducible refine Below.drew ?_) | (with_reducible refine below_drewN ?_ _) | (with_reducible refine below_next ?_ (by with_reducible assumption)) | omega | (dsimp only; omega) | (simp only [World.size_alloc, World.size_setCell, World.size_drew, World.heap_drewN]; omega)))) (hB.mono (Nat.le_succ _))
    have hwz := hB.size
    simp only [World.size_alloc] at hwz
    have g0 := hB.cell (p := ⟨w.heap.size, 0, none⟩) (Nat.lt_succ_self _)
    have g1 := hB.cell (p := ⟨w.heap.size, 1, none⟩) (Nat.lt_succ_self _)
    have g2 := hB.cell (p := ⟨w.heap.size, 2, none⟩) (Nat.lt_succ_self _)
    simp [cell_alloc_if] at g0 g1 g2
    by_cases hlt : k < n
    · clear g1 g2
      obtain ⟨b1, o1, c1, e0, _, _, hb1, hc1⟩ := HH.out.1.1.some_ (by rw [← HN.out]; omega)
      injection e0 with e0 e1 e2
      subst e0
      clear e1 e2
      obtain ⟨x, hx⟩ : ∃ x, tr[k]? = some x := ⟨_, List.getElem?_eq_getElem (by rw [← HN.out]; exact hlt)⟩
      obtain ⟨p1, p2, p3, p4, p5⟩ := RdL.evAt hc1 hx
      have p1' := (hBw.cell (p := ⟨b1, _, none⟩) hb1).trans p1
      have p2' := (hBw.cell (p := ⟨b1, _, none⟩) hb1).trans p2
      have p3' := (hBw.cell (p := ⟨b1, _, none⟩) hb1).trans p3
      have p4' := (hBw.cell (p := ⟨b1, _, none⟩) hb1).trans p4
      have p5' := (hBw.cell (p := ⟨b1, _, none⟩) hb1).trans p5
      have HA0 := HH.out.1.2 x (List.mem_of_getElem? hx)
      have hOk := HH.out.2.1 x (List.mem_of_getElem? hx)
      have hC := evsC_at hx
      have hC2 := HH.out.2.2
      have hLn := evsT_len (tr.take k)
      have HT0 : Hid (evsT (tr.take (k + 1)) = D ++ evT x) := Lib.hid (by rw [HD.out, List.take_add_one, hx]; exact evsT_snoc _ _)
      rw [← HD.out] at hLn
      clear p1 p2 p3 p4 p5 hx hc1 HD
      obtain ⟨nm, xsv, xargs, ⟨rk, rb, rl⟩⟩ := x
      dsimp only at *
      obtain ⟨A1, c2, e3⟩ := HA0.form
      subst e3
      have ml := HA0.len
      unfold maxLen at ml
      unfold evC at hC
      dsimp only at hC
      have hsn : nm.size ≤ 1099511627776 := by omega
      have hsD : D.length + nm.size + 24 * xargs.length + 40 ≤ 1099511627776 := by omega
      have HAR := Lib.hid (And.intro HA0 hOk.args)
      have HRS := Lib.hid hOk.res
      obtain ⟨m, hm⟩ : ∃ m, m = xargs.length := ⟨_, rfl⟩
      have HM := Lib.hid hm
      rw [← hm] at hsD ml p2'
      clear HA0 hOk hC hC2 hLn hm
      go_wp2_with (at_builtin; refine wpList_appS rfl _ _ rfl (w.heap.size + 1) _ D rfl ?a0 _ rfl ?a1 ?a2 ?_)
      case a0 => exact HO.out.next (by (repeat' (first | (with_reducible exact Below.refl _ _) | (with_reducible assumption) | (with_reducible refine Below.setCell ?_ ?_ _) | (with_reducible refine Below.alloc ?_ ?_ _) | (with_reducible refine Below.drew ?_) | (with_reducible refine below_drewN ?_ _) | (with_reducible refine below_next ?_ (by with_reducible assumption)) | omega | (dsimp only; omega) | (simp only [World.size_alloc, World.size_setCell, World.size_drew, World.heap_drewN]; omega))))
      case a1 => omega
      case a2 => first | omega | (simp; omega)
      intro v2 w2 hown hg hB2
      have hev2 : w2.heap[wo.heap.size]? = some (.cells #[.string nm, .slice A1 m c2, .int .i64 rk, .int .u64 rb, .int .i64 rl] 32 (0, 0)) := OwnB.kept (HO.out.next (by (repeat' (first | (with_reducible exact Below.refl _ _) | (with_reducible assumption) | (with_reducible refine Below.setCell ?_ ?_ _) | (with_reducible refine Below.alloc ?_ ?_ _) | (with_reducible refine Below.drew ?_) | (with_reducible refine below_drewN ?_ _) | (with_reducible refine below_next ?_ (by with_reducible assumption)) | omega | (dsimp only; omega) | (simp only [World.size_alloc, World.size_setCell, World.size_drew, World.heap_drewN]; omega))))) (by decide) (heap_alloc_new _ _) hg
      have hBo2 : Below (w.heap.size + 1) wo w2 := Below.trans ((Below.refl _ _).alloc (by omega) _) hB2
      have hz2' : wo.heap.size + 1 ≤ w2.heap.size := (Array.getElem?_eq_some_iff.1 hev2).1
      obtain ⟨E, hE⟩ : ∃ E, E = D ++ nm.data.toList := ⟨_, rfl⟩
      have hEl : E.length ≤ D.length + nm.size := by rw [hE, List.length_append, szl]; omega
      rw [← hE] at hown
      have HE := Lib.hid hE
      have HO2 := Lib.hid hown
      have HV2 := Lib.hid hev2
      clear hown hg hB2 hE hev2 HO p1' p2' p3' p4' p5'
      go_wp2_with (at_builtin; refine wpList_appL rfl _ _ rfl (w.heap.size + 1) _ E rfl ?a0 _ _ _ [40] rfl ?a1 ?a2 ?a3 ?_)
      case a0 => exact HO2.out.alloc _
      case a1 => exact RdL.litB [40] 1 rfl (by decide) (heap_alloc_new _ _)
      case a2 => first | omega | (simp; omega)
      case a3 => first | omega | (simp; omega)
      intro v3 w3 hown hg hB3
      have hev3 := OwnB.kept (HO2.out.alloc _) (by decide) ((heap_alloc_old _ _ (Nat.lt_of_succ_le hz2')).trans HV2.out) hg
      have hBo3 : Below (w.heap.size + 1) wo w3 := hBo2.trans (Below.trans ((Below.refl _ _).alloc (by omega) _) hB3)
      have hz3' : wo.heap.size + 1 ≤ w3.heap.size := (Array.getElem?_eq_some_iff.1 hev3).1
      have HO3 := Lib.hid hown
      have HV3 := Lib.hid hev3
      clear hown hg hB3 hev3 HO2 HV2 hBo2 hz2'
      go_wp2
      go_loopw [3, 6] (fun s i wr => ∃ (j : Nat) (F : List UInt8), i = .int .i64 j ∧ j ≤ m ∧ Below (w.heap.size + 1) wo wr ∧ Hid (OwnB (w.heap.size + 1) wr s F) ∧ Hid (F = E ++ [40] ++ commas ((xargs.take j).map valT)) ∧ Hid (wr.heap[wo.heap.size]? = some (.cells #[.string nm, .slice A1 m c2, .int .i64 rk, .int .u64 rb, .int .i64 rl] 32 (0, 0)))) (fun _ i _ => m - (intOf i).toNat)
      case atStart => exact ⟨0, E ++ [40], rfl, by omega, hBo3, HO3, Lib.hid (by simp [commas]), HV3⟩
      case round =>
        obtain ⟨j, F, rfl, hj, hBr, HOr, HF, HVr⟩ := hrel
        have hwr : Below w.heap.size w wr := hBw.trans (hBr.mono (by omega))
        have hrz : wo.heap.size + 1 ≤ wr.heap.size := (Array.getElem?_eq_some_iff.1 HVr.out).1
        have e1 : wr.cell? ⟨wo.heap.size, 1, none⟩ = some (.slice A1 m c2) := by rw [Lib.cell_of_heap HVr.out]; rfl
        have hFl : F.length ≤ D.length + nm.size + 1 + 24 * j := by
          have h1 := args_len (xargs.take j)
          have h2 : (xargs.take j).length ≤ j := by rw [List.length_take]; omega
          rw [HF.out, List.length_append, List.length_append, List.length_singleton]
          omega
        by_cases hlt2 : j < m
        · obtain ⟨b3, o3, c3, e4, _, _, hb3, hc3⟩ := HAR.out.1.some_ (by rw [← HM.out]; omega)
          injection e4 with e4 e5 e6
          subst e4
          clear e5 e6
          obtain ⟨v, hv⟩ : ∃ v, xargs[j]? = some v := ⟨_, List.getElem?_eq_getElem (by rw [← HM.out]; exact hlt2)⟩
          obtain ⟨q1, q2, q3⟩ := RdL.vAt hc3 hv
          have q1' := (hwr.cell (p := ⟨b3, _, none⟩) hb3).trans q1
          have q2' := (hwr.cell (p := ⟨b3, _, none⟩) hb3).trans q2
          have q3' := (hwr.cell (p := ⟨b3, _, none⟩) hb3).trans q3
          have hvo := HAR.out.2 v (List.mem_of_getElem? hv)
          obtain ⟨z, hz⟩ : ∃ z, z = ByteArray.mk (valT v).toArray := ⟨_, rfl⟩
          have hzl : z.size ≤ 22 := by rw [hz, ba_size]; exact valT_len _
          have HW : Hid (∀ W, Calls Tryd.prog 38 #[.agg #[.int .i64 v.k, .int .u64 v.b, .int .i64 v.l]] W fun e w' => e = .returned (.string z) ∧ Below W.heap.size W w') := Lib.hid fun W => by
            rw [hz]; exact value_any v hvo W
          have HF2 : Hid (E ++ [40] ++ commas ((xargs.take (j + 1)).map valT) = F ++ ((if j = 0 then [] else [44, 32]) ++ z.data.toList)) := Lib.hid (by
            rw [List.take_add_one, hv, List.map_append, HF.out]
            show E ++ [40] ++ commas (_ ++ [valT v]) = _
            rw [commas_snoc, hz]
            have h0 : (xargs.take j).map valT = [] ↔ j = 0 := by
              have hm := HM.out
              rw [List.map_eq_nil_iff, List.take_eq_nil_iff]
              constructor
              · rintro (h | h)
                · exact h
                · rw [h] at hm; simp at hm; omega
              · exact .inl
            by_cases hj0 : j = 0
            · subst hj0; simp [commas]
            · rw [if_neg (by rw [h0]; exact hj0), if_neg hj0]; simp)
          obtain ⟨vk, vb, vl⟩ := v
          dsimp only at *
          clear q1 q2 q3 hv hvo hc3 hz HF HO3 HV3
          by_cases hj0 : j = 0
          · subst hj0
            simp only [Nat.zero_mul, Nat.add_zero] at q1' q2' q3'
            go_wp2_with (first
              | (go_at_call 38; (with_reducible refine (HW.out _).mono ?_); rintro e w4 ⟨rfl, hb4⟩; obtain ⟨hc4, hf4, hz4⟩ := cif hb4; (try simp only [World.size_alloc, World.size_setCell, World.size_drew, World.heap_drewN] at hz4))
              | (at_builtin; refine wpList_appS rfl _ _ rfl (w.heap.size + 1) _ F rfl ?a0 _ rfl ?a1 ?a2 ?_))
            case a0 => exact HOr.out.next hb4
            case a1 => omega
            case a2 => omega
            intro v5 w5 hown hg hB5
            have hev5 := OwnB.kept (HOr.out.next hb4) (by decide) ((hb4.block _ hrz).trans HVr.out) hg
            have HO5 := Lib.hid hown
            have HV5 := Lib.hid hev5
            have hBo5 : Below (w.heap.size + 1) wo w5 := hBr.trans (Below.trans (hb4.mono (by omega)) hB5)
            clear hown hg hB5 hev5
            go_wp2
            go_roundw
            case rel => exact ⟨1, F ++ z.data.toList, by go_num, by omega, hBo5, HO5, Lib.hid (by rw [HF2.out]; simp), HV5⟩
            case measure => simp [intOf]; omega
          · have hj1 : (0 : Int) < (j : Int) := by omega
            go_wp2_with (at_builtin; refine wpList_appL rfl _ _ rfl (w.heap.size + 1) _ F rfl ?a0 _ _ _ [44, 32] rfl ?a1 ?a2 ?a3 ?_)
            case a0 => exact HOr.out.alloc _
            case a1 => exact RdL.litB [44, 32] 2 rfl (by decide) (heap_alloc_new _ _)
            case a2 => first | omega | (simp; omega)
            case a3 => first | omega | (simp; omega)
            intro v6 w6 hown hg hB6
            have hev6 := OwnB.kept (HOr.out.alloc _) (by decide) ((heap_alloc_old _ _ (Nat.lt_of_succ_le hrz)).trans HVr.out) hg
            have hBr6 : Below (w.heap.size + 1) wr w6 := Below.trans ((Below.refl _ _).alloc (by omega) _) hB6
            have hrz6 : wo.heap.size + 1 ≤ w6.heap.size := (Array.getElem?_eq_some_iff.1 hev6).1
            have e1' : w6.cell? ⟨wo.heap.size, 1, none⟩ = some (.slice (some ⟨b3, o3, none⟩) m c2) := by rw [Lib.cell_of_heap hev6]; rfl
            have q1'' := (hBr6.cell (p := ⟨b3, _, none⟩) (Nat.lt_succ_of_lt hb3)).trans q1'
            have q2'' := (hBr6.cell (p := ⟨b3, _, none⟩) (Nat.lt_succ_of_lt hb3)).trans q2'
            have q3'' := (hBr6.cell (p := ⟨b3, _, none⟩) (Nat.lt_succ_of_lt hb3)).trans q3'
            obtain ⟨G, hG⟩ : ∃ G, G = F ++ [44, 32] := ⟨_, rfl⟩
            have hGl : G.length ≤ D.length + nm.size + 1 + 24 * j + 2 := by rw [hG, List.length_append]; simp; omega
            rw [← hG] at hown
            have HG := Lib.hid hG
            have HO6 := Lib.hid hown
            have HV6 := Lib.hid hev6
            clear hown hg hB6 hev6 hG HOr HVr q1' q2' q3' e1
            go_wp2_with (first
              | (go_at_call 38; (with_reducible refine (HW.out _).mono ?_); rintro e w4 ⟨rfl, hb4⟩; obtain ⟨hc4, hf4, hz4⟩ := cif hb4; (try simp only [World.size_alloc, World.size_setCell, World.size_drew, World.heap_drewN] at hz4))
              | (at_builtin; refine wpList_appS rfl _ _ rfl (w.heap.size + 1) _ G rfl ?a0 _ rfl ?a1 ?a2 ?_))
            case a0 => exact HO6.out.next hb4
            case a1 => omega
            case a2 => omega
            intro v5 w5 hown hg hB5
            have hev5 := OwnB.kept (HO6.out.next hb4) (by decide) ((hb4.block _ hrz6).trans HV6.out) hg
            have HO5 := Lib.hid hown
            have HV5 := Lib.hid hev5
            have hBo5 : Below (w.heap.size + 1) wo w5 := (hBr.trans hBr6).trans (Below.trans (hb4.mono (by omega)) hB5)
            clear hown hg hB5 hev5
            go_wp2
            go_roundw
            case rel => exact ⟨j + 1, G ++ z.data.toList, by go_num, by omega, hBo5, HO5, Lib.hid (by rw [HF2.out, if_neg hj0, HG.out, List.append_assoc]), HV5⟩
            case measure => simp [intOf]; omega
        · obtain rfl : j = m := by omega
          have HF2 : Hid (F = E ++ [40] ++ commas (xargs.map valT)) := Lib.hid (by have h := HF.out; rw [HM.out, List.take_length] at h; exact h)
          clear HF HO3 HV3
          by_cases hr : rk = 0
          · subst hr
            go_wp2_with (at_builtin; refine wpList_appL rfl _ _ rfl (w.heap.size + 1) _ F rfl ?a0 _ _ _ [41] rfl ?a1 ?a2 ?a3 ?_)
            case a0 => exact HOr.out.alloc _
            case a1 => exact RdL.litB [41] 1 rfl (by decide) (heap_alloc_new _ _)
            case a2 => first | omega | (simp; omega)
            case a3 => first | omega | (simp; omega)
            intro v6 w6 hown hg hB6
            have hev6 := OwnB.kept (HOr.out.alloc _) (by decide) ((heap_alloc_old _ _ (Nat.lt_of_succ_le hrz)).trans HVr.out) hg
            have hBr6 : Below (w.heap.size + 1) wr w6 := Below.trans ((Below.refl _ _).alloc (by omega) _) hB6
            have hrz6 : wo.heap.size + 1 ≤ w6.heap.size := (Array.getElem?_eq_some_iff.1 hev6).1
            have e2' : w6.cell? ⟨wo.heap.size, 2, none⟩ = some (.int .i64 0) := by rw [Lib.cell_of_heap hev6]; rfl
            obtain ⟨G, hG⟩ : ∃ G, G = F ++ [41] := ⟨_, rfl⟩
            have hGl : G.length ≤ D.length + nm.size + 1 + 24 * j + 1 := by rw [hG, List.length_append]; simp; omega
            rw [← hG] at hown
            have HG := Lib.hid hG
            have HO6 := Lib.hid hown
            clear hown hg hB6 hev6 hG HOr HVr e1
            go_wp2_with (at_builtin; refine wpList_appL rfl _ _ rfl (w.heap.size + 1) _ G rfl ?a0 _ _ _ [10] rfl ?a1 ?a2 ?a3 ?_)
            case a0 => exact HO6.out.alloc _
            case a1 => exact RdL.litB [10] 1 rfl (by decide) (heap_alloc_new _ _)
            case a2 => first | omega | (simp; omega)
            case a3 => first | omega | (simp; omega)
            intro v7 w7 hown hg hB7
            have hBo7 : Below (w.heap.size + 1) wo w7 := (hBr.trans hBr6).trans (Below.trans ((Below.refl _ _).alloc (by omega) _) hB7)
            have HO7 := Lib.hid hown
            clear hown hg hB7
            go_wp2
            go_roundw
            case rel => exact ⟨k + 1, G ++ [10], by go_num, by omega, hB.trans hBo7, HO7, Lib.hid (by rw [HT0.out, HG.out, HF2.out, HE.out]; simp [evT, resT])⟩
            case measure => simp [intOf]; omega
          · have hne : (rk != 0) = true := by simpa using hr
            obtain ⟨z, hz⟩ : ∃ z, z = ByteArray.mk (valT ⟨rk, rb, rl⟩).toArray := ⟨_, rfl⟩
            have hzl : z.size ≤ 22 := by rw [hz, ba_size]; exact valT_len _
            have HW : Hid (∀ W, Calls Tryd.prog 38 #[.agg #[.int .i64 rk, .int .u64 rb, .int .i64 rl]] W fun e w' => e = .returned (.string z) ∧ Below W.heap.size W w') := Lib.hid fun W => by
              rw [hz]; exact value_any ⟨rk, rb, rl⟩ HRS.out W
            have HZ := Lib.hid hz
            clear hz
            go_wp2_with (at_builtin; refine wpList_appL rfl _ _ rfl (w.heap.size + 1) _ F rfl ?a0 _ _ _ [41] rfl ?a1 ?a2 ?a3 ?_)
            case a0 => exact HOr.out.alloc _
            case a1 => exact RdL.litB [41] 1 rfl (by decide) (heap_alloc_new _ _)
            case a2 => first | omega | (simp; omega)
            case a3 => first | omega | (simp; omega)
            intro v6 w6 hown hg hB6
            have hev6 := OwnB.kept (HOr.out.alloc _) (by decide) ((heap_alloc_old _ _ (Nat.lt_of_succ_le hrz)).trans HVr.out) hg
            have hBr6 : Below (w.heap.size + 1) wr w6 := Below.trans ((Below.refl _ _).alloc (by omega) _) hB6
            have hrz6 : wo.heap.size + 1 ≤ w6.heap.size := (Array.getElem?_eq_some_iff.1 hev6).1
            have e2' : w6.cell? ⟨wo.heap.size, 2, none⟩ = some (.int .i64 rk) := by rw [Lib.cell_of_heap hev6]; rfl
            have e3' : w6.cell? ⟨wo.heap.size, 3, none⟩ = some (.int .u64 rb) := by rw [Lib.cell_of_heap hev6]; rfl
            have e4' : w6.cell? ⟨wo.heap.size, 4, none⟩ = some (.int .i64 rl) := by rw [Lib.cell_of_heap hev6]; rfl
            obtain ⟨G, hG⟩ : ∃ G, G = F ++ [41] := ⟨_, rfl⟩
            have hGl : G.length ≤ D.length + nm.size + 1 + 24 * j + 1 := by rw [hG, List.length_append]; simp; omega
            rw [← hG] at hown
            have HG := Lib.hid hG
            have HO6 := Lib.hid hown
            have HV6 := Lib.hid hev6
            clear hown hg hB6 hev6 hG HOr HVr e1
            go_wp2
            have HOd : OwnB (w.heap.size + 1) w6.drew v6 G := HO6.out
            have HVd : w6.drew.heap[wo.heap.size]? = some (.cells #[.string nm, .slice A1 j c2, .int .i64 rk, .int .u64 rb, .int .i64 rl] 32 (0, 0)) := HV6.out
            refine wp_region_held_drew (S := fun W => W.heap[wo.heap.size]? = some (.cells #[.string nm, .slice A1 j c2, .int .i64 rk, .int .u64 rb, .int .i64 rl] 32 (0, 0))) (by kernel_rfl) HVd (fun hHeld => ?_)
            refine takeR (i := 0) (some 53) (v := ?_) rfl rfl (by kernel_rfl) (by kernel_rfl) (by kernel_rfl) (fun _ _ _ h => h) (Or.inl ⟨by rfl, ?_⟩) (by assumption) ?_
            rotate_left
            (focus (intro W hSw; (try dsimp only at hSw); (have s2 : W.cell? ⟨wo.heap.size, 2, none⟩ = some (.int .i64 rk) := by rw [Lib.cell_of_heap hSw]; rfl); (have s3 : W.cell? ⟨wo.heap.size, 3, none⟩ = some (.int .u64 rb) := by rw [Lib.cell_of_heap hSw]; rfl); (have s4 : W.cell? ⟨wo.heap.size, 4, none⟩ = some (.int .i64 rl) := by rw [Lib.cell_of_heap hSw]; rfl); go_simp; (try with_reducible rfl)))
            (try simp only [Act.put, List.setIfInBounds_toArray, List.set_cons_zero, List.set_cons_succ])
            refine takeR (i := 3) (some 56) (v := ?_) rfl rfl (by kernel_rfl) (by kernel_rfl) (by kernel_rfl) (fun _ _ _ h => h) (Or.inl ⟨by rfl, ?_⟩) (by assumption) ?_
            rotate_left
            (focus (intro W hSw; (try dsimp only at hSw); (have s2 : W.cell? ⟨wo.heap.size, 2, none⟩ = some (.int .i64 rk) := by rw [Lib.cell_of_heap hSw]; rfl); (have s3 : W.cell? ⟨wo.heap.size, 3, none⟩ = some (.int .u64 rb) := by rw [Lib.cell_of_heap hSw]; rfl); (have s4 : W.cell? ⟨wo.heap.size, 4, none⟩ = some (.int .i64 rl) := by rw [Lib.cell_of_heap hSw]; rfl); go_simp; (try with_reducible rfl)))
            (try simp only [Act.put, List.setIfInBounds_toArray, List.set_cons_zero, List.set_cons_succ])
            refine takeR (i := 4) (some 57) (v := ?_) rfl rfl (by kernel_rfl) (by kernel_rfl) (by kernel_rfl) (fun _ _ _ h => h) (Or.inl ⟨by rfl, ?_⟩) (by assumption) ?_
            rotate_left
            (focus (intro W hSw; (try dsimp only at hSw); (have s2 : W.cell? ⟨wo.heap.size, 2, none⟩ = some (.int .i64 rk) := by rw [Lib.cell_of_heap hSw]; rfl); (have s3 : W.cell? ⟨wo.heap.size, 3, none⟩ = some (.int .u64 rb) := by rw [Lib.cell_of_heap hSw]; rfl); (have s4 : W.cell? ⟨wo.heap.size, 4, none⟩ = some (.int .i64 rl) := by rw [Lib.cell_of_heap hSw]; rfl); go_simp; (try with_reducible rfl)))
            (try simp only [Act.put, List.setIfInBounds_toArray, List.set_cons_zero, List.set_cons_succ])
            refine wpAnyH_ready (rs := [1]) (by kernel_rfl) (by simp) ?_
            refine AllReadyH.cons rfl (fun K hK => ?_) AllReadyH.nil
            (try go_simp)
            have hS1 : (World.alloc w6.drew (.cells #[.int .u8 32, .int .u8 61, .int .u8 32] 5)).heap[wo.heap.size]? = some (.cells #[.string nm, .slice A1 j c2, .int .i64 rk, .int .u64 rb, .int .i64 rl] 32 (0, 0)) := (heap_alloc_old _ _ (Nat.lt_of_succ_le hrz6)).trans HVd
            have hR1 : RdL byC 1 (World.alloc w6.drew (.cells #[.int .u8 32, .int .u8 61, .int .u8 32] 5)) (.slice (some ⟨(w6.drew).heap.size, 0, none⟩) 3 3) [32, 61, 32] := RdL.litB [32, 61, 32] 3 rfl (by decide) (heap_alloc_new _ _)
            refine hK.out _ _ hS1 (fun hHeld => ?_)
            (try simp only [Act.put, List.setIfInBounds_toArray, List.set_cons_zero, List.set_cons_succ])
            refine wpAnyH_ready (rs := [2]) (by kernel_rfl) (by simp) ?_
            refine AllReadyH.cons rfl (fun K hK => ?_) AllReadyH.nil
            refine stepL rfl (.tmp 53) (.tmp 54) rfl (w.heap.size + 1) v6 G rfl (HOd.alloc _) _ 3 3 [32, 61, 32] rfl hR1 (by simp; omega) (by simp; omega) ?_
            intro v7 w7 hown hg hB7
            have hS7 := OwnB.kept (HOd.alloc _) (by decide) hS1 hg
            have hB67 : Below (w.heap.size + 1) w6 w7 := Below.trans (((Below.refl _ _).drew).alloc (by show _ ≤ w6.heap.size; omega) _) hB7
            have hrz7 : wo.heap.size + 1 ≤ w7.heap.size := (Array.getElem?_eq_some_iff.1 hS7).1
            have HO7 := Lib.hid hown
            clear hown hg hB7
            refine hK.out _ _ hS7 (fun hHeld => ?_)
            (try simp only [Act.put, List.setIfInBounds_toArray, List.set_cons_zero, List.set_cons_succ])
            refine wpAnyH_ready (rs := [5]) (by kernel_rfl) (by simp) ?_
            refine AllReadyH.cons rfl (fun K hK => ?_) AllReadyH.nil
            (try go_simp)
            (go_at_call 38; (with_reducible refine (HW.out _).mono ?_); rintro e w8 ⟨rfl, hb8⟩)
            have hS8 := (hb8.block _ hrz7).trans hS7
            have hz8 := hb8.size
            have hB68 : Below (w.heap.size + 1) w6 w8 := hB67.trans (hb8.mono (by omega))
            refine hK.out _ _ hS8 (fun hHeld => ?_)
            (try simp only [Act.put, List.setIfInBounds_toArray, List.set_cons_zero, List.set_cons_succ])
            refine wpAnyH_ready (rs := [6]) (by kernel_rfl) (by simp) ?_
            refine AllReadyH.cons rfl (fun K hK => ?_) AllReadyH.nil
            refine stepS rfl (.tmp 55) (.tmp 58) rfl (w.heap.size + 1) v7 (G ++ [32, 61, 32]) rfl (HO7.out.next hb8) z rfl (by rw [List.length_append]; simp; omega) (by omega) ?_
            intro v9 w9 hown hg hB9
            have hS9 := OwnB.kept (HO7.out.next hb8) (by decide) hS8 hg
            have hBo9 : Below (w.heap.size + 1) w6 w9 := hB68.trans hB9
            have hrz9 : wo.heap.size + 1 ≤ w9.heap.size := (Array.getElem?_eq_some_iff.1 hS9).1
            obtain ⟨I, hI⟩ : ∃ I, I = G ++ [32, 61, 32] ++ z.data.toList := ⟨_, rfl⟩
            have hIl : I.length ≤ D.length + nm.size + 1 + 24 * j + 1 + 3 + 22 := by rw [hI, List.length_append, List.length_append, szl]; simp; omega
            rw [← hI] at hown
            have HO9 := Lib.hid hown
            have HI := Lib.hid hI
            clear hown hg hB9 hI
            refine hK.out _ _ hS9 (fun hHeld => ?_)
            (try simp only [Act.put, List.setIfInBounds_toArray, List.set_cons_zero, List.set_cons_succ])
            refine wpAnyH_ready (rs := [7]) (by kernel_rfl) (by simp) ?_
            refine AllReadyH.cons rfl (fun K hK => ?_) AllReadyH.nil
            go_simp
            refine hK.out _ _ hS9 (fun hHeld => ?_)
            (try simp only [Act.put, List.setIfInBounds_toArray, List.set_cons_zero, List.set_cons_succ])
            refine wpAnyH_done (by kernel_rfl) ?_ _
            clear hK hHeld hS9 hS8 hS7 hS1 hR1 hb8 HVd HOd HO7 HO6 HV6 hB67 hB68 e2' e3' e4'
            go_wp2_with (at_builtin; refine wpList_appL rfl _ _ rfl (w.heap.size + 1) _ I rfl ?a0 _ _ _ [10] rfl ?a1 ?a2 ?a3 ?_)
            case a0 => exact HO9.out.alloc _
            case a1 => exact RdL.litB [10] 1 rfl (by decide) (heap_alloc_new _ _)
            case a2 => first | omega | (simp; omega)
            case a3 => first | omega | (simp; omega)
            intro v10 w10 hown hg hB10
            have hBo10 : Below (w.heap.size + 1) wo w10 := ((hBr.trans hBr6).trans hBo9).trans (Below.trans ((Below.refl _ _).alloc (by omega) _) hB10)
            have HO10 := Lib.hid hown
            clear hown hg hB10
            go_wp2
            go_roundw
            case rel => exact ⟨k + 1, I ++ [10], by go_num, by omega, hB.trans hBo10, HO10, Lib.hid (by rw [HT0.out, HI.out, HG.out, HF2.out, HE.out, HZ.out]; simp [evT, resT, hr])⟩
            case measure => simp [intOf]; omega
    · obtain rfl : k = n := by omega
      have HDT : Hid (D = evsT tr) := Lib.hid (by have h := HD.out; rw [HN.out, List.take_length] at h; exact h)
      have hDl : D.length ≤ 1099511627776 := by rw [HDT.out]; exact Nat.le_trans (evsT_len tr) HH.out.2.2
      clear HD hB
      by_cases h0 : st = 0
      · subst h0
        go_wp2_with (at_builtin; refine wpList_appS rfl _ _ rfl (w.heap.size + 1) _ D rfl ?a0 _ rfl ?a1 ?a2 ?_)
        case a0 => first | exact HO.out | exact HO.out.next (by (repeat' (first | (with_reducible exact Below.refl _ _) | (with_reducible assumption) | (with_reducible refine Below.setCell ?_ ?_ _) | (with_reducible refine Below.alloc ?_ ?_ _) | (with_reducible refine Below.drew ?_) | (with_reducible refine below_drewN ?_ _) | (with_reducible refine below_next ?_ (by with_reducible assumption)) | omega | (dsimp only; omega) | (simp only [World.size_alloc, World.size_setCell, World.size_drew, World.heap_drewN]; omega))))
        case a1 =>
          have hlit : (⟨#[114, 117, 110, 110, 105, 110, 103]⟩ : ByteArray).size = 7 := rfl
          (try simp only [ByteArray.size_append])
          omega
        case a2 => first | omega | (simp; omega)
        intro v2 w2 hown hg hB2
        have hBo2 : Below w.heap.size w w2 := Below.trans (show Below w.heap.size w _ by (repeat' (first | (with_reducible exact Below.refl _ _) | (with_reducible assumption) | (with_reducible refine Below.setCell ?_ ?_ _) | (with_reducible refine Below.alloc ?_ ?_ _) | (with_reducible refine Below.drew ?_) | (with_reducible refine below_drewN ?_ _) | (with_reducible refine below_next ?_ (by with_reducible assumption)) | omega | (dsimp only; omega) | (simp only [World.size_alloc, World.size_setCell, World.size_drew, World.heap_drewN]; omega)))) (hB2.mono (Nat.le_succ _))
        have hz2 := hB2.size
        (try simp only [World.size_alloc] at hz2)
        obtain ⟨E, hE⟩ : ∃ E, E = D ++ [114, 117, 110, 110, 105, 110, 103] := ⟨_, rfl⟩
        have hEl : E.length ≤ 1099511627776 + 40 := by rw [hE, List.length_append]; first | (simp only [List.length_cons, List.length_nil]; omega) | (rw [szl, ByteArray.size_append]; have hlit : (⟨#[114, 117, 110, 110, 105, 110, 103]⟩ : ByteArray).size = 7 := rfl; omega)
        have HO2 : Hid (OwnB (w.heap.size + 1) w2 v2 E) := Lib.hid (by rw [hE]; exact hown)
        have HE := Lib.hid hE
        clear hown hg hB2 hE
        go_wp2_with (at_builtin; refine wpList_appL rfl _ _ rfl (w.heap.size + 1) _ E rfl ?a0 _ _ _ [10] rfl ?a1 ?a2 ?a3 ?_)
        case a0 => exact HO2.out.alloc _
        case a1 => exact RdL.litB [10] 1 rfl (by decide) (heap_alloc_new _ _)
        case a2 => first | omega | (simp; omega)
        case a3 => first | omega | (simp; omega)
        intro v3 w3 hown hg hB3
        have hBo3 : Below w.heap.size w w3 := Below.trans (show Below w.heap.size w _ by (repeat' (first | (with_reducible exact Below.refl _ _) | (with_reducible assumption) | (with_reducible refine Below.setCell ?_ ?_ _) | (with_reducible refine Below.alloc ?_ ?_ _) | (with_reducible refine Below.drew ?_) | (with_reducible refine below_drewN ?_ _) | (with_reducible refine below_next ?_ (by with_reducible assumption)) | omega | (dsimp only; omega) | (simp only [World.size_alloc, World.size_setCell, World.size_drew, World.heap_drewN]; omega)))) (hB3.mono (Nat.le_succ _))
        have hcv := OwnB.conv hown
        clear hown hg hB3
        go_wp2
        go_returns
        refine ⟨ret_str ?_, hBo3⟩
        rw [HE.out, HDT.out]
        simp [outT, endT]
      have d0 : (st == 0) = false := by simpa using h0
      by_cases h1 : st = 1
      · subst h1
        obtain ⟨x, hx⟩ : ∃ x, x = ByteArray.mk (Lib.itoa code).toArray := ⟨_, rfl⟩
        have hI : I64 code := by obtain ⟨h1, h2⟩ := HC.out; exact ⟨by omega, by omega⟩
        have hxl : x.size ≤ 21 := by rw [hx, ba_size]; exact itoa_len _ hI
        obtain ⟨hc1, hc2⟩ := HC.out
        have HF : Hid (∀ W, Calls Tryd.prog 39 #[.int .i64 code] W fun e w' => e = .returned (.string x) ∧ Below W.heap.size W w') := Lib.hid fun W => by
          rw [hx]; exact rdec_any _ hI W
        have HX := Lib.hid hx
        clear hx hI
        go_wp2_with (first
          | (go_at_call 39; (with_reducible refine (HF.out _).mono ?_); rintro e w4 ⟨rfl, hb4⟩; obtain ⟨hc4, hf4, hz4⟩ := cif hb4; (try simp only [World.size_alloc, World.size_setCell, World.size_drew, World.heap_drewN] at hz4))
          | (at_builtin; refine wpList_appS rfl _ _ rfl (w.heap.size + 1) _ D rfl ?a0 _ rfl ?a1 ?a2 ?_))
        case a0 => first | exact HO.out | exact HO.out.next (by (repeat' (first | (with_reducible exact Below.refl _ _) | (with_reducible assumption) | (with_reducible refine Below.setCell ?_ ?_ _) | (with_reducible refine Below.alloc ?_ ?_ _) | (with_reducible refine Below.drew ?_) | (with_reducible refine below_drewN ?_ _) | (with_reducible refine below_next ?_ (by with_reducible assumption)) | omega | (dsimp only; omega) | (simp only [World.size_alloc, World.size_setCell, World.size_drew, World.heap_drewN]; omega))))
        case a1 =>
          have hlit : (⟨#[101, 120, 105, 116, 101, 100, 32]⟩ : ByteArray).size = 7 := rfl
          (try simp only [ByteArray.size_append])
          omega
        case a2 => first | omega | (simp; omega)
        intro v2 w2 hown hg hB2
        have hBo2 : Below w.heap.size w w2 := Below.trans (show Below w.heap.size w _ by (repeat' (first | (with_reducible exact Below.refl _ _) | (with_reducible assumption) | (with_reducible refine Below.setCell ?_ ?_ _) | (with_reducible refine Below.alloc ?_ ?_ _) | (with_reducible refine Below.drew ?_) | (with_reducible refine below_drewN ?_ _) | (with_reducible refine below_next ?_ (by with_reducible assumption)) | omega | (dsimp only; omega) | (simp only [World.size_alloc, World.size_setCell, World.size_drew, World.heap_drewN]; omega)))) (hB2.mono (Nat.le_succ _))
        have hz2 := hB2.size
        (try simp only [World.size_alloc] at hz2)
        obtain ⟨E, hE⟩ : ∃ E, E = D ++ (⟨#[101, 120, 105, 116, 101, 100, 32]⟩ ++ x : ByteArray).data.toList := ⟨_, rfl⟩
        have hEl : E.length ≤ 1099511627776 + 40 := by rw [hE, List.length_append]; first | (simp only [List.length_cons, List.length_nil]; omega) | (rw [szl, ByteArray.size_append]; have hlit : (⟨#[101, 120, 105, 116, 101, 100, 32]⟩ : ByteArray).size = 7 := rfl; omega)
        have HO2 : Hid (OwnB (w.heap.size + 1) w2 v2 E) := Lib.hid (by rw [hE]; exact hown)
        have HE := Lib.hid hE
        clear hown hg hB2 hE
        go_wp2_with (at_builtin; refine wpList_appL rfl _ _ rfl (w.heap.size + 1) _ E rfl ?a0 _ _ _ [10] rfl ?a1 ?a2 ?a3 ?_)
        case a0 => exact HO2.out.alloc _
        case a1 => exact RdL.litB [10] 1 rfl (by decide) (heap_alloc_new _ _)
        case a2 => first | omega | (simp; omega)
        case a3 => first | omega | (simp; omega)
        intro v3 w3 hown hg hB3
        have hBo3 : Below w.heap.size w w3 := Below.trans (show Below w.heap.size w _ by (repeat' (first | (with_reducible exact Below.refl _ _) | (with_reducible assumption) | (with_reducible refine Below.setCell ?_ ?_ _) | (with_reducible refine Below.alloc ?_ ?_ _) | (with_reducible refine Below.drew ?_) | (with_reducible refine below_drewN ?_ _) | (with_reducible refine below_next ?_ (by with_reducible assumption)) | omega | (dsimp only; omega) | (simp only [World.size_alloc, World.size_setCell, World.size_drew, World.heap_drewN]; omega)))) (hB3.mono (Nat.le_succ _))
        have hcv := OwnB.conv hown
        clear hown hg hB3
        go_wp2
        go_returns
        refine ⟨ret_str ?_, hBo3⟩
        rw [HE.out, HDT.out]
        rw [HX.out]
        simp [outT, endT]
      have d1 : (st == 1) = false := by simpa using h1
      by_cases h2 : st = 2
      · subst h2
        go_wp2_with (at_builtin; refine wpList_appS rfl _ _ rfl (w.heap.size + 1) _ D rfl ?a0 _ rfl ?a1 ?a2 ?_)
        case a0 => first | exact HO.out | exact HO.out.next (by (repeat' (first | (with_reducible exact Below.refl _ _) | (with_reducible assumption) | (with_reducible refine Below.setCell ?_ ?_ _) | (with_reducible refine Below.alloc ?_ ?_ _) | (with_reducible refine Below.drew ?_) | (with_reducible refine below_drewN ?_ _) | (with_reducible refine below_next ?_ (by with_reducible assumption)) | omega | (dsimp only; omega) | (simp only [World.size_alloc, World.size_setCell, World.size_drew, World.heap_drewN]; omega))))
        case a1 =>
          have hlit : (⟨#[119, 114, 111, 110, 103]⟩ : ByteArray).size = 5 := rfl
          (try simp only [ByteArray.size_append])
          omega
        case a2 => first | omega | (simp; omega)
        intro v2 w2 hown hg hB2
        have hBo2 : Below w.heap.size w w2 := Below.trans (show Below w.heap.size w _ by (repeat' (first | (with_reducible exact Below.refl _ _) | (with_reducible assumption) | (with_reducible refine Below.setCell ?_ ?_ _) | (with_reducible refine Below.alloc ?_ ?_ _) | (with_reducible refine Below.drew ?_) | (with_reducible refine below_drewN ?_ _) | (with_reducible refine below_next ?_ (by with_reducible assumption)) | omega | (dsimp only; omega) | (simp only [World.size_alloc, World.size_setCell, World.size_drew, World.heap_drewN]; omega)))) (hB2.mono (Nat.le_succ _))
        have hz2 := hB2.size
        (try simp only [World.size_alloc] at hz2)
        obtain ⟨E, hE⟩ : ∃ E, E = D ++ [119, 114, 111, 110, 103] := ⟨_, rfl⟩
        have hEl : E.length ≤ 1099511627776 + 40 := by rw [hE, List.length_append]; first | (simp only [List.length_cons, List.length_nil]; omega) | (rw [szl, ByteArray.size_append]; have hlit : (⟨#[119, 114, 111, 110, 103]⟩ : ByteArray).size = 5 := rfl; omega)
        have HO2 : Hid (OwnB (w.heap.size + 1) w2 v2 E) := Lib.hid (by rw [hE]; exact hown)
        have HE := Lib.hid hE
        clear hown hg hB2 hE
        go_wp2_with (at_builtin; refine wpList_appL rfl _ _ rfl (w.heap.size + 1) _ E rfl ?a0 _ _ _ [10] rfl ?a1 ?a2 ?a3 ?_)
        case a0 => exact HO2.out.alloc _
        case a1 => exact RdL.litB [10] 1 rfl (by decide) (heap_alloc_new _ _)
        case a2 => first | omega | (simp; omega)
        case a3 => first | omega | (simp; omega)
        intro v3 w3 hown hg hB3
        have hBo3 : Below w.heap.size w w3 := Below.trans (show Below w.heap.size w _ by (repeat' (first | (with_reducible exact Below.refl _ _) | (with_reducible assumption) | (with_reducible refine Below.setCell ?_ ?_ _) | (with_reducible refine Below.alloc ?_ ?_ _) | (with_reducible refine Below.drew ?_) | (with_reducible refine below_drewN ?_ _) | (with_reducible refine below_next ?_ (by with_reducible assumption)) | omega | (dsimp only; omega) | (simp only [World.size_alloc, World.size_setCell, World.size_drew, World.heap_drewN]; omega)))) (hB3.mono (Nat.le_succ _))
        have hcv := OwnB.conv hown
        clear hown hg hB3
        go_wp2
        go_returns
        refine ⟨ret_str ?_, hBo3⟩
        rw [HE.out, HDT.out]
        simp [outT, endT]
      have d2 : (st == 2) = false := by simpa using h2
      by_cases h3 : st = 3
      · subst h3
        go_wp2_with (at_builtin; refine wpList_appS rfl _ _ rfl (w.heap.size + 1) _ D rfl ?a0 _ rfl ?a1 ?a2 ?_)
        case a0 => first | exact HO.out | exact HO.out.next (by (repeat' (first | (with_reducible exact Below.refl _ _) | (with_reducible assumption) | (with_reducible refine Below.setCell ?_ ?_ _) | (with_reducible refine Below.alloc ?_ ?_ _) | (with_reducible refine Below.drew ?_) | (with_reducible refine below_drewN ?_ _) | (with_reducible refine below_next ?_ (by with_reducible assumption)) | omega | (dsimp only; omega) | (simp only [World.size_alloc, World.size_setCell, World.size_drew, World.heap_drewN]; omega))))
        case a1 =>
          have hlit : (⟨#[115, 116, 97, 99, 107, 32, 111, 117, 116]⟩ : ByteArray).size = 9 := rfl
          (try simp only [ByteArray.size_append])
          omega
        case a2 => first | omega | (simp; omega)
        intro v2 w2 hown hg hB2
        have hBo2 : Below w.heap.size w w2 := Below.trans (show Below w.heap.size w _ by (repeat' (first | (with_reducible exact Below.refl _ _) | (with_reducible assumption) | (with_reducible refine Below.setCell ?_ ?_ _) | (with_reducible refine Below.alloc ?_ ?_ _) | (with_reducible refine Below.drew ?_) | (with_reducible refine below_drewN ?_ _) | (with_reducible refine below_next ?_ (by with_reducible assumption)) | omega | (dsimp only; omega) | (simp only [World.size_alloc, World.size_setCell, World.size_drew, World.heap_drewN]; omega)))) (hB2.mono (Nat.le_succ _))
        have hz2 := hB2.size
        (try simp only [World.size_alloc] at hz2)
        obtain ⟨E, hE⟩ : ∃ E, E = D ++ [115, 116, 97, 99, 107, 32, 111, 117, 116] := ⟨_, rfl⟩
        have hEl : E.length ≤ 1099511627776 + 40 := by rw [hE, List.length_append]; first | (simp only [List.length_cons, List.length_nil]; omega) | (rw [szl, ByteArray.size_append]; have hlit : (⟨#[115, 116, 97, 99, 107, 32, 111, 117, 116]⟩ : ByteArray).size = 9 := rfl; omega)
        have HO2 : Hid (OwnB (w.heap.size + 1) w2 v2 E) := Lib.hid (by rw [hE]; exact hown)
        have HE := Lib.hid hE
        clear hown hg hB2 hE
        go_wp2_with (at_builtin; refine wpList_appL rfl _ _ rfl (w.heap.size + 1) _ E rfl ?a0 _ _ _ [10] rfl ?a1 ?a2 ?a3 ?_)
        case a0 => exact HO2.out.alloc _
        case a1 => exact RdL.litB [10] 1 rfl (by decide) (heap_alloc_new _ _)
        case a2 => first | omega | (simp; omega)
        case a3 => first | omega | (simp; omega)
        intro v3 w3 hown hg hB3
        have hBo3 : Below w.heap.size w w3 := Below.trans (show Below w.heap.size w _ by (repeat' (first | (with_reducible exact Below.refl _ _) | (with_reducible assumption) | (with_reducible refine Below.setCell ?_ ?_ _) | (with_reducible refine Below.alloc ?_ ?_ _) | (with_reducible refine Below.drew ?_) | (with_reducible refine below_drewN ?_ _) | (with_reducible refine below_next ?_ (by with_reducible assumption)) | omega | (dsimp only; omega) | (simp only [World.size_alloc, World.size_setCell, World.size_drew, World.heap_drewN]; omega)))) (hB3.mono (Nat.le_succ _))
        have hcv := OwnB.conv hown
        clear hown hg hB3
        go_wp2
        go_returns
        refine ⟨ret_str ?_, hBo3⟩
        rw [HE.out, HDT.out]
        simp [outT, endT]
      have d3 : (st == 3) = false := by simpa using h3
      have HEND : Hid (endT ⟨tr, st, code, steps⟩ = [117, 110, 107, 110, 111, 119, 110]) := Lib.hid (by simp [endT, h0, h1, h2, h3])
      clear h0 h1 h2 h3
      go_wp2_with (at_builtin; refine wpList_appS rfl _ _ rfl (w.heap.size + 1) _ D rfl ?a0 _ rfl ?a1 ?a2 ?_)
      case a0 => first | exact HO.out | exact HO.out.next (by (repeat' (first | (with_reducible exact Below.refl _ _) | (with_reducible assumption) | (with_reducible refine Below.setCell ?_ ?_ _) | (with_reducible refine Below.alloc ?_ ?_ _) | (with_reducible refine Below.drew ?_) | (with_reducible refine below_drewN ?_ _) | (with_reducible refine below_next ?_ (by with_reducible assumption)) | omega | (dsimp only; omega) | (simp only [World.size_alloc, World.size_setCell, World.size_drew, World.heap_drewN]; omega))))
      case a1 =>
        have hlit : (⟨#[117, 110, 107, 110, 111, 119, 110]⟩ : ByteArray).size = 7 := rfl
        (try simp only [ByteArray.size_append])
        omega
      case a2 => first | omega | (simp; omega)
      intro v2 w2 hown hg hB2
      have hBo2 : Below w.heap.size w w2 := Below.trans (show Below w.heap.size w _ by (repeat' (first | (with_reducible exact Below.refl _ _) | (with_reducible assumption) | (with_reducible refine Below.setCell ?_ ?_ _) | (with_reducible refine Below.alloc ?_ ?_ _) | (with_reducible refine Below.drew ?_) | (with_reducible refine below_drewN ?_ _) | (with_reducible refine below_next ?_ (by with_reducible assumption)) | omega | (dsimp only; omega) | (simp only [World.size_alloc, World.size_setCell, World.size_drew, World.heap_drewN]; omega)))) (hB2.mono (Nat.le_succ _))
      have hz2 := hB2.size
      (try simp only [World.size_alloc] at hz2)
      obtain ⟨E, hE⟩ : ∃ E, E = D ++ [117, 110, 107, 110, 111, 119, 110] := ⟨_, rfl⟩
      have hEl : E.length ≤ 1099511627776 + 40 := by rw [hE, List.length_append]; first | (simp only [List.length_cons, List.length_nil]; omega) | (rw [szl, ByteArray.size_append]; have hlit : (⟨#[117, 110, 107, 110, 111, 119, 110]⟩ : ByteArray).size = 7 := rfl; omega)
      have HO2 : Hid (OwnB (w.heap.size + 1) w2 v2 E) := Lib.hid (by rw [hE]; exact hown)
      have HE := Lib.hid hE
      clear hown hg hB2 hE
      go_wp2_with (at_builtin; refine wpList_appL rfl _ _ rfl (w.heap.size + 1) _ E rfl ?a0 _ _ _ [10] rfl ?a1 ?a2 ?a3 ?_)
      case a0 => exact HO2.out.alloc _
      case a1 => exact RdL.litB [10] 1 rfl (by decide) (heap_alloc_new _ _)
      case a2 => first | omega | (simp; omega)
      case a3 => first | omega | (simp; omega)
      intro v3 w3 hown hg hB3
      have hBo3 : Below w.heap.size w w3 := Below.trans (show Below w.heap.size w _ by (repeat' (first | (with_reducible exact Below.refl _ _) | (with_reducible assumption) | (with_reducible refine Below.setCell ?_ ?_ _) | (with_reducible refine Below.alloc ?_ ?_ _) | (with_reducible refine Below.drew ?_) | (with_reducible refine below_drewN ?_ _) | (with_reducible refine below_next ?_ (by with_reducible assumption)) | omega | (dsimp only; omega) | (simp only [World.size_alloc, World.size_setCell, World.size_drew, World.heap_drewN]; omega)))) (hB3.mono (Nat.le_succ _))
      have hcv := OwnB.conv hown
      clear hown hg hB3
      go_wp2
      go_returns
      refine ⟨ret_str ?_, hBo3⟩
      rw [HE.out, HDT.out]
      unfold outT
      rw [HEND.out]
      simp
end Go.Proofs.YteepjngkbjbheaaDoor
