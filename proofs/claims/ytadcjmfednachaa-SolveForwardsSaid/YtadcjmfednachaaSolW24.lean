/-
  The program's sets.
-/
import Derived.Test.YtadcjmfednachaaSolC
import Derived.Test.YtadcjmfednachaaStep
namespace Go.Proofs.Ytadcjmfednachaa
open Go.RowKit Go.Maps Go.WideShapes Go.ChangeShapes Go.Deep
set_option linter.unusedVariables false
set_option linter.unusedSimpArgs false

theorem setsOf_length (n : Nat) (m : List (List Int)) : (setsOf n m).length = n := by simp [setsOf]
/-- The rows ahead of k are there. -/
def PartS (n : Nat) (m a : List (List Int)) (k : Nat) : Prop := a.length = n ∧ ∀ i, i < n → a.getD i [] = if i < k then Sol.passL [] [] (Sol.rowI m i) else []
theorem PartS.start (n : Nat) (m : List (List Int)) : PartS n m (List.replicate n []) 0 := ⟨by simp, fun i _ => by rw [getD_replicate]; simp⟩
theorem PartS.next {n k : Nat} {m a : List (List Int)} (h : PartS n m a k) (hk : k < n) : PartS n m (a.set k (Sol.passL [] [] (Sol.rowI m k))) (k + 1) := by
  refine ⟨by rw [List.length_set]; exact h.1, fun i hi => ?_⟩
  rw [Sol.getD_set]
  by_cases e : k = i
  · subst e; rw [if_pos ⟨rfl, by rw [h.1]; exact hk⟩, if_pos (by omega)]
  · rw [if_neg (fun h => e h.1), h.2 i hi]
    by_cases h1 : i < k
    · rw [if_pos h1, if_pos (by omega)]
    · rw [if_neg h1, if_neg (by omega)]
theorem PartS.done {n : Nat} {m a : List (List Int)} (h : PartS n m a n) : a = setsOf n m := by
  refine Sol.lists_ext h.1 (setsOf_length n m) fun i hi => ?_
  rw [h.2 i hi, if_pos hi]
  unfold setsOf
  rw [List.getD_eq_getElem?_getD, List.getElem?_map, List.getElem?_range hi]; rfl
set_option maxRecDepth 100000 in
set_option maxHeartbeats 4000000 in
theorem sets_any (N : Nat) (A : Option Addr) (n c : Nat) (m : List (List Int)) (w : World) (hs : RdM w (.slice A n c) m) (hN : N ≤ 1048576) (hr20 : ∀ l ∈ m, l.length ≤ 1048576) (hw : ∀ l ∈ m, ∀ x ∈ l, I64w x) :
    Calls Try.prog 35 #[.int .i64 N, .slice A n c] w (SetsP w (setsOf N m)) := by
  obtain ⟨j0, hj0, hy0, hy1, hy2⟩ := info_parts set_info
  have hm := hs.len
  unfold maxLen at hm
  obtain ⟨A', c', e⟩ := hs.form
  injection e with e1 e2 e3
  subst e2
  clear e1 e3 A' c'
  have HS := Lib.hid hs
  have H20 := Lib.hid hr20
  have HW := Lib.hid hw
  clear hs hr20 hw
  have hA1 := cell_alloc_if
  have hA2 := frozen_alloc_if
  have hA3 := cell_set_if
  go_enter Try.func35, Try.ntmps35
  go_wp2_with (refine wpList_make_full _ rfl (.tmp 7) (.tmp 7) 48 rfl w.heap.size 52 j0 _ 1 Try.underlying48 hj0 hy0 hy1 .i64 .i64 N N N rfl rfl rfl rfl ?m1 ?m2 ?m3 ?_)
  case m1 => rw [hy2]; omega
  case m2 => unfold maxLen; omega
  try (case m3 => exact Nat.le_refl _)
  intro w1 hrow hg1
  rw [toList_madeCells_one] at hrow
  have hblk := block_full hrow
  have hbw1 : Below w.heap.size w w1 := (Below.refl _ _).grown hg1 (Nat.le_refl _) (fun k hk => by cases hk)
  have HM0 : Hid (SetV w.heap.size w1 w.heap.size (List.replicate N none) (List.replicate N [])) := Lib.hid (SetV.made (Nat.le_refl _) (by simpa using hblk))
  clear hrow hg1 hblk
  go_wp2
  go_loopw [11] (fun i wr => ∃ (k : Nat) (os : List (Option Nat)) (a : List (List Int)), k ≤ N ∧ i = .int .i64 k ∧ Below w.heap.size w wr ∧ os.length = N ∧ Hid (SetV w.heap.size wr w.heap.size os a) ∧ Hid (Full os k) ∧ Hid (PartS N m a k)) (fun i _ => N - (intOf i).toNat)
  case atStart => exact ⟨0, _, _, by omega, rfl, hbw1, by simp, HM0, Lib.hid fun i hi => absurd hi (by omega), Lib.hid (PartS.start _ _)⟩
  case round =>
    clear hbw1 HM0
    obtain ⟨k, os, a, hk, rfl, hXb, hol, HV, HF, HP⟩ := hrel
    have hXz := hXb.size
    by_cases hlt : k < N
    · obtain ⟨o, ho⟩ : ∃ o, os[k]? = some o := ⟨_, List.getElem?_eq_getElem (by omega)⟩
      obtain ⟨p0, f0⟩ := HV.out.cell ho
      have hb0 := HV.out.lt
      clear ho
      have hal : (wr.alloc (.map #[] 0)).heap[wr.heap.size]? = some (.map #[] 0) := heap_alloc_new wr _
      have HV2 : Hid (SetV w.heap.size ((wr.alloc (.map #[] 0)).setCell ⟨w.heap.size, k, none⟩ (.map (some wr.heap.size))) w.heap.size (os.set k (some wr.heap.size)) (a.set k [])) := Lib.hid
        (SetV.put HV.out hXz (by omega) ((Below.refl _ _).alloc (Nat.le_refl _) _) (Nat.le_refl _) (MapL.made hal))
      have hbw2 : Below w.heap.size w ((wr.alloc (.map #[] 0)).setCell ⟨w.heap.size, k, none⟩ (.map (some wr.heap.size))) := (hXb.alloc (by omega) _).setCell (Nat.le_refl _) _
      have HF2 : Hid (Full (os.set k (some wr.heap.size)) (k + 1)) := Lib.hid fun i hi => by
        rw [List.getElem?_set]
        by_cases e : k = i
        · rw [if_pos e, if_pos (by omega)]; exact ⟨_, rfl⟩
        · rw [if_neg e]; exact HF.out i (by omega)
      have ho2 : (os.set k (some wr.heap.size))[k]? = some (some wr.heap.size) := by rw [List.getElem?_set, if_pos rfl, if_pos (by omega)]
      have HO2 := Lib.hid ho2
      have hpn := HP.out.next hlt
      have HPN : Hid (PartS N m (a.set k (Sol.passL [] [] (Sol.rowI m k))) (k + 1)) := Lib.hid hpn
      clear hpn
      have hol2 : (os.set k (some wr.heap.size)).length = N := by rw [List.length_set]; exact hol
      have hcomm : (wr.alloc (.map #[] 0)).setCell ⟨w.heap.size, k, none⟩ (.map (some wr.heap.size)) = (wr.setCell ⟨w.heap.size, k, none⟩ (.map (some wr.heap.size))).alloc (.map #[] 0) := World.setCell_alloc_past (.map #[] 0) w.heap.size k _ hb0
      rw [hcomm] at HV2 hbw2
      obtain ⟨p30, _⟩ := HV2.out.cell ho2
      clear hal ho2 hcomm
      by_cases hkm : k < m.length
      · obtain ⟨l, hl⟩ : ∃ l, m[k]? = some l := ⟨_, List.getElem?_eq_getElem hkm⟩
        have hl20 := H20.out l (List.mem_of_getElem? hl)
        have HLW := Lib.hid (HW.out l (List.mem_of_getElem? hl))
        have hrw := rowI_nat hl
        obtain ⟨bm, offm, c1, A2, c2, e, hbm, p20, hr⟩ := HS.out.row hl
        injection e with e1 e2 e3
        subst e1
        have HRL := Lib.hid hr
        have HRW := Lib.hid hrw
        clear hl hr hrw e2 e3
        have hmm := @run_makeMap Try.prog
        go_wp2
        obtain ⟨w2, hw2⟩ : ∃ w2, w2 = (wr.setCell ⟨w.heap.size, k, none⟩ (.map (some wr.heap.size))).alloc (.map #[] 0) := ⟨_, rfl⟩
        rw [← hw2] at HV2 hbw2 p30 ⊢
        have hz2 : w2.heap.size = wr.heap.size + 1 := by rw [hw2]; simp
        clear hw2
        refine wp_region_held_drew (S := fun W => Below w.heap.size w W ∧ W.cell? ⟨w.heap.size, k, none⟩ = some (.map (some wr.heap.size))) (by kernel_rfl) ⟨hbw2.drew, p30⟩ (fun hHeld => ?_)
        refine takeR (i := 0) (some 22) (v := ?_) rfl rfl (by kernel_rfl) (by kernel_rfl) (by kernel_rfl) (fun _ _ _ h => h) (Or.inl ⟨by rfl, ?_⟩) (by assumption) ?_
        rotate_left
        (focus (intro W hSw; (try dsimp only at hSw); have p3 := hSw.2; have p2 := (hSw.1.cell (p := ⟨bm, offm + k, none⟩) hbm).trans p20; go_simp; (try with_reducible rfl)))
        (try simp only [Act.put, List.setIfInBounds_toArray, List.set_cons_zero, List.set_cons_succ])
        refine takeR (i := 1) (some 23) (v := ?_) rfl rfl (by kernel_rfl) (by kernel_rfl) (by kernel_rfl) (fun _ _ _ h => h) (Or.inl ⟨by rfl, ?_⟩) (by assumption) ?_
        rotate_left
        (focus (intro W hSw; (try dsimp only at hSw); have p3 := hSw.2; have p2 := (hSw.1.cell (p := ⟨bm, offm + k, none⟩) hbm).trans p20; go_simp; (try with_reducible rfl)))
        (try simp only [Act.put, List.setIfInBounds_toArray, List.set_cons_zero, List.set_cons_succ])
        refine takeR (i := 2) (some 24) (v := ?_) rfl rfl (by kernel_rfl) (by kernel_rfl) (by kernel_rfl) (fun _ _ _ h => h) (Or.inl ⟨by rfl, ?_⟩) (by assumption) ?_
        rotate_left
        (focus (intro W hSw; (try dsimp only at hSw); have p3 := hSw.2; have p2 := (hSw.1.cell (p := ⟨bm, offm + k, none⟩) hbm).trans p20; go_simp; (try with_reducible rfl)))
        (try simp only [Act.put, List.setIfInBounds_toArray, List.set_cons_zero, List.set_cons_succ])
        refine takeR (i := 3) (some 25) (v := ?_) rfl rfl (by kernel_rfl) (by kernel_rfl) (by kernel_rfl) (fun _ _ _ h => h) (Or.inl ⟨by rfl, ?_⟩) (by assumption) ?_
        rotate_left
        (focus (intro W hSw; (try dsimp only at hSw); have p3 := hSw.2; have p2 := (hSw.1.cell (p := ⟨bm, offm + k, none⟩) hbm).trans p20; go_simp; (try with_reducible rfl)))
        (try simp only [Act.put, List.setIfInBounds_toArray, List.set_cons_zero, List.set_cons_succ])
        refine takeR (i := 4) (some 26) (v := ?_) rfl rfl (by kernel_rfl) (by kernel_rfl) (by kernel_rfl) (fun _ _ _ h => h) (Or.inl ⟨by rfl, ?_⟩) (by assumption) ?_
        rotate_left
        (focus (intro W hSw; (try dsimp only at hSw); have p3 := hSw.2; have p2 := (hSw.1.cell (p := ⟨bm, offm + k, none⟩) hbm).trans p20; go_simp; (try with_reducible rfl)))
        (try simp only [Act.put, List.setIfInBounds_toArray, List.set_cons_zero, List.set_cons_succ])
        refine takeR (i := 5) (some 27) (v := ?_) rfl rfl (by kernel_rfl) (by kernel_rfl) (by kernel_rfl) (fun _ _ _ h => h) (Or.inl ⟨by rfl, ?_⟩) (by assumption) ?_
        rotate_left
        (focus (intro W hSw; (try dsimp only at hSw); have p3 := hSw.2; have p2 := (hSw.1.cell (p := ⟨bm, offm + k, none⟩) hbm).trans p20; go_simp; (try with_reducible rfl)))
        (try simp only [Act.put, List.setIfInBounds_toArray, List.set_cons_zero, List.set_cons_succ])
        refine takeR (i := 6) (some 28) (v := ?_) rfl rfl (by kernel_rfl) (by kernel_rfl) (by kernel_rfl) (fun _ _ _ h => h) (Or.inl ⟨by rfl, ?_⟩) (by assumption) ?_
        rotate_left
        (focus (intro W hSw; (try dsimp only at hSw); have p3 := hSw.2; have p2 := (hSw.1.cell (p := ⟨bm, offm + k, none⟩) hbm).trans p20; go_simp; (try with_reducible rfl)))
        (try simp only [Act.put, List.setIfInBounds_toArray, List.set_cons_zero, List.set_cons_succ])
        refine takeR (i := 7) (some 29) (v := ?_) rfl rfl (by kernel_rfl) (by kernel_rfl) (by kernel_rfl) (fun _ _ _ h => h) (Or.inl ⟨by rfl, ?_⟩) (by assumption) ?_
        rotate_left
        (focus (intro W hSw; (try dsimp only at hSw); have p3 := hSw.2; have p2 := (hSw.1.cell (p := ⟨bm, offm + k, none⟩) hbm).trans p20; go_simp; (try with_reducible rfl)))
        (try simp only [Act.put, List.setIfInBounds_toArray, List.set_cons_zero, List.set_cons_succ])
        refine wpAnyH_ready (rs := [8]) (by kernel_rfl) (by simp) ?_
        refine AllReadyH.cons rfl (fun K hK => ?_) AllReadyH.nil
        go_simp
        have hadd := add_any wr.heap.size [] A2 l.length c2 l w2.drew (by
          have h := (HV2.out.row k _ [] HO2.out (by rw [List.getElem?_set, if_pos rfl, if_pos (by rw [HP.out.1]; exact hlt)])).1
          rcases h with ⟨e, _⟩ | ⟨q, e, h⟩
          · cases e
          · cases e; exact h) (HRL.out.next (by (repeat' (first | (with_reducible exact Below.refl _ _) | (with_reducible assumption) | (with_reducible refine Below.setCell ?_ ?_ _) | (with_reducible refine Below.alloc ?_ ?_ _) | (with_reducible refine Below.drew ?_) | (with_reducible refine below_drewN ?_ _) | (with_reducible refine below_next ?_ (by with_reducible assumption)) | omega | (dsimp only; omega) | (simp only [World.size_alloc, World.size_setCell, World.size_drew, World.heap_drewN]; omega))))) (fun hp => by
            obtain ⟨y, hy⟩ : ∃ y, l[0]? = some y := ⟨_, List.getElem?_eq_getElem hp⟩
            obtain ⟨b3, off3, e3, _, hb3, _⟩ := HRL.out.intAt hy
            rw [e3]
            intro e
            have : b3 = wr.heap.size := Option.some.inj e
            omega) HLW.out (by simp) hl20
        (go_at_call 41; (with_reducible refine hadd.mono ?_); rintro e w7 ⟨rfl, hm7, hg7⟩)
        have HV7 : Hid (SetV w.heap.size w7 w.heap.size (os.set k (some wr.heap.size)) (a.set k (Sol.passL [] [] (Sol.rowI m k)))) := Lib.hid (by
          have h := (HV2.out.next (w' := w2.drew) (by (repeat' (first | (with_reducible exact Below.refl _ _) | (with_reducible assumption) | (with_reducible refine Below.setCell ?_ ?_ _) | (with_reducible refine Below.alloc ?_ ?_ _) | (with_reducible refine Below.drew ?_) | (with_reducible refine below_drewN ?_ _) | (with_reducible refine below_next ?_ (by with_reducible assumption)) | omega | (dsimp only; omega) | (simp only [World.size_alloc, World.size_setCell, World.size_drew, World.heap_drewN]; omega))))).turn HO2.out hg7 hm7
          rw [List.set_set] at h
          rw [HRW.out]
          exact h)
        have hbw7 : Below w.heap.size w w7 := hbw2.trans (Below.trans (b := w2.drew) (by (repeat' (first | (with_reducible exact Below.refl _ _) | (with_reducible assumption) | (with_reducible refine Below.setCell ?_ ?_ _) | (with_reducible refine Below.alloc ?_ ?_ _) | (with_reducible refine Below.drew ?_) | (with_reducible refine below_drewN ?_ _) | (with_reducible refine below_next ?_ (by with_reducible assumption)) | omega | (dsimp only; omega) | (simp only [World.size_alloc, World.size_setCell, World.size_drew, World.heap_drewN]; omega)))) ((Below.refl _ _).grown hg7 (by show w.heap.size ≤ w2.heap.size; omega) (fun q hq => by injection hq with hq; omega)))
        obtain ⟨p37, _⟩ := HV7.out.cell HO2.out
        clear hadd hm7 hg7
        refine hK.out _ _ ⟨hbw7, p37⟩ (fun hHeld => ?_)
        (try simp only [Act.put, List.setIfInBounds_toArray, List.set_cons_zero, List.set_cons_succ])
        refine wpAnyH_done (by kernel_rfl) ?_ _
        go_wp2
        go_roundw
        case rel => exact ⟨k + 1, _, _, by omega, by go_num, hbw7, hol2, HV7, HF2, HPN⟩
        case measure => simp [intOf]; omega
      · have HRW : Hid (Sol.rowI m k = []) := Lib.hid (rowI_out (by omega))
        have HP2 : Hid (PartS N m (a.set k []) (k + 1)) := Lib.hid (by
          have h := HPN.out
          rw [HRW.out, passL_nil] at h
          exact h)
        have hmm := @run_makeMap Try.prog
        go_wp2
        go_roundw
        case rel => exact ⟨k + 1, _, _, by omega, by go_num, hbw2, hol2, HV2, HF2, HP2⟩
        case measure => simp [intOf]; omega
    · obtain rfl : k = N := by omega
      have HE : Hid (a = setsOf k m) := Lib.hid HP.out.done
      have HLE : Hid ((setsOf k m).length = k) := Lib.hid (setsOf_length k m)
      go_wp2
      go_ret
      exact ⟨by rw [HLE.out]; rfl, ⟨os, by rw [← HE.out]; exact HV.out, by rw [HLE.out]; exact HF.out⟩, hXb⟩
end Go.Proofs.Ytadcjmfednachaa
