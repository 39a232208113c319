/-
  The program's lists: sets as rising rows.
-/
import Derived.Test.YtadcjmfednachaaSolW24
import Derived.Test.YtadcjmfednachaaShelf
import Derived.Lib.SlKeysI
namespace Go.Proofs.Ytadcjmfednachaa
open Go.RowKit Go.Maps
set_option linter.unusedVariables false
set_option linter.unusedSimpArgs false

theorem has_key {H : Type} {P : Program} {k : TypeId} {R : Value → Option (DataW H × List MemPlace)} {w : World} {b n : Nat} {D : DataW H} (h : w.ownsMap P k R b n D) (hk : P.underlying k = some (.int .i64)) {x : Int} (hx : Maps.has D (.int .i64 x) = true) : I64w x := by
  refine intKeys_wf h hk x ?_
  obtain ⟨es, rfl, _, hlit⟩ := h.entries (int_keyed hk)
  obtain ⟨p, hp, hs⟩ := List.any_eq_true.1 hx
  refine List.mem_map.2 ⟨p, hp, ?_⟩
  have := WideAt.sameKey_eq hs
  rw [this]; rfl
theorem map_sorted {P : Program} {k : TypeId} {w : World} {b : Nat} {l : List Int} {D : DataW Unit} (hk : P.underlying k = some (.int .i64)) (h1 : w.ownsMap P k unitElem b l.length D) (h3 : Sol.Rising l) (h4 : ∀ x ∈ l, I64w x) (h5 : ∀ j, I64w j → Maps.has D (.int .i64 j) = decide (j ∈ l)) {ss : List Int} (hp : ss.Perm (intKeys D)) :
    ss.mergeSort (fun x y => decide (x ≤ y)) = l := by
  have hc : CollectedI D (fun _ => false) l := ⟨Sol.rising_nodup h3, fun x => by
    refine ⟨fun hx => ⟨by rw [h5 x (h4 x hx)]; simpa using hx, rfl⟩, fun ⟨hx, _⟩ => ?_⟩
    have hw := has_key h1 hk hx
    rw [h5 x hw] at hx
    simpa using hx⟩
  have hl := hc.perm h1 (int_keyed hk) hk (fun _ => rfl)
  have hs := mergeSort_of_perm_i (hp.trans hl.symm)
  refine hs.trans ?_
  exact List.mergeSort_of_pairwise (h3.imp fun h => by simp [leI]; omega)
theorem row_of {w : World} {base : Nat} {v : Value} {l : List Int} {n : Nat} (hn : n = l.length) (h : w.ownsRow base 3 1 v n (l.map encZ)) : ∃ A c, v = .slice A l.length c ∧ OwnL 3 intC 1 base w (.slice A l.length c) l := by
  subst hn
  obtain ⟨A, c, rfl⟩ : ∃ A c, v = .slice A l.length c := by
    rcases h.2 with ⟨hv, h0⟩ | ⟨g, cap, cur, hv, _⟩
    · exact ⟨none, 0, by rw [hv, h0]⟩
    · exact ⟨_, _, hv⟩
  refine ⟨A, c, rfl, A, c, rfl, ?_⟩
  rw [flat_intC]
  exact h
/-- The sorted keys of a set. -/
def SortedP (w : World) (l : List Int) (e : Ending) (w' : World) : Prop := ∃ A c, e = .returned (.slice A l.length c) ∧ OwnL 3 intC 1 w.heap.size w' (.slice A l.length c) l ∧ Below w.heap.size w w'
theorem sorted_any (Bm : Nat) (o : Option Nat) (l : List Int) (w : World) (h : MapN w o l) (hBm : Bm < w.heap.size) (hm : w.cell? ⟨Bm, 0, none⟩ = some (.map o)) (hl : l.length ≤ 1048576) :
    Calls Try.prog 46 #[.func (.func 60) #[] #[.pointer (some ⟨Bm, 0, none⟩)]] w (SortedP w l) := by
  rcases h with ⟨rfl, rfl⟩ | ⟨b, rfl, h⟩
  · refine (Try.sorted_calls_nil Bm w hBm hm).mono ?_
    rintro e w' ⟨v, ss, rfl, rfl, hrow, _, hb⟩
    obtain ⟨A, c, rfl, ho⟩ := row_of (l := []) rfl (by simpa using hrow)
    exact ⟨A, c, rfl, ho, hb⟩
  · obtain ⟨D, h1, h2, h3, h4, h5⟩ := h
    refine (Try.sorted_calls Bm b l.length D unitElem w hBm hm h1 (by rw [h2]; unfold maxLen; omega) (by rw [h2]; omega)).mono ?_
    rintro e w' ⟨v, ss, rfl, hp, hrow, _, hb⟩
    have hs := map_sorted Try.underlying3 h1 h3 h4 h5 hp
    rw [hs] at hrow
    have hn : ss.length = l.length := by rw [← hs, List.length_mergeSort]
    obtain ⟨A, c, rfl, ho⟩ := row_of hn hrow
    exact ⟨A, c, rfl, ho, hb⟩
/-- Rows ahead of k are there. -/
def PartL (a m' : List (List Int)) (k : Nat) : Prop := m'.length = a.length ∧ ∀ i, i < a.length → m'.getD i [] = if i < k then a.getD i [] else []
theorem PartL.start (a : List (List Int)) : PartL a (List.replicate a.length []) 0 := ⟨by simp, fun i _ => by rw [getD_replicate]; simp⟩
theorem PartL.next {a m' : List (List Int)} {k : Nat} {l : List Int} (h : PartL a m' k) (hl : a[k]? = some l) : PartL a (m'.set k l) (k + 1) := by
  have hk := (List.getElem?_eq_some_iff.1 hl).1
  refine ⟨by rw [List.length_set]; exact h.1, fun i hi => ?_⟩
  rw [Sol.getD_set]
  by_cases e : k = i
  · subst e; rw [if_pos ⟨rfl, by rw [h.1]; exact hk⟩, if_pos (by omega), List.getD_eq_getElem?_getD, hl]; rfl
  · rw [if_neg (fun h => e h.1), h.2 i hi]
    by_cases h1 : i < k
    · rw [if_pos h1, if_pos (by omega)]
    · rw [if_neg h1, if_neg (by omega)]
theorem PartL.done {a m' : List (List Int)} (h : PartL a m' a.length) : m' = a := Sol.lists_ext h.1 rfl fun i hi => by rw [h.2 i hi, if_pos hi]
set_option maxRecDepth 100000 in
set_option maxHeartbeats 4000000 in
theorem lists_any (base b0 : Nat) (os : List (Option Nat)) (a : List (List Int)) (w : World) (hV : SetV base w b0 os a) (hn : a.length ≤ 1048576) (hr20 : ∀ l ∈ a, l.length ≤ 1048576) :
    Calls Try.prog 39 #[.slice (some ⟨b0, 0, none⟩) a.length a.length] w (MatP w a) := by
  obtain ⟨j0, hj0, hy0, hy1, hy2⟩ := info_parts row_info
  obtain ⟨N, hN⟩ : ∃ N, N = a.length := ⟨_, rfl⟩
  have HN := Lib.hid hN
  have HV := Lib.hid hV
  have H20 := Lib.hid hr20
  have hb0 := hV.lt
  rw [← hN] at hn ⊢
  clear hV hr20 hN
  have hA1 := cell_alloc_if
  have hA2 := frozen_alloc_if
  have hA3 := cell_set_if
  go_enter Try.func39, Try.ntmps39
  go_wp2_with (refine wpList_make_full _ rfl (.tmp 7) (.tmp 7) 22 rfl w.heap.size 28 j0 _ 1 Try.underlying22 hj0 hy0 hy1 .i64 .i64 N N N rfl rfl rfl rfl ?m1 ?m2 ?m3 ?_)
  case m1 => rw [hy2]; omega
  case m2 => unfold maxLen; omega
  try (case m3 => exact Nat.le_refl _)
  intro w1 hrow hg1
  rw [toList_madeCells_one] at hrow
  have hblk := block_full hrow
  have hbw1 : Below w.heap.size w w1 := (Below.refl _ _).grown hg1 (Nat.le_refl _) (fun k hk => by cases hk)
  have HM0 : Hid (OwnM 3 28 w.heap.size w1 w.heap.size (List.replicate N [])) := Lib.hid ⟨_, OwnV.made (Nat.le_refl _) (by simpa using hblk)⟩
  clear hrow hg1 hblk
  go_wp2
  go_loopw [11] (fun i wr => ∃ (k : Nat) (m' : List (List Int)), k ≤ N ∧ i = .int .i64 k ∧ Below w.heap.size w wr ∧ Hid (OwnM 3 28 w.heap.size wr w.heap.size m') ∧ Hid (PartL a m' k)) (fun i _ => N - (intOf i).toNat)
  case atStart => exact ⟨0, _, by omega, rfl, hbw1, HM0, Lib.hid (by rw [HN.out]; exact PartL.start _)⟩
  case round =>
    clear hbw1 HM0
    obtain ⟨k, m', hk, rfl, hXb, HM, HP⟩ := hrel
    have hXz := hXb.size
    by_cases hlt : k < N
    · obtain ⟨l, hl⟩ : ∃ l, a[k]? = some l := ⟨_, List.getElem?_eq_getElem (by have := HN.out; omega)⟩
      have hl20 := H20.out l (List.mem_of_getElem? hl)
      obtain ⟨o, ho⟩ : ∃ o, os[k]? = some o := ⟨_, List.getElem?_eq_getElem (by rw [HV.out.len]; have := HN.out; omega)⟩
      have HVr := HV.out.next (w' := w) (Below.refl _ _)
      obtain ⟨p00, _⟩ := HV.out.cell ho
      have p0 := (hXb.cell (p := ⟨b0, k, none⟩) hb0).trans p00
      have hmn := (HV.out.row k o l ho hl).1
      have HMN : Hid (MapN wr o l) := Lib.hid (hmn.block fun q hq => hXb.block q (hmn.lt hq))
      obtain ⟨l7, hl7⟩ : ∃ l7, m'[k]? = some l7 := ⟨_, List.getElem?_eq_getElem (by have := HP.out.1; have := HN.out; omega)⟩
      obtain ⟨vs, hV⟩ := HM.out
      obtain ⟨A7, c7, hv7, p7, f7, _⟩ := hV.at_ hl7
      have HV7 := Lib.hid hV
      have HVV := Lib.hid hv7
      have HPN := Lib.hid (HP.out.next hl)
      have hbl := hV.lt
      clear hl ho HVr p00 hmn hl7 hV hv7
      go_wp2_with (first
        | (go_at_call 47; (with_reducible refine (Try.keys_calls o wr).mono ?_); rintro e w4 ⟨rfl, rfl⟩)
        | (go_at_call 46; (with_reducible refine (sorted_any wr.heap.size o l (wr.alloc (.cells #[.map o] 52)) (HMN.out.block fun q hq => heap_alloc_old' _ _ (HMN.out.lt hq)) (by simp) (by simp [cell_alloc_if]) hl20).mono ?_); rintro e w5 ⟨A5, c5, rfl, how5, hb5⟩; have HOW5 := Lib.hid how5; have hz5 := hb5.size; have hbr5 : Below wr.heap.size wr w5 := Below.trans (b := wr.alloc (.cells #[.map o] 52)) (by (repeat' (first | (with_reducible exact Below.refl _ _) | (with_reducible assumption) | (with_reducible refine Below.setCell ?_ ?_ _) | (with_reducible refine Below.alloc ?_ ?_ _) | (with_reducible refine Below.drew ?_) | (with_reducible refine below_drewN ?_ _) | (with_reducible refine below_next ?_ (by with_reducible assumption)) | omega | (dsimp only; omega) | (simp only [World.size_alloc, World.size_setCell, World.size_drew, World.heap_drewN]; omega)))) (hb5.mono (by simp)); have q5 := (hbr5.cell (p := ⟨w.heap.size, k, none⟩) hbl).trans p7; have g5 : w5.frozen? ⟨w.heap.size, k, none⟩ = false := Lib.frozen_of_heap (OwnV.next HV7.out hbr5).blk _; clear how5))
      have hs5 : wr.heap.size ≤ (wr.alloc (.cells #[.map o] 52)).heap.size := by simp
      have HNEW : Hid (OwnM 3 28 w.heap.size (w5.setCell ⟨w.heap.size, k, none⟩ (.slice A5 l.length c5)) w.heap.size (m'.set k l)) := Lib.hid ⟨_, OwnV.put HV7.out HVV.out (fun b _ hb _ => hbr5.block b hb) hbr5.size (HOW5.out.lower (by omega)) (fun q hq => .inr (by have := (HOW5.out.lt hq).1; omega))⟩
      have hbw5 : Below w.heap.size w (w5.setCell ⟨w.heap.size, k, none⟩ (.slice A5 l.length c5)) := (hXb.trans (hbr5.mono hXz)).setCell (Nat.le_refl _) _
      go_roundw
      case rel => exact ⟨k + 1, _, by omega, by go_num, hbw5, HNEW, HPN⟩
      case measure => simp [intOf]; omega
    · obtain rfl : k = N := by omega
      have HE : Hid (m' = a) := Lib.hid (by
        have h := HP.out
        rw [HN.out] at h
        exact h.done)
      have HLE : Hid (a.length = k) := Lib.hid HN.out.symm
      go_wp2
      go_ret
      exact ⟨by rw [HLE.out]; rfl, by rw [← HE.out]; exact HM.out, hXb⟩
end Go.Proofs.Ytadcjmfednachaa
