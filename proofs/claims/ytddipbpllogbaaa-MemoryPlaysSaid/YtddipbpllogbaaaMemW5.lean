/-
  The program's memory: Alloc.
-/
import Derived.Test.YtddipbpllogbaaaMemW4
namespace Go.Proofs.Ytddipbpllogbaaa
open Go.RowKit
set_option linter.unusedVariables false
set_option linter.unusedSimpArgs false

theorem u16_info : (Try.prog.info? 64).map (fun i => (i.zero, i.size, i.bytes)) = some (some (.int .u16 0), 1, 2) := by kernel_rfl
def fillN (n k : Nat) : List Int := List.replicate k 256 ++ List.replicate (n - k) 0
theorem fill_step (n k : Nat) (h : k < n) : (fillN n k).set k 256 = fillN n (k + 1) := by
  unfold fillN
  rw [List.set_append_right _ _ (by simp)]
  simp only [List.length_replicate, Nat.sub_self]
  rw [show n - k = (n - (k + 1)) + 1 by omega, List.replicate_succ, List.set_cons_zero, List.replicate_succ']
  simp
theorem fill_full (n : Nat) : fillN n n = List.replicate n 256 := by simp [fillN]
theorem fill_len (n k : Nat) (h : k ≤ n) : (fillN n k).length = n := by simp [fillN]; omega

set_option maxRecDepth 100000 in
set_option maxHeartbeats 4000000 in
theorem alloc_no {w : World} (pm : Nat) (n : Int) (hn : n < 0 ∨ n > 16777216) :
    Calls Try.prog 9 #[.pointer (some ⟨pm, 0, none⟩), .int .i64 n] w fun e w' => e = .returned (.int .i64 0) ∧ w' = w := by
  by_cases c : n < 0
  · have d : decide (n < 0) = true := by simpa using c
    clear hn
    go_enter Try.func9, Try.ntmps9
    go_wp2
    go_returns
    exact ⟨rfl, rfl⟩
  · have d : decide (n < 0) = false := by simpa using c
    have d2 : decide (16777216 < n) = true := by simp; omega
    clear hn
    go_enter Try.func9, Try.ntmps9
    go_wp2
    go_returns
    exact ⟨rfl, rfl⟩

theorem made_row (n : Nat) : madeCells #[Value.int .u16 0] n = ((fillN n 0).map (Value.int .u16)).toArray := by
  apply Array.ext
  · rw [size_madeCells]; simp [fillN]
  · intro i h1 h2
    simp [madeCells, fillN, Nat.mod_one]

/-- Behind the making of a block. -/
theorem left_of_alloc {w W3 wr w1 : World} {base pm bm nb last cap n : Nat} {M : Int → Option Bk} (h : MemS w base pm bm nb last cap M) (hn : n ≤ 16777216) (hcap : cap + 1 < 9223372036854775807)
    (hW : W3 = (((w.alloc (.cells (madeCells #[Value.int .u16 0] n) 64)).alloc (.map #[] 0)).alloc (.cells #[.slice (some ⟨w.heap.size, 0, none⟩) n n, .map (some (w.heap.size + 1)), .bool false] 63)))
    (T : RowT w.heap.size W3 wr (List.replicate n 256))
    (hf : MapF Try.prog 3 ptrR ptrD w1 bm (nb + 1) (setK (fun k => (M k).map (·.b)) ((last : Int) + 1) (some (w.heap.size + 2)))) (hg : (wr.setCell ⟨pm, 1, none⟩ (.int .i64 ((last : Int) + 1))).grownBy w1 (some bm)) :
    Left w w1 base pm bm (nb + 1) (last + 1) (cap + 1) (setK M ((last : Int) + 1) (some ⟨w.heap.size + 2, w.heap.size, w.heap.size + 1, 0, List.replicate n 256, fun _ => none, false⟩)) := by
  have hlt := lt_of_block h.top
  have hbm := h.blocks.lt
  obtain ⟨es, cl, ho⟩ := h.blocks.obj
  have hpb : pm ≠ bm := (map_ne ho h.top).symm
  have hs3 : W3.heap.size = w.heap.size + 3 := by rw [hW]; simp
  have hsr : wr.heap.size = w.heap.size + 3 := by rw [T.size, hs3]
  -- what stands in the new blocks
  have hb3 : Below w.heap.size w W3 := by rw [hW]; (repeat' (first | (with_reducible exact Below.refl _ _) | (with_reducible assumption) | (with_reducible refine Below.setCell ?_ ?_ _) | (with_reducible refine Below.alloc ?_ ?_ _) | (with_reducible refine Below.drew ?_) | (with_reducible refine below_drewN ?_ _) | (with_reducible refine below_next ?_ (by with_reducible assumption)) | omega | (dsimp only; omega) | (simp only [World.size_alloc, World.size_setCell, World.size_drew, World.heap_drewN]; omega)))
  have k1 : W3.heap[w.heap.size + 1]? = some (.map #[] 0) := by
    rw [hW]
    have e : (w.alloc (.cells (madeCells #[Value.int .u16 0] n) 64)).heap.size = w.heap.size + 1 := by simp
    rw [Below.heap_alloc _ _ _ (by simp), ← e]
    exact heap_alloc_new _ _
  have k2 : W3.heap[w.heap.size + 2]? = some (.cells #[.slice (some ⟨w.heap.size, 0, none⟩) n n, .map (some (w.heap.size + 1)), .bool false] 63 (0, 0)) := by
    rw [hW]
    have e : ((w.alloc (.cells (madeCells #[Value.int .u16 0] n) 64)).alloc (.map #[] 0)).heap.size = w.heap.size + 2 := by simp
    rw [← e]
    exact heap_alloc_new _ _
  have hold : ∀ i, i < w.heap.size → i ≠ pm → i ≠ bm → w1.heap[i]? = w.heap[i]? := fun i h1 h2 h3 => by
    rw [hg.block i (by rw [World.size_setCell]; omega) (by simpa using h3), heap_set_ne _ _ _ h2, T.others i (by omega), hb3.block i h1]
  have hnew : ∀ i, w.heap.size < i → i < w.heap.size + 3 → w1.heap[i]? = W3.heap[i]? := fun i h1 h2 => by
    rw [hg.block i (by rw [World.size_setCell]; omega) (by simp; omega), heap_set_ne _ _ _ (by omega), T.others i (by omega)]
  have hrow : w1.heap[w.heap.size]? = some (.cells ((List.replicate n 256).map (Value.int .u16)).toArray 64 (0, 0)) := by
    rw [hg.block _ (by rw [World.size_setCell]; omega) (by simp; omega), heap_set_ne _ _ _ (by omega)]
    exact T.row
  have htop : w1.heap[pm]? = some (.cells #[.map (some bm), .int .i64 ((last : Int) + 1)] 58 (0, 0)) := by
    rw [hg.block _ (by rw [World.size_setCell]; omega) (by simpa using hpb), heap_set_at ((T.others pm (by omega)).trans ((hb3.block pm hlt).trans h.top))]
    rfl
  have hM0 : M ((last : Int) + 1) = none := by
    cases hm : M ((last : Int) + 1) with
    | none => rfl
    | some B => have := (h.keys _ B hm).2.1; omega
  have hlo := h.lo
  have hnbc := h.nbc
  have hatN : BkAt w1 ⟨w.heap.size + 2, w.heap.size, w.heap.size + 1, 0, List.replicate n 256, fun _ => none, false⟩ := by
    refine ⟨?_, hrow, ?_⟩
    · show w1.heap[w.heap.size + 2]? = some (.cells #[.slice (some ⟨w.heap.size, 0, none⟩) (List.replicate n (256 : Int)).length (List.replicate n (256 : Int)).length, .map (some (w.heap.size + 1)), .bool false] _ (0, 0))
      rw [hnew _ (by omega) (by omega), k2]
      simp
    · refine ⟨.map [], ⟨#[], 0, (hnew (w.heap.size + 1) (by omega) (by omega)).trans k1, ?_⟩, fun j _ => ⟨rfl, fun a h => by cases h⟩⟩
      obtain ⟨es', cl', h1, h2⟩ := World.ownsMap_made (H := Unit) w Try.prog 3 vR
      have h3 := h1.symm.trans (heap_alloc_new w (.map #[] 0))
      simp only [Option.some.injEq, Obj.map.injEq] at h3
      obtain ⟨rfl, rfl⟩ := h3
      exact h2
  have hatO : ∀ k B, M k = some B → BkAt w1 B := fun k B hk => by
    have hB := h.at_ k B hk
    have hl := hB.lt
    obtain ⟨es', cl', ho'⟩ := hB.ptrs.obj
    refine hB.block fun i hi => ?_
    rcases hi with rfl | rfl | rfl
    · exact hold _ hl.1 (h.b_ne_pm hk) (map_ne ho hB.own).symm
    · exact hold _ hl.2.1 (h.g_ne_pm hk) (map_ne ho hB.row).symm
    · exact hold _ hl.2.2 (map_ne ho' h.top) (h.keys k B hk).2.2.2.2.2.1
  refine { mem := { top := by simpa using htop, blocks := ?_, lo := hlo, nbc := ⟨by omega, by omega, hcap⟩, keys := ?_, at_ := ?_, apart := ?_ }, low := ?_, kept := ⟨?_, ?_⟩, foot := fun i hi h1 h2 _ => hold i hi h1 h2 }
  · have e1 : (fun k => (setK M ((last : Int) + 1) (some ⟨w.heap.size + 2, w.heap.size, w.heap.size + 1, 0, List.replicate n 256, fun _ => none, false⟩) k).map (·.b)) = setK (fun k => (M k).map (·.b)) ((last : Int) + 1) (some (w.heap.size + 2)) := by
      funext k; unfold setK; split <;> rfl
    rw [e1]; exact hf
  · intro k B hk
    unfold setK at hk
    split at hk
    · rename_i hkl
      injection hk with hk
      subst hk hkl
      refine ⟨by omega, by omega, by show base ≤ w.heap.size + 2; omega, by show base ≤ w.heap.size; omega, by show base ≤ w.heap.size + 1; omega, by show w.heap.size + 1 ≠ bm; omega, by simpa using hn, Nat.zero_le _, fun x hx => ?_⟩
      have := (List.mem_replicate.1 hx).2
      omega
    · obtain ⟨a1, a2, a3, a4, a5, a6, a7, a8, a9⟩ := h.keys k B hk
      exact ⟨a1, by omega, a3, a4, a5, a6, a7, by omega, a9⟩
  · intro k B hk
    unfold setK at hk
    split at hk
    · injection hk with hk
      subst hk
      exact hatN
    · exact hatO k B hk
  · intro k j B C hk hj hkj
    unfold setK at hk hj
    split at hk
    · injection hk with hk
      subst hk
      split at hj
      · omega
      · have hl := (h.at_ j C hj).lt
        exact ⟨by show w.heap.size + 2 ≠ _; omega, by show w.heap.size ≠ _; omega, by show w.heap.size + 1 ≠ _; omega⟩
    · split at hj
      · injection hj with hj
        subst hj
        have hl := (h.at_ k B hk).lt
        exact ⟨by show _ ≠ w.heap.size + 2; omega, by show _ ≠ w.heap.size; omega, by show _ ≠ w.heap.size + 1; omega⟩
      · exact h.apart k j B C hk hj hkj
  · exact (((hb3.mono (by omega)).trans (T.low.mono (by omega))).setCell (p := ⟨pm, 1, none⟩) hlo.1 _).grown hg (by rw [World.size_setCell]; omega) (fun k hk => by injection hk with hk; omega)
  · have := hg.size; rw [World.size_setCell] at this; omega
  · intro i c t fr hi t1 t2 t3
    have hil := lt_of_block hi
    refine hold i hil (fun e => ?_) (map_ne ho hi).symm
    rw [e, h.top] at hi
    simp only [Option.some.injEq, Obj.cells.injEq] at hi
    exact t1 hi.2.1.symm

set_option maxRecDepth 100000 in
set_option maxHeartbeats 4000000 in
theorem alloc_yes {w : World} {base pm bm nb last cap : Nat} {M : Int → Option Bk} (h : MemS w base pm bm nb last cap M) (n : Nat) (hn : n ≤ 16777216) (hcap : cap + 1 < 9223372036854775807) :
    Calls Try.prog 9 #[.pointer (some ⟨pm, 0, none⟩), .int .i64 n] w fun e w' => e = .returned (.int .i64 ((last : Int) + 1)) ∧
      Left w w' base pm bm (nb + 1) (last + 1) (cap + 1) (setK M ((last : Int) + 1) (some ⟨w.heap.size + 2, w.heap.size, w.heap.size + 1, 0, List.replicate n 256, fun _ => none, false⟩)) := by
  obtain ⟨i0, hi0, hz0, hz1, hz2⟩ := info_parts u16_info
  have hms := run_makeSlice (P := Try.prog) w 60 64 i0 (.int .u16 0) Try.underlying60 hi0 hz0 .i64 .i64 n n (by omega) (Int.le_refl _) (by rw [hz1]; omega) (by rw [hz2]; omega) (by omega)
  rw [hz1] at hms
  simp only [Int.toNat_natCast, Nat.mul_one] at hms
  have hmm := @run_makeMap Try.prog
  have HH := Lib.hid h
  have d : decide ((n : Int) < 0) = false := by simp
  have d2 : decide (16777216 < (n : Int)) = false := by simp; omega
  clear h
  have hA1 := cell_alloc_if
  have hA2 := frozen_alloc_if
  have hA3 := cell_set_if
  go_enter Try.func9, Try.ntmps9
  go_wp2
  obtain ⟨W3, hW3⟩ : ∃ W3, W3 = (((w.alloc (.cells (madeCells #[Value.int .u16 0] n) 64)).alloc (.map #[] 0)).alloc (.cells #[.slice (some ⟨w.heap.size, 0, none⟩) n n, .map (some (w.heap.size + 1)), .bool false] 63)) := ⟨_, rfl⟩
  have hT0 : Hid (RowT w.heap.size W3 W3 (fillN n 0)) := Lib.hid ⟨rfl, fun _ _ => rfl, by
    rw [hW3, Below.heap_alloc _ _ _ (by simp; omega), Below.heap_alloc _ _ _ (by simp), heap_alloc_new, made_row], Below.refl _ _⟩
  have hrec : Hid (W3.heap[w.heap.size + 2]? = some (.cells #[.slice (some ⟨w.heap.size, 0, none⟩) n n, .map (some (w.heap.size + 1)), .bool false] 63 (0, 0))) := Lib.hid (by
    rw [hW3]
    have e : ((w.alloc (.cells (madeCells #[Value.int .u16 0] n) 64)).alloc (.map #[] 0)).heap.size = w.heap.size + 2 := by simp
    rw [← e]
    exact heap_alloc_new _ _)
  have hb3 : Hid (Below w.heap.size w W3) := Lib.hid (by rw [hW3]; (repeat' (first | (with_reducible exact Below.refl _ _) | (with_reducible assumption) | (with_reducible refine Below.setCell ?_ ?_ _) | (with_reducible refine Below.alloc ?_ ?_ _) | (with_reducible refine Below.drew ?_) | (with_reducible refine below_drewN ?_ _) | (with_reducible refine below_next ?_ (by with_reducible assumption)) | omega | (dsimp only; omega) | (simp only [World.size_alloc, World.size_setCell, World.size_drew, World.heap_drewN]; omega))))
  have HW3 := Lib.hid hW3
  rw [← hW3]
  clear hms hmm hW3
  go_loopw [6, 23] (fun u i wr => ∃ k : Nat, k ≤ n ∧ i = .int .i64 k ∧ Hid (RowT w.heap.size W3 wr (fillN n k))) (fun _ i _ => n - (intOf i).toNat)
  case atStart => exact ⟨0, by omega, rfl, hT0⟩
  case round =>
    obtain ⟨k, hk, rfl, HT⟩ := hrel
    by_cases hlt : k < n
    · have T := HT.out
      have z0 := T.cell hrec.out (by omega) 0
      simp at z0
      have hl := fill_len n k hk
      have cg : wr.cell? ⟨w.heap.size, k, none⟩ = some (.int .u16 ((fillN n k).getD k 0)) := by
        rw [Lib.cell_of_heap T.row]
        simp [show k < (fillN n k).length by omega]
      have fg : wr.frozen? ⟨w.heap.size, k, none⟩ = false := Lib.frozen_of_heap T.row _
      have HE : Hid (RowT w.heap.size W3 (wr.setCell ⟨w.heap.size, k, none⟩ (.int .u16 256)) (fillN n (k + 1))) := Lib.hid (by rw [← fill_step n k hlt]; exact T.step k 256)
      clear T hl
      generalize (fillN n k).getD k 0 = cc at *
      go_wp2
      exact ⟨⟨k + 1, by omega, by go_num, HE⟩, by simp [intOf]; omega⟩
    · have hkn : k = n := by omega
      subst hkn
      have T := HT.out
      rw [fill_full] at T
      have hlt0 := lt_of_block HH.out.top
      have htop : wr.heap[pm]? = some (.cells #[.map (some bm), .int .i64 last] 58 (0, 0)) := (T.others pm (by omega)).trans ((hb3.out.block pm hlt0).trans HH.out.top)
      have y0 : wr.cell? ⟨pm, 0, none⟩ = some (.map (some bm)) := by rw [Lib.cell_of_heap htop]; rfl
      have y1 : wr.cell? ⟨pm, 1, none⟩ = some (.int .i64 last) := by rw [Lib.cell_of_heap htop]; rfl
      have f1 : wr.frozen? ⟨pm, 1, none⟩ = false := Lib.frozen_of_heap htop 1
      have hMF : Hid (MapF Try.prog 3 ptrR ptrD (wr.setCell ⟨pm, 1, none⟩ (.int .i64 ((last : Int) + 1))) bm nb (fun k => (M k).map (·.b))) := Lib.hid (by
        obtain ⟨es, cl, ho⟩ := HH.out.blocks.obj
        have hbm := HH.out.blocks.lt
        exact HH.out.blocks.block (by rw [heap_set_ne _ _ _ (map_ne ho HH.out.top), T.others bm (by omega), hb3.out.block bm hbm]))
      have hlc := HH.out.nbc
      have HT' := Lib.hid T
      clear T htop HT
      go_wp2
      have y3 : (wr.setCell ⟨pm, 1, none⟩ (.int .i64 ((last : Int) + 1))).cell? ⟨pm, 1, none⟩ = some (.int .i64 ((last : Int) + 1)) := by rw [cell_set_if]; simp [y1]
      have z3 : (wr.setCell ⟨pm, 1, none⟩ (.int .i64 ((last : Int) + 1))).cell? ⟨pm, 0, none⟩ = some (.map (some bm)) := by rw [cell_set_if]; simp [y0]
      have hzz : (wr.setCell ⟨pm, 1, none⟩ (.int .i64 ((last : Int) + 1))).heap.size = wr.heap.size := World.size_setCell _ _ _
      clear hA1 hA2 hA3 y0 y1 f1
      obtain ⟨W2, hW2⟩ : ∃ W2, W2 = wr.setCell ⟨pm, 1, none⟩ (.int .i64 ((last : Int) + 1)) := ⟨_, rfl⟩
      rw [← hW2] at y3 z3 hMF hzz ⊢
      have HW2 := Lib.hid hW2
      clear hW2
      go_still_tail 9, (by kernel_rfl)
      change wpList _ _ _ _ _ W2.drew
      have hpb : pm ≠ bm := by
        obtain ⟨es, cl, ho⟩ := HH.out.blocks.obj
        exact (map_ne ho HH.out.top).symm
      have hsz : pm < wr.heap.size := by
        have := HT'.out.size
        have := hb3.out.size
        omega
      go_wp2_with (at_mapUpdate
                   refine wpList_put rfl (.tmp 43) (.tmp 47) (.tmp 48) 56 rfl 59 ptrE Try.underlying3 Try.underlying56 hMF.out.drew (by unfold maxLen; omega) ((last : Int) + 1) (i64wf (by unfold I64; omega)) (w.heap.size + 2) rfl rfl rfl ?_
                   intro w1 hf1 hg1
                   have y4 : w1.cell? ⟨pm, 1, none⟩ = some (.int .i64 ((last : Int) + 1)) := (World.cell?_of_block (hg1.block pm (by show pm < W2.heap.size; omega) (by simpa using hpb))).trans y3)
      go_returns
      have hg2 : W2.grownBy w1 (some bm) := ⟨hg1.os, hg1.tape, hg1.output, hg1.size, hg1.block⟩
      rw [HW2.out] at hg2
      exact ⟨rfl, left_of_alloc HH.out hn hcap HW3.out HT'.out hf1 hg2⟩

end Go.Proofs.Ytddipbpllogbaaa
