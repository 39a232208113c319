/-
  The reference's memory: Alloc.
-/
import Derived.Test.YtddipbpllogbaaaRefW14
import Derived.Deep.RegionHeld3
import Derived.Test.YtddipbpllogbaaaSlices
namespace Go.Proofs.Ytddipbpllogbaaa
open Go.RowKit
set_option linter.unusedVariables false
set_option linter.unusedSimpArgs false

theorem takeAt' {P : Program} {md : Region.Mode} {ops : Array Oper} {Q : Exit → Act → World → Prop} {S : World → Prop} {i : Nat} (d : Option Tmp) {oi : Oper} {v : Value} {fuel : Nat} {listed : Array Bool} {a : Act} {w : World} (hi : ops[i]? = some oi) (hd : oi.dst = d)
    (hs : Region.noSelect ops = true) (hf : Region.free md ops listed i = true) (hr : (Region.ready md ops listed).contains i = true)
    (hQ : ∀ c a w, Q (.panic c) (a.put d v) w → Q (.panic c) a w) (hy : YieldsIf P ops S oi v a) (hS : S w)
    (h : wpAnyH P md ops Q S fuel (listed.setIfInBounds i true) (a.put d v) w) : wpAnyH P md ops Q S (fuel + 1) listed a w := by
  subst hd
  exact wpAnyH_take hi hs hf hr hQ hy hS h
theorem block_info : (Try.prog.info? 67).map (fun i => (i.zero, i.size, i.bytes)) = some (some (.agg #[.slice none 0 0, .slice none 0 0, .map none, .bool false, .bool false]), 5, 64) := by kernel_rfl
theorem u8_info : (Try.prog.info? 5).map (fun i => (i.zero, i.size, i.bytes)) = some (some (.int .u8 0), 1, 1) := by kernel_rfl

theorem alloc3 (w : World) (o1 o2 o3 : Obj) : (((w.alloc o1).alloc o2).alloc o3).heap[w.heap.size]? = some o1 ∧ (((w.alloc o1).alloc o2).alloc o3).heap[w.heap.size + 1]? = some o2 ∧ (((w.alloc o1).alloc o2).alloc o3).heap[w.heap.size + 1 + 1]? = some o3 ∧ (((w.alloc o1).alloc o2).alloc o3).heap.size = w.heap.size + 3 := by
  have e1 : (w.alloc o1).heap.size = w.heap.size + 1 := World.size_alloc _ _
  have e2 : ((w.alloc o1).alloc o2).heap.size = w.heap.size + 1 + 1 := by rw [World.size_alloc, e1]
  refine ⟨?_, ?_, ?_, by rw [World.size_alloc, e2]⟩
  · rw [Below.heap_alloc _ _ _ (by omega), Below.heap_alloc _ _ _ (by omega)]; exact heap_alloc_new _ _
  · rw [Below.heap_alloc _ _ _ (by omega), ← e1]; exact heap_alloc_new _ _
  · rw [← e2]; exact heap_alloc_new _ _
/-- append to an own row, as one step of a region. -/
theorem step_append_one {P : Program} {ops : Array Oper} {o : Oper} {a : Act} {w : World} {K : Act → World → Prop} {Q : Exit → Act → World → Prop} {E : Prop} (base : Nat)
    (hg : o.guard = none) (s x : Operand) (t : TypeId) (hop : o.op = Op.call { callee := Callee.builtin Builtin.append, args := #[s, x], argTypes := #[t, t] })
    (e : TypeId) (i : TypeInfo) (z : Value) (size bytes : Nat) (h1 : P.underlying t = some (.slice e)) (h2 : P.info? e = some i) (h3 : i.zero = some z) (h4 : i.size = size) (h5 : i.bytes = bytes) (h6 : z.cells.size = size) (h7 : 0 < size)
    (v : Value) (n : Nat) (xs : List Value) (hs : a.eval s = v) (hown : w.ownsRow base e size v n xs)
    (ad : Addr) (m c : Nat) (news : List Value) (hx : a.eval x = .slice (some ad) m c) (hn : news.length = m * size) (hc : ∀ j u, news[j]? = some u → w.cell? (ad.add j) = some u) (h1c : ∀ u ∈ news, u.oneCell' = true)
    (b1 : n + m ≤ maxLen) (b2 : (n + m) * bytes ≤ 140737488355328) (hb : base ≤ w.heap.size)
    (hK : ∀ v' w', w'.ownsRow base e size v' (n + m) (xs ++ news) → w.grownBy w' v.ownBlock → (∀ q, v'.ownBlock = some q → v.ownBlock = some q ∨ w.heap.size ≤ q) → K (a.put o.dst v') w') :
    if Region.wanted o (yielded ops a.tmps) = true then Oper.wp P o a w K Q else E := by
  have hw : Region.wanted o (yielded ops a.tmps) = true := by simp [Region.wanted, hg]
  rw [if_pos hw]
  obtain ⟨v', w', hrun, r1, r2, r3⟩ := append_one (P := P) (w := w) base t o.type e i z size bytes h1 h2 h3 h4 h5 h6 h7 v n xs hown ad m c news hn hc h1c b1 b2 hb
  unfold Oper.wp
  simp [execOp, hop, resolve, invoke, builtin, hs, hx, hrun, Result.andThen]
  exact hK v' w' r1 r2 r3
theorem blk_at (W : World) (n g b p : Nat) : ∀ (j : Nat) u, (newRB g b p n).cells[j]? = some u → (W.alloc (.cells #[.slice (some ⟨g, 0, none⟩) n n, .slice (some ⟨b, 0, none⟩) n n, .map (some p), .bool true, .bool false] 67)).cell? ((⟨W.heap.size, 0, none⟩ : Addr).add j) = some u := fun j u h => by
  rw [add_at, Lib.cell_of_heap (heap_alloc_new W _), Nat.zero_add, ← h]
  simp [newRB, RB.cells]
theorem newRB_one (g b p n : Nat) : ∀ u ∈ (newRB g b p n).cells, u.oneCell' = true := fun u hu => by
  simp only [newRB, RB.cells, if_true, List.mem_cons, List.not_mem_nil, or_false] at hu
  rcases hu with rfl | rfl | rfl | rfl | rfl <;> rfl
theorem RefS.rm_ne {w : World} {base rm cap : Nat} {s : Value} {R : List RB} (h : RefS w base rm s cap R) : some rm ≠ s.ownBlock := fun e => by
  rcases h.row.2 with ⟨h2, _⟩ | ⟨g', cp, cur, e1, _, e3, _⟩
  · rw [h2] at e; cases e
  · rw [e1] at e
    simp only [Value.ownBlock, Option.some.injEq] at e
    subst e
    rw [h.top] at e3
    simp at e3
theorem row_form {w : World} {base : Nat} {e : TypeId} {size n : Nat} {v : Value} {xs : List Value} (h : w.ownsRow base e size v n xs) : ∃ A c, v = .slice A n c := by
  rcases h.2 with ⟨h2, h3⟩ | ⟨g, c, cur, e1, _⟩
  · exact ⟨none, 0, by rw [h2, h3]⟩
  · exact ⟨_, _, e1⟩
set_option maxRecDepth 100000 in
set_option maxHeartbeats 4000000 in
theorem ralloc_no (w : World) (rm : Nat) (n : Int) (hn : n < 0 ∨ 16777216 < n) :
    Calls Try.prog 10 #[.pointer (some ⟨rm, 0, none⟩), .int .i64 n] w fun e w' => e = .returned (.int .i64 0) ∧ w = w' := by
  by_cases c : n < 0
  · have d : decide (n < 0) = true := by simpa using c
    go_enter Try.func10, Try.ntmps10
    go_wp2
    go_returns
    exact ⟨rfl, rfl⟩
  · have d : decide (n < 0) = false := by simpa using c
    have d2 : decide (16777216 < n) = true := by simp; omega
    go_enter Try.func10, Try.ntmps10
    go_wp2
    go_returns
    exact ⟨rfl, rfl⟩

set_option maxRecDepth 100000 in
set_option maxHeartbeats 16000000 in
theorem ralloc_yes {w : World} {base rm cap : Nat} {s : Value} {R : List RB} (h : RefS w base rm s cap R) (n : Nat) (hn : n ≤ 16777216) (hcap : cap + 1 < 288230376151711744) (hlen : (R.length + 1) * 64 ≤ 140737488355328) :
    Calls Try.prog 10 #[.pointer (some ⟨rm, 0, none⟩), .int .i64 n] w fun e w' => e = .returned (.int .i64 ((R.length : Int) + 1)) ∧ ∃ s' g b p, RefLeft w w' base rm s R (cap + 1) s' (R ++ [newRB g b p n]) := by
  obtain ⟨A, c, hs⟩ := h.form
  have t0 : w.cell? ⟨rm, 0, none⟩ = some s := by rw [Lib.cell_of_heap h.top]; rfl
  have f0 : w.frozen? ⟨rm, 0, none⟩ = false := Lib.frozen_of_heap h.top 0
  obtain ⟨i8, hi8, h81, h82, h83⟩ := info_parts u8_info
  obtain ⟨ib, hib, hb1, hb2, hb3⟩ := info_parts block_info
  have hms := fun W : World => run_makeSlice (P := Try.prog) W 52 5 i8 (.int .u8 0) Try.underlying52 hi8 h81 .i64 .i64 n n (by omega) (Int.le_refl _) (by rw [h82]; omega) (by rw [h83]; omega) (by omega)
  rw [h82] at hms
  simp only [Int.toNat_natCast, Nat.mul_one] at hms
  have hmm := @run_makeMap Try.prog
  have HH := Lib.hid h
  have HI := Lib.hid (And.intro hib (And.intro hb1 (And.intro hb2 hb3)))
  have d : decide ((n : Int) < 0) = false := by simp
  have d2 : decide (16777216 < (n : Int)) = false := by simp; omega
  have hrm := lt_of_block h.top
  have hbs : base ≤ w.heap.size := Nat.le_of_lt (Nat.lt_of_le_of_lt h.lo hrm)
  have HSF := Lib.hid hs
  clear hs h hi8 h81 h82 h83 hib hb1 hb2 hb3
  go_enter Try.func10, Try.ntmps10
  go_upto_region 3 with (fail)
  have hc1 := fun o1 => ((show Below w.heap.size w (w.alloc o1) by (repeat' (first | (with_reducible exact Below.refl _ _) | (with_reducible assumption) | (with_reducible refine Below.setCell ?_ ?_ _) | (with_reducible refine Below.alloc ?_ ?_ _) | (with_reducible refine Below.drew ?_) | (with_reducible refine below_drewN ?_ _) | (with_reducible refine below_next ?_ (by with_reducible assumption)) | omega | (dsimp only; omega) | (simp only [World.size_alloc, World.size_setCell, World.size_drew, World.heap_drewN]; omega)))).cell (p := ⟨rm, 0, none⟩) hrm).trans t0
  have hc2 := fun o1 o2 => ((show Below w.heap.size w ((w.alloc o1).alloc o2) by (repeat' (first | (with_reducible exact Below.refl _ _) | (with_reducible assumption) | (with_reducible refine Below.setCell ?_ ?_ _) | (with_reducible refine Below.alloc ?_ ?_ _) | (with_reducible refine Below.drew ?_) | (with_reducible refine below_drewN ?_ _) | (with_reducible refine below_next ?_ (by with_reducible assumption)) | omega | (dsimp only; omega) | (simp only [World.size_alloc, World.size_setCell, World.size_drew, World.heap_drewN]; omega)))).cell (p := ⟨rm, 0, none⟩) hrm).trans t0
  have hc3 := fun o1 o2 o3 => ((show Below w.heap.size w (((w.alloc o1).alloc o2).alloc o3) by (repeat' (first | (with_reducible exact Below.refl _ _) | (with_reducible assumption) | (with_reducible refine Below.setCell ?_ ?_ _) | (with_reducible refine Below.alloc ?_ ?_ _) | (with_reducible refine Below.drew ?_) | (with_reducible refine below_drewN ?_ _) | (with_reducible refine below_next ?_ (by with_reducible assumption)) | omega | (dsimp only; omega) | (simp only [World.size_alloc, World.size_setCell, World.size_drew, World.heap_drewN]; omega)))).cell (p := ⟨rm, 0, none⟩) hrm).trans t0
  refine wp_region_held_drew (S := fun _ => True) (by kernel_rfl) trivial (fun hHeld => ?_)
  refine takeAt' (i := 0) (some 11) (v := ?_) rfl rfl (by kernel_rfl) (by kernel_rfl) (by kernel_rfl) (fun _ _ _ h => h) (Or.inl ⟨by rfl, ?_⟩) (by assumption) ?_
  rotate_left
  (focus (intro w hSw; (try dsimp only at hSw); go_simp; (try with_reducible rfl)))
  (try simp only [Act.put, List.setIfInBounds_toArray, List.set_cons_zero, List.set_cons_succ])
  refine takeAt' (i := 1) (some 12) (v := ?_) rfl rfl (by kernel_rfl) (by kernel_rfl) (by kernel_rfl) (fun _ _ _ h => h) (Or.inl ⟨by rfl, ?_⟩) (by assumption) ?_
  rotate_left
  (focus (intro w hSw; (try dsimp only at hSw); go_simp; (try with_reducible rfl)))
  (try simp only [Act.put, List.setIfInBounds_toArray, List.set_cons_zero, List.set_cons_succ])
  refine takeAt' (i := 2) (some 13) (v := ?_) rfl rfl (by kernel_rfl) (by kernel_rfl) (by kernel_rfl) (fun _ _ _ h => h) (Or.inl ⟨by rfl, ?_⟩) (by assumption) ?_
  rotate_left
  (focus (intro w hSw; (try dsimp only at hSw); go_simp; (try with_reducible rfl)))
  (try simp only [Act.put, List.setIfInBounds_toArray, List.set_cons_zero, List.set_cons_succ])
  refine takeAt' (i := 3) (some 14) (v := ?_) rfl rfl (by kernel_rfl) (by kernel_rfl) (by kernel_rfl) (fun _ _ _ h => h) (Or.inl ⟨by rfl, ?_⟩) (by assumption) ?_
  rotate_left
  (focus (intro w hSw; (try dsimp only at hSw); go_simp; (try with_reducible rfl)))
  (try simp only [Act.put, List.setIfInBounds_toArray, List.set_cons_zero, List.set_cons_succ])
  refine takeAt' (i := 5) (some 16) (v := ?_) rfl rfl (by kernel_rfl) (by kernel_rfl) (by kernel_rfl) (fun _ _ _ h => h) (Or.inl ⟨by rfl, ?_⟩) (by assumption) ?_
  rotate_left
  (focus (intro w hSw; (try dsimp only at hSw); go_simp; (try with_reducible rfl)))
  (try simp only [Act.put, List.setIfInBounds_toArray, List.set_cons_zero, List.set_cons_succ])
  refine takeAt' (i := 7) (some 18) (v := ?_) rfl rfl (by kernel_rfl) (by kernel_rfl) (by kernel_rfl) (fun _ _ _ h => h) (Or.inl ⟨by rfl, ?_⟩) (by assumption) ?_
  rotate_left
  (focus (intro w hSw; (try dsimp only at hSw); go_simp; (try with_reducible rfl)))
  (try simp only [Act.put, List.setIfInBounds_toArray, List.set_cons_zero, List.set_cons_succ])
  refine wpAnyH_ready (rs := [4, 6, 8, 9]) (by kernel_rfl) (by simp) ?_
  refine (AllReadyH.cons rfl (fun K hK => ?_) (AllReadyH.cons rfl (fun K hK => ?_) (AllReadyH.cons rfl (fun K hK => ?_) (AllReadyH.cons rfl (fun K hK => ?_) AllReadyH.nil))))
  · skip
    go_simp
    refine hK.out _ _ trivial (fun hHeld => ?_)
    (try simp only [Act.put, List.setIfInBounds_toArray, List.set_cons_zero, List.set_cons_succ])
    refine wpAnyH_ready (rs := [6, 8, 9]) (by kernel_rfl) (by simp) ?_
    refine (AllReadyH.cons rfl (fun K hK => ?_) (AllReadyH.cons rfl (fun K hK => ?_) (AllReadyH.cons rfl (fun K hK => ?_) AllReadyH.nil)))
    · skip
      go_simp
      refine hK.out _ _ trivial (fun hHeld => ?_)
      (try simp only [Act.put, List.setIfInBounds_toArray, List.set_cons_zero, List.set_cons_succ])
      refine wpAnyH_ready (rs := [8, 9]) (by kernel_rfl) (by simp) ?_
      refine (AllReadyH.cons rfl (fun K hK => ?_) (AllReadyH.cons rfl (fun K hK => ?_) AllReadyH.nil))
      · skip
        go_simp
        refine hK.out _ _ trivial (fun hHeld => ?_)
        (try simp only [Act.put, List.setIfInBounds_toArray, List.set_cons_zero, List.set_cons_succ])
        refine wpAnyH_ready (rs := [9]) (by kernel_rfl) (by simp) ?_
        refine (AllReadyH.cons rfl (fun K hK => ?_) AllReadyH.nil)
        · skip
          go_simp
          refine hK.out _ _ trivial (fun hHeld => ?_)
          (try simp only [Act.put, List.setIfInBounds_toArray, List.set_cons_zero, List.set_cons_succ])
          obtain ⟨W3, hW3⟩ : ∃ W3, W3 = ((w.alloc (.cells (madeCells #[.int .u8 0] n) 5)).alloc (.cells (madeCells #[.int .u8 0] n) 5)).alloc (.map #[] 0) := ⟨_, rfl⟩
          have hb3 : Below w.heap.size w W3 := by rw [hW3]; (repeat' (first | (with_reducible exact Below.refl _ _) | (with_reducible assumption) | (with_reducible refine Below.setCell ?_ ?_ _) | (with_reducible refine Below.alloc ?_ ?_ _) | (with_reducible refine Below.drew ?_) | (with_reducible refine below_drewN ?_ _) | (with_reducible refine below_next ?_ (by with_reducible assumption)) | omega | (dsimp only; omega) | (simp only [World.size_alloc, World.size_setCell, World.size_drew, World.heap_drewN]; omega)))
          have ha3 := alloc3 w (.cells (madeCells #[.int .u8 0] n) 5) (.cells (madeCells #[.int .u8 0] n) 5) (.map #[] 0)
          rw [← hW3] at ha3 ⊢
          have HA := Lib.hid ha3
          have HZ3 := Lib.hid ha3.2.2.2
          clear ha3 hW3
          have u3 : W3.cell? ⟨rm, 0, none⟩ = some s := (hb3.cell (p := ⟨rm, 0, none⟩) hrm).trans t0
          refine takeAt' (i := 10) (some 21) (v := ?_) rfl rfl (by kernel_rfl) (by kernel_rfl) (by kernel_rfl) (fun _ _ _ h => h) (Or.inl ⟨by rfl, ?_⟩) (by assumption) ?_
          rotate_left
          (focus (intro w hSw; (try dsimp only at hSw); go_simp; (try with_reducible rfl)))
          (try simp only [Act.put, List.setIfInBounds_toArray, List.set_cons_zero, List.set_cons_succ])
          refine wpAnyH_ready (rs := [11]) (by kernel_rfl) (by simp) ?_
          refine (AllReadyH.cons rfl (fun K hK => ?_) AllReadyH.nil)
          · skip
            go_simp
            refine hK.out _ _ trivial (fun hHeld => ?_)
            (try simp only [Act.put, List.setIfInBounds_toArray, List.set_cons_zero, List.set_cons_succ])
            obtain ⟨W4, hW4⟩ : ∃ W4, W4 = W3.alloc (.cells #[.slice (some ⟨w.heap.size, 0, none⟩) n n, .slice (some ⟨(w.heap.size + 1), 0, none⟩) n n, .map (some (w.heap.size + 1 + 1)), .bool true, .bool false] 67) := ⟨_, rfl⟩
            have hb4 : Below w.heap.size w W4 := by have hz3 := HZ3.out; rw [hW4]; (repeat' (first | (with_reducible exact Below.refl _ _) | (with_reducible assumption) | (with_reducible refine Below.setCell ?_ ?_ _) | (with_reducible refine Below.alloc ?_ ?_ _) | (with_reducible refine Below.drew ?_) | (with_reducible refine below_drewN ?_ _) | (with_reducible refine below_next ?_ (by with_reducible assumption)) | omega | (dsimp only; omega) | (simp only [World.size_alloc, World.size_setCell, World.size_drew, World.heap_drewN]; omega)))
            have hb34 : Below W3.heap.size W3 W4 := by rw [hW4]; (repeat' (first | (with_reducible exact Below.refl _ _) | (with_reducible assumption) | (with_reducible refine Below.setCell ?_ ?_ _) | (with_reducible refine Below.alloc ?_ ?_ _) | (with_reducible refine Below.drew ?_) | (with_reducible refine below_drewN ?_ _) | (with_reducible refine below_next ?_ (by with_reducible assumption)) | omega | (dsimp only; omega) | (simp only [World.size_alloc, World.size_setCell, World.size_drew, World.heap_drewN]; omega)))
            have hz4 : W4.heap.size = w.heap.size + 3 + 1 := by rw [hW4, World.size_alloc, HZ3.out]
            have hblk := blk_at W3 n w.heap.size (w.heap.size + 1) (w.heap.size + 1 + 1)
            rw [← hW4] at hblk ⊢
            clear hW4
            have u4 : W4.cell? ⟨rm, 0, none⟩ = some s := (hb4.cell (p := ⟨rm, 0, none⟩) hrm).trans t0
            refine wpAnyH_ready (rs := [12]) (by kernel_rfl) (by simp) ?_
            refine AllReadyH.cons rfl (fun K hK => ?_) AllReadyH.nil
            refine step_append_one (w := W4.drew) base rfl (.tmp 15) (.tmp 22) 27 rfl 67 ib _ 5 64 Try.underlying27 HI.out.1 HI.out.2.1 HI.out.2.2.1 HI.out.2.2.2 rfl (by decide) s R.length (R.flatMap RB.cells) rfl (row_keep HH.out.row (fun i hi => hb4.block i (HH.out.row.lt i hi).2)).drew ⟨W3.heap.size, 0, none⟩ 1 1 (newRB w.heap.size (w.heap.size + 1) (w.heap.size + 1 + 1) n).cells rfl rfl hblk (newRB_one _ _ _ _) (by unfold maxLen; omega) hlen (by show base ≤ W4.heap.size; omega) ?_
            intro v' W5 hrow hgr hnew
            have hz3 := HZ3.out
            have e7 : W4.heap[w.heap.size]? = some (.cells ((List.replicate n (0 : Int)).map (Value.int .u8)).toArray 5 (0, 0)) := by rw [hb34.block w.heap.size (by omega), ← made8]; exact HA.out.1
            have e8 : W4.heap[(w.heap.size + 1)]? = some (.cells ((List.replicate n (0 : Int)).map (Value.int .u8)).toArray 5 (0, 0)) := by rw [hb34.block (w.heap.size + 1) (by omega), ← made8]; exact HA.out.2.1
            have e9 : W4.heap[(w.heap.size + 1 + 1)]? = some (.map #[] 0) := by rw [hb34.block (w.heap.size + 1 + 1) (by omega)]; exact HA.out.2.2.1
            have hgw := Lib.hid (HH.out.grow (W4 := W4.drew) (W5 := W5) (v' := v') hcap n hn w.heap.size (w.heap.size + 1) (w.heap.size + 1 + 1) hb4.drew e7 e8 e9 ⟨by omega, by omega, by omega, by omega⟩ hrow hgr hnew)
            obtain ⟨A', c', hv'⟩ := row_form hrow
            have hcr := (hgr.block rm (by show rm < W4.heap.size; omega) HH.out.rm_ne).trans (hb4.block rm hrm)
            have u5 : W5.cell? ⟨rm, 0, none⟩ = some s := (World.cell?_of_block (a := ⟨rm, 0, none⟩) hcr).trans t0
            have v5 : W5.frozen? ⟨rm, 0, none⟩ = false := (World.frozen?_of_block (a := ⟨rm, 0, none⟩) hcr).trans f0
            have hA3 := cell_set_if
            subst hv'
            clear hz3 hrow hgr hnew e7 e8 e9 hblk hcr hms hmm hc1 hc2 hc3
            refine hK.out _ _ trivial (fun hHeld => ?_)
            (try simp only [Act.put, List.setIfInBounds_toArray, List.set_cons_zero, List.set_cons_succ])
            refine takeAt' (i := 13) (some 24) (v := ?_) rfl rfl (by kernel_rfl) (by kernel_rfl) (by kernel_rfl) (fun _ _ _ h => h) (Or.inl ⟨by rfl, ?_⟩) (by assumption) ?_
            rotate_left
            (focus (intro w hSw; (try dsimp only at hSw); go_simp; (try with_reducible rfl)))
            (try simp only [Act.put, List.setIfInBounds_toArray, List.set_cons_zero, List.set_cons_succ])
            refine takeAt' (i := 14) (some 25) (v := ?_) rfl rfl (by kernel_rfl) (by kernel_rfl) (by kernel_rfl) (fun _ _ _ h => h) (Or.inl ⟨by rfl, ?_⟩) (by assumption) ?_
            rotate_left
            (focus (intro w hSw; (try dsimp only at hSw); go_simp; (try with_reducible rfl)))
            (try simp only [Act.put, List.setIfInBounds_toArray, List.set_cons_zero, List.set_cons_succ])
            refine wpAnyH_ready (rs := [15]) (by kernel_rfl) (by simp) ?_
            refine AllReadyH.cons rfl (fun K hK => ?_) AllReadyH.nil
            go_simp
            refine hK.out _ _ trivial (fun hHeld => ?_)
            (try simp only [Act.put, List.setIfInBounds_toArray, List.set_cons_zero, List.set_cons_succ])
            refine wpAnyH_done (by kernel_rfl) ?_ _
            go_wp2
            go_returns
            exact ⟨rfl, _, w.heap.size, (w.heap.size + 1), (w.heap.size + 1 + 1), hgw.out⟩
      · skip
        go_simp
        refine hK.out _ _ trivial (fun hHeld => ?_)
        (try simp only [Act.put, List.setIfInBounds_toArray, List.set_cons_zero, List.set_cons_succ])
        refine wpAnyH_ready (rs := [8]) (by kernel_rfl) (by simp) ?_
        refine (AllReadyH.cons rfl (fun K hK => ?_) AllReadyH.nil)
        · skip
          go_simp
          refine hK.out _ _ trivial (fun hHeld => ?_)
          (try simp only [Act.put, List.setIfInBounds_toArray, List.set_cons_zero, List.set_cons_succ])
          obtain ⟨W3, hW3⟩ : ∃ W3, W3 = ((w.alloc (.cells (madeCells #[.int .u8 0] n) 5)).alloc (.map #[] 0)).alloc (.cells (madeCells #[.int .u8 0] n) 5) := ⟨_, rfl⟩
          have hb3 : Below w.heap.size w W3 := by rw [hW3]; (repeat' (first | (with_reducible exact Below.refl _ _) | (with_reducible assumption) | (with_reducible refine Below.setCell ?_ ?_ _) | (with_reducible refine Below.alloc ?_ ?_ _) | (with_reducible refine Below.drew ?_) | (with_reducible refine below_drewN ?_ _) | (with_reducible refine below_next ?_ (by with_reducible assumption)) | omega | (dsimp only; omega) | (simp only [World.size_alloc, World.size_setCell, World.size_drew, World.heap_drewN]; omega)))
          have ha3 := alloc3 w (.cells (madeCells #[.int .u8 0] n) 5) (.map #[] 0) (.cells (madeCells #[.int .u8 0] n) 5)
          rw [← hW3] at ha3 ⊢
          have HA := Lib.hid ha3
          have HZ3 := Lib.hid ha3.2.2.2
          clear ha3 hW3
          have u3 : W3.cell? ⟨rm, 0, none⟩ = some s := (hb3.cell (p := ⟨rm, 0, none⟩) hrm).trans t0
          refine takeAt' (i := 10) (some 21) (v := ?_) rfl rfl (by kernel_rfl) (by kernel_rfl) (by kernel_rfl) (fun _ _ _ h => h) (Or.inl ⟨by rfl, ?_⟩) (by assumption) ?_
          rotate_left
          (focus (intro w hSw; (try dsimp only at hSw); go_simp; (try with_reducible rfl)))
          (try simp only [Act.put, List.setIfInBounds_toArray, List.set_cons_zero, List.set_cons_succ])
          refine wpAnyH_ready (rs := [11]) (by kernel_rfl) (by simp) ?_
          refine (AllReadyH.cons rfl (fun K hK => ?_) AllReadyH.nil)
          · skip
            go_simp
            refine hK.out _ _ trivial (fun hHeld => ?_)
            (try simp only [Act.put, List.setIfInBounds_toArray, List.set_cons_zero, List.set_cons_succ])
            obtain ⟨W4, hW4⟩ : ∃ W4, W4 = W3.alloc (.cells #[.slice (some ⟨w.heap.size, 0, none⟩) n n, .slice (some ⟨(w.heap.size + 1 + 1), 0, none⟩) n n, .map (some (w.heap.size + 1)), .bool true, .bool false] 67) := ⟨_, rfl⟩
            have hb4 : Below w.heap.size w W4 := by have hz3 := HZ3.out; rw [hW4]; (repeat' (first | (with_reducible exact Below.refl _ _) | (with_reducible assumption) | (with_reducible refine Below.setCell ?_ ?_ _) | (with_reducible refine Below.alloc ?_ ?_ _) | (with_reducible refine Below.drew ?_) | (with_reducible refine below_drewN ?_ _) | (with_reducible refine below_next ?_ (by with_reducible assumption)) | omega | (dsimp only; omega) | (simp only [World.size_alloc, World.size_setCell, World.size_drew, World.heap_drewN]; omega)))
            have hb34 : Below W3.heap.size W3 W4 := by rw [hW4]; (repeat' (first | (with_reducible exact Below.refl _ _) | (with_reducible assumption) | (with_reducible refine Below.setCell ?_ ?_ _) | (with_reducible refine Below.alloc ?_ ?_ _) | (with_reducible refine Below.drew ?_) | (with_reducible refine below_drewN ?_ _) | (with_reducible refine below_next ?_ (by with_reducible assumption)) | omega | (dsimp only; omega) | (simp only [World.size_alloc, World.size_setCell, World.size_drew, World.heap_drewN]; omega)))
            have hz4 : W4.heap.size = w.heap.size + 3 + 1 := by rw [hW4, World.size_alloc, HZ3.out]
            have hblk := blk_at W3 n w.heap.size (w.heap.size + 1 + 1) (w.heap.size + 1)
            rw [← hW4] at hblk ⊢
            clear hW4
            have u4 : W4.cell? ⟨rm, 0, none⟩ = some s := (hb4.cell (p := ⟨rm, 0, none⟩) hrm).trans t0
            refine wpAnyH_ready (rs := [12]) (by kernel_rfl) (by simp) ?_
            refine AllReadyH.cons rfl (fun K hK => ?_) AllReadyH.nil
            refine step_append_one (w := W4.drew) base rfl (.tmp 15) (.tmp 22) 27 rfl 67 ib _ 5 64 Try.underlying27 HI.out.1 HI.out.2.1 HI.out.2.2.1 HI.out.2.2.2 rfl (by decide) s R.length (R.flatMap RB.cells) rfl (row_keep HH.out.row (fun i hi => hb4.block i (HH.out.row.lt i hi).2)).drew ⟨W3.heap.size, 0, none⟩ 1 1 (newRB w.heap.size (w.heap.size + 1 + 1) (w.heap.size + 1) n).cells rfl rfl hblk (newRB_one _ _ _ _) (by unfold maxLen; omega) hlen (by show base ≤ W4.heap.size; omega) ?_
            intro v' W5 hrow hgr hnew
            have hz3 := HZ3.out
            have e7 : W4.heap[w.heap.size]? = some (.cells ((List.replicate n (0 : Int)).map (Value.int .u8)).toArray 5 (0, 0)) := by rw [hb34.block w.heap.size (by omega), ← made8]; exact HA.out.1
            have e8 : W4.heap[(w.heap.size + 1 + 1)]? = some (.cells ((List.replicate n (0 : Int)).map (Value.int .u8)).toArray 5 (0, 0)) := by rw [hb34.block (w.heap.size + 1 + 1) (by omega), ← made8]; exact HA.out.2.2.1
            have e9 : W4.heap[(w.heap.size + 1)]? = some (.map #[] 0) := by rw [hb34.block (w.heap.size + 1) (by omega)]; exact HA.out.2.1
            have hgw := Lib.hid (HH.out.grow (W4 := W4.drew) (W5 := W5) (v' := v') hcap n hn w.heap.size (w.heap.size + 1 + 1) (w.heap.size + 1) hb4.drew e7 e8 e9 ⟨by omega, by omega, by omega, by omega⟩ hrow hgr hnew)
            obtain ⟨A', c', hv'⟩ := row_form hrow
            have hcr := (hgr.block rm (by show rm < W4.heap.size; omega) HH.out.rm_ne).trans (hb4.block rm hrm)
            have u5 : W5.cell? ⟨rm, 0, none⟩ = some s := (World.cell?_of_block (a := ⟨rm, 0, none⟩) hcr).trans t0
            have v5 : W5.frozen? ⟨rm, 0, none⟩ = false := (World.frozen?_of_block (a := ⟨rm, 0, none⟩) hcr).trans f0
            have hA3 := cell_set_if
            subst hv'
            clear hz3 hrow hgr hnew e7 e8 e9 hblk hcr hms hmm hc1 hc2 hc3
            refine hK.out _ _ trivial (fun hHeld => ?_)
            (try simp only [Act.put, List.setIfInBounds_toArray, List.set_cons_zero, List.set_cons_succ])
            refine takeAt' (i := 13) (some 24) (v := ?_) rfl rfl (by kernel_rfl) (by kernel_rfl) (by kernel_rfl) (fun _ _ _ h => h) (Or.inl ⟨by rfl, ?_⟩) (by assumption) ?_
            rotate_left
            (focus (intro w hSw; (try dsimp only at hSw); go_simp; (try with_reducible rfl)))
            (try simp only [Act.put, List.setIfInBounds_toArray, List.set_cons_zero, List.set_cons_succ])
            refine takeAt' (i := 14) (some 25) (v := ?_) rfl rfl (by kernel_rfl) (by kernel_rfl) (by kernel_rfl) (fun _ _ _ h => h) (Or.inl ⟨by rfl, ?_⟩) (by assumption) ?_
            rotate_left
            (focus (intro w hSw; (try dsimp only at hSw); go_simp; (try with_reducible rfl)))
            (try simp only [Act.put, List.setIfInBounds_toArray, List.set_cons_zero, List.set_cons_succ])
            refine wpAnyH_ready (rs := [15]) (by kernel_rfl) (by simp) ?_
            refine AllReadyH.cons rfl (fun K hK => ?_) AllReadyH.nil
            go_simp
            refine hK.out _ _ trivial (fun hHeld => ?_)
            (try simp only [Act.put, List.setIfInBounds_toArray, List.set_cons_zero, List.set_cons_succ])
            refine wpAnyH_done (by kernel_rfl) ?_ _
            go_wp2
            go_returns
            exact ⟨rfl, _, w.heap.size, (w.heap.size + 1 + 1), (w.heap.size + 1), hgw.out⟩
    · skip
      go_simp
      refine hK.out _ _ trivial (fun hHeld => ?_)
      (try simp only [Act.put, List.setIfInBounds_toArray, List.set_cons_zero, List.set_cons_succ])
      refine wpAnyH_ready (rs := [6, 9]) (by kernel_rfl) (by simp) ?_
      refine (AllReadyH.cons rfl (fun K hK => ?_) (AllReadyH.cons rfl (fun K hK => ?_) AllReadyH.nil))
      · skip
        go_simp
        refine hK.out _ _ trivial (fun hHeld => ?_)
        (try simp only [Act.put, List.setIfInBounds_toArray, List.set_cons_zero, List.set_cons_succ])
        refine wpAnyH_ready (rs := [9]) (by kernel_rfl) (by simp) ?_
        refine (AllReadyH.cons rfl (fun K hK => ?_) AllReadyH.nil)
        · skip
          go_simp
          refine hK.out _ _ trivial (fun hHeld => ?_)
          (try simp only [Act.put, List.setIfInBounds_toArray, List.set_cons_zero, List.set_cons_succ])
          obtain ⟨W3, hW3⟩ : ∃ W3, W3 = ((w.alloc (.cells (madeCells #[.int .u8 0] n) 5)).alloc (.cells (madeCells #[.int .u8 0] n) 5)).alloc (.map #[] 0) := ⟨_, rfl⟩
          have hb3 : Below w.heap.size w W3 := by rw [hW3]; (repeat' (first | (with_reducible exact Below.refl _ _) | (with_reducible assumption) | (with_reducible refine Below.setCell ?_ ?_ _) | (with_reducible refine Below.alloc ?_ ?_ _) | (with_reducible refine Below.drew ?_) | (with_reducible refine below_drewN ?_ _) | (with_reducible refine below_next ?_ (by with_reducible assumption)) | omega | (dsimp only; omega) | (simp only [World.size_alloc, World.size_setCell, World.size_drew, World.heap_drewN]; omega)))
          have ha3 := alloc3 w (.cells (madeCells #[.int .u8 0] n) 5) (.cells (madeCells #[.int .u8 0] n) 5) (.map #[] 0)
          rw [← hW3] at ha3 ⊢
          have HA := Lib.hid ha3
          have HZ3 := Lib.hid ha3.2.2.2
          clear ha3 hW3
          have u3 : W3.cell? ⟨rm, 0, none⟩ = some s := (hb3.cell (p := ⟨rm, 0, none⟩) hrm).trans t0
          refine takeAt' (i := 10) (some 21) (v := ?_) rfl rfl (by kernel_rfl) (by kernel_rfl) (by kernel_rfl) (fun _ _ _ h => h) (Or.inl ⟨by rfl, ?_⟩) (by assumption) ?_
          rotate_left
          (focus (intro w hSw; (try dsimp only at hSw); go_simp; (try with_reducible rfl)))
          (try simp only [Act.put, List.setIfInBounds_toArray, List.set_cons_zero, List.set_cons_succ])
          refine wpAnyH_ready (rs := [11]) (by kernel_rfl) (by simp) ?_
          refine (AllReadyH.cons rfl (fun K hK => ?_) AllReadyH.nil)
          · skip
            go_simp
            refine hK.out _ _ trivial (fun hHeld => ?_)
            (try simp only [Act.put, List.setIfInBounds_toArray, List.set_cons_zero, List.set_cons_succ])
            obtain ⟨W4, hW4⟩ : ∃ W4, W4 = W3.alloc (.cells #[.slice (some ⟨(w.heap.size + 1), 0, none⟩) n n, .slice (some ⟨w.heap.size, 0, none⟩) n n, .map (some (w.heap.size + 1 + 1)), .bool true, .bool false] 67) := ⟨_, rfl⟩
            have hb4 : Below w.heap.size w W4 := by have hz3 := HZ3.out; rw [hW4]; (repeat' (first | (with_reducible exact Below.refl _ _) | (with_reducible assumption) | (with_reducible refine Below.setCell ?_ ?_ _) | (with_reducible refine Below.alloc ?_ ?_ _) | (with_reducible refine Below.drew ?_) | (with_reducible refine below_drewN ?_ _) | (with_reducible refine below_next ?_ (by with_reducible assumption)) | omega | (dsimp only; omega) | (simp only [World.size_alloc, World.size_setCell, World.size_drew, World.heap_drewN]; omega)))
            have hb34 : Below W3.heap.size W3 W4 := by rw [hW4]; (repeat' (first | (with_reducible exact Below.refl _ _) | (with_reducible assumption) | (with_reducible refine Below.setCell ?_ ?_ _) | (with_reducible refine Below.alloc ?_ ?_ _) | (with_reducible refine Below.drew ?_) | (with_reducible refine below_drewN ?_ _) | (with_reducible refine below_next ?_ (by with_reducible assumption)) | omega | (dsimp only; omega) | (simp only [World.size_alloc, World.size_setCell, World.size_drew, World.heap_drewN]; omega)))
            have hz4 : W4.heap.size = w.heap.size + 3 + 1 := by rw [hW4, World.size_alloc, HZ3.out]
            have hblk := blk_at W3 n (w.heap.size + 1) w.heap.size (w.heap.size + 1 + 1)
            rw [← hW4] at hblk ⊢
            clear hW4
            have u4 : W4.cell? ⟨rm, 0, none⟩ = some s := (hb4.cell (p := ⟨rm, 0, none⟩) hrm).trans t0
            refine wpAnyH_ready (rs := [12]) (by kernel_rfl) (by simp) ?_
            refine AllReadyH.cons rfl (fun K hK => ?_) AllReadyH.nil
            refine step_append_one (w := W4.drew) base rfl (.tmp 15) (.tmp 22) 27 rfl 67 ib _ 5 64 Try.underlying27 HI.out.1 HI.out.2.1 HI.out.2.2.1 HI.out.2.2.2 rfl (by decide) s R.length (R.flatMap RB.cells) rfl (row_keep HH.out.row (fun i hi => hb4.block i (HH.out.row.lt i hi).2)).drew ⟨W3.heap.size, 0, none⟩ 1 1 (newRB (w.heap.size + 1) w.heap.size (w.heap.size + 1 + 1) n).cells rfl rfl hblk (newRB_one _ _ _ _) (by unfold maxLen; omega) hlen (by show base ≤ W4.heap.size; omega) ?_
            intro v' W5 hrow hgr hnew
            have hz3 := HZ3.out
            have e7 : W4.heap[(w.heap.size + 1)]? = some (.cells ((List.replicate n (0 : Int)).map (Value.int .u8)).toArray 5 (0, 0)) := by rw [hb34.block (w.heap.size + 1) (by omega), ← made8]; exact HA.out.2.1
            have e8 : W4.heap[w.heap.size]? = some (.cells ((List.replicate n (0 : Int)).map (Value.int .u8)).toArray 5 (0, 0)) := by rw [hb34.block w.heap.size (by omega), ← made8]; exact HA.out.1
            have e9 : W4.heap[(w.heap.size + 1 + 1)]? = some (.map #[] 0) := by rw [hb34.block (w.heap.size + 1 + 1) (by omega)]; exact HA.out.2.2.1
            have hgw := Lib.hid (HH.out.grow (W4 := W4.drew) (W5 := W5) (v' := v') hcap n hn (w.heap.size + 1) w.heap.size (w.heap.size + 1 + 1) hb4.drew e7 e8 e9 ⟨by omega, by omega, by omega, by omega⟩ hrow hgr hnew)
            obtain ⟨A', c', hv'⟩ := row_form hrow
            have hcr := (hgr.block rm (by show rm < W4.heap.size; omega) HH.out.rm_ne).trans (hb4.block rm hrm)
            have u5 : W5.cell? ⟨rm, 0, none⟩ = some s := (World.cell?_of_block (a := ⟨rm, 0, none⟩) hcr).trans t0
            have v5 : W5.frozen? ⟨rm, 0, none⟩ = false := (World.frozen?_of_block (a := ⟨rm, 0, none⟩) hcr).trans f0
            have hA3 := cell_set_if
            subst hv'
            clear hz3 hrow hgr hnew e7 e8 e9 hblk hcr hms hmm hc1 hc2 hc3
            refine hK.out _ _ trivial (fun hHeld => ?_)
            (try simp only [Act.put, List.setIfInBounds_toArray, List.set_cons_zero, List.set_cons_succ])
            refine takeAt' (i := 13) (some 24) (v := ?_) rfl rfl (by kernel_rfl) (by kernel_rfl) (by kernel_rfl) (fun _ _ _ h => h) (Or.inl ⟨by rfl, ?_⟩) (by assumption) ?_
            rotate_left
            (focus (intro w hSw; (try dsimp only at hSw); go_simp; (try with_reducible rfl)))
            (try simp only [Act.put, List.setIfInBounds_toArray, List.set_cons_zero, List.set_cons_succ])
            refine takeAt' (i := 14) (some 25) (v := ?_) rfl rfl (by kernel_rfl) (by kernel_rfl) (by kernel_rfl) (fun _ _ _ h => h) (Or.inl ⟨by rfl, ?_⟩) (by assumption) ?_
            rotate_left
            (focus (intro w hSw; (try dsimp only at hSw); go_simp; (try with_reducible rfl)))
            (try simp only [Act.put, List.setIfInBounds_toArray, List.set_cons_zero, List.set_cons_succ])
            refine wpAnyH_ready (rs := [15]) (by kernel_rfl) (by simp) ?_
            refine AllReadyH.cons rfl (fun K hK => ?_) AllReadyH.nil
            go_simp
            refine hK.out _ _ trivial (fun hHeld => ?_)
            (try simp only [Act.put, List.setIfInBounds_toArray, List.set_cons_zero, List.set_cons_succ])
            refine wpAnyH_done (by kernel_rfl) ?_ _
            go_wp2
            go_returns
            exact ⟨rfl, _, (w.heap.size + 1), w.heap.size, (w.heap.size + 1 + 1), hgw.out⟩
      · skip
        go_simp
        refine hK.out _ _ trivial (fun hHeld => ?_)
        (try simp only [Act.put, List.setIfInBounds_toArray, List.set_cons_zero, List.set_cons_succ])
        refine wpAnyH_ready (rs := [6]) (by kernel_rfl) (by simp) ?_
        refine (AllReadyH.cons rfl (fun K hK => ?_) AllReadyH.nil)
        · skip
          go_simp
          refine hK.out _ _ trivial (fun hHeld => ?_)
          (try simp only [Act.put, List.setIfInBounds_toArray, List.set_cons_zero, List.set_cons_succ])
          obtain ⟨W3, hW3⟩ : ∃ W3, W3 = ((w.alloc (.cells (madeCells #[.int .u8 0] n) 5)).alloc (.map #[] 0)).alloc (.cells (madeCells #[.int .u8 0] n) 5) := ⟨_, rfl⟩
          have hb3 : Below w.heap.size w W3 := by rw [hW3]; (repeat' (first | (with_reducible exact Below.refl _ _) | (with_reducible assumption) | (with_reducible refine Below.setCell ?_ ?_ _) | (with_reducible refine Below.alloc ?_ ?_ _) | (with_reducible refine Below.drew ?_) | (with_reducible refine below_drewN ?_ _) | (with_reducible refine below_next ?_ (by with_reducible assumption)) | omega | (dsimp only; omega) | (simp only [World.size_alloc, World.size_setCell, World.size_drew, World.heap_drewN]; omega)))
          have ha3 := alloc3 w (.cells (madeCells #[.int .u8 0] n) 5) (.map #[] 0) (.cells (madeCells #[.int .u8 0] n) 5)
          rw [← hW3] at ha3 ⊢
          have HA := Lib.hid ha3
          have HZ3 := Lib.hid ha3.2.2.2
          clear ha3 hW3
          have u3 : W3.cell? ⟨rm, 0, none⟩ = some s := (hb3.cell (p := ⟨rm, 0, none⟩) hrm).trans t0
          refine takeAt' (i := 10) (some 21) (v := ?_) rfl rfl (by kernel_rfl) (by kernel_rfl) (by kernel_rfl) (fun _ _ _ h => h) (Or.inl ⟨by rfl, ?_⟩) (by assumption) ?_
          rotate_left
          (focus (intro w hSw; (try dsimp only at hSw); go_simp; (try with_reducible rfl)))
          (try simp only [Act.put, List.setIfInBounds_toArray, List.set_cons_zero, List.set_cons_succ])
          refine wpAnyH_ready (rs := [11]) (by kernel_rfl) (by simp) ?_
          refine (AllReadyH.cons rfl (fun K hK => ?_) AllReadyH.nil)
          · skip
            go_simp
            refine hK.out _ _ trivial (fun hHeld => ?_)
            (try simp only [Act.put, List.setIfInBounds_toArray, List.set_cons_zero, List.set_cons_succ])
            obtain ⟨W4, hW4⟩ : ∃ W4, W4 = W3.alloc (.cells #[.slice (some ⟨(w.heap.size + 1 + 1), 0, none⟩) n n, .slice (some ⟨w.heap.size, 0, none⟩) n n, .map (some (w.heap.size + 1)), .bool true, .bool false] 67) := ⟨_, rfl⟩
            have hb4 : Below w.heap.size w W4 := by have hz3 := HZ3.out; rw [hW4]; (repeat' (first | (with_reducible exact Below.refl _ _) | (with_reducible assumption) | (with_reducible refine Below.setCell ?_ ?_ _) | (with_reducible refine Below.alloc ?_ ?_ _) | (with_reducible refine Below.drew ?_) | (with_reducible refine below_drewN ?_ _) | (with_reducible refine below_next ?_ (by with_reducible assumption)) | omega | (dsimp only; omega) | (simp only [World.size_alloc, World.size_setCell, World.size_drew, World.heap_drewN]; omega)))
            have hb34 : Below W3.heap.size W3 W4 := by rw [hW4]; (repeat' (first | (with_reducible exact Below.refl _ _) | (with_reducible assumption) | (with_reducible refine Below.setCell ?_ ?_ _) | (with_reducible refine Below.alloc ?_ ?_ _) | (with_reducible refine Below.drew ?_) | (with_reducible refine below_drewN ?_ _) | (with_reducible refine below_next ?_ (by with_reducible assumption)) | omega | (dsimp only; omega) | (simp only [World.size_alloc, World.size_setCell, World.size_drew, World.heap_drewN]; omega)))
            have hz4 : W4.heap.size = w.heap.size + 3 + 1 := by rw [hW4, World.size_alloc, HZ3.out]
            have hblk := blk_at W3 n (w.heap.size + 1 + 1) w.heap.size (w.heap.size + 1)
            rw [← hW4] at hblk ⊢
            clear hW4
            have u4 : W4.cell? ⟨rm, 0, none⟩ = some s := (hb4.cell (p := ⟨rm, 0, none⟩) hrm).trans t0
            refine wpAnyH_ready (rs := [12]) (by kernel_rfl) (by simp) ?_
            refine AllReadyH.cons rfl (fun K hK => ?_) AllReadyH.nil
            refine step_append_one (w := W4.drew) base rfl (.tmp 15) (.tmp 22) 27 rfl 67 ib _ 5 64 Try.underlying27 HI.out.1 HI.out.2.1 HI.out.2.2.1 HI.out.2.2.2 rfl (by decide) s R.length (R.flatMap RB.cells) rfl (row_keep HH.out.row (fun i hi => hb4.block i (HH.out.row.lt i hi).2)).drew ⟨W3.heap.size, 0, none⟩ 1 1 (newRB (w.heap.size + 1 + 1) w.heap.size (w.heap.size + 1) n).cells rfl rfl hblk (newRB_one _ _ _ _) (by unfold maxLen; omega) hlen (by show base ≤ W4.heap.size; omega) ?_
            intro v' W5 hrow hgr hnew
            have hz3 := HZ3.out
            have e7 : W4.heap[(w.heap.size + 1 + 1)]? = some (.cells ((List.replicate n (0 : Int)).map (Value.int .u8)).toArray 5 (0, 0)) := by rw [hb34.block (w.heap.size + 1 + 1) (by omega), ← made8]; exact HA.out.2.2.1
            have e8 : W4.heap[w.heap.size]? = some (.cells ((List.replicate n (0 : Int)).map (Value.int .u8)).toArray 5 (0, 0)) := by rw [hb34.block w.heap.size (by omega), ← made8]; exact HA.out.1
            have e9 : W4.heap[(w.heap.size + 1)]? = some (.map #[] 0) := by rw [hb34.block (w.heap.size + 1) (by omega)]; exact HA.out.2.1
            have hgw := Lib.hid (HH.out.grow (W4 := W4.drew) (W5 := W5) (v' := v') hcap n hn (w.heap.size + 1 + 1) w.heap.size (w.heap.size + 1) hb4.drew e7 e8 e9 ⟨by omega, by omega, by omega, by omega⟩ hrow hgr hnew)
            obtain ⟨A', c', hv'⟩ := row_form hrow
            have hcr := (hgr.block rm (by show rm < W4.heap.size; omega) HH.out.rm_ne).trans (hb4.block rm hrm)
            have u5 : W5.cell? ⟨rm, 0, none⟩ = some s := (World.cell?_of_block (a := ⟨rm, 0, none⟩) hcr).trans t0
            have v5 : W5.frozen? ⟨rm, 0, none⟩ = false := (World.frozen?_of_block (a := ⟨rm, 0, none⟩) hcr).trans f0
            have hA3 := cell_set_if
            subst hv'
            clear hz3 hrow hgr hnew e7 e8 e9 hblk hcr hms hmm hc1 hc2 hc3
            refine hK.out _ _ trivial (fun hHeld => ?_)
            (try simp only [Act.put, List.setIfInBounds_toArray, List.set_cons_zero, List.set_cons_succ])
            refine takeAt' (i := 13) (some 24) (v := ?_) rfl rfl (by kernel_rfl) (by kernel_rfl) (by kernel_rfl) (fun _ _ _ h => h) (Or.inl ⟨by rfl, ?_⟩) (by assumption) ?_
            rotate_left
            (focus (intro w hSw; (try dsimp only at hSw); go_simp; (try with_reducible rfl)))
            (try simp only [Act.put, List.setIfInBounds_toArray, List.set_cons_zero, List.set_cons_succ])
            refine takeAt' (i := 14) (some 25) (v := ?_) rfl rfl (by kernel_rfl) (by kernel_rfl) (by kernel_rfl) (fun _ _ _ h => h) (Or.inl ⟨by rfl, ?_⟩) (by assumption) ?_
            rotate_left
            (focus (intro w hSw; (try dsimp only at hSw); go_simp; (try with_reducible rfl)))
            (try simp only [Act.put, List.setIfInBounds_toArray, List.set_cons_zero, List.set_cons_succ])
            refine wpAnyH_ready (rs := [15]) (by kernel_rfl) (by simp) ?_
            refine AllReadyH.cons rfl (fun K hK => ?_) AllReadyH.nil
            go_simp
            refine hK.out _ _ trivial (fun hHeld => ?_)
            (try simp only [Act.put, List.setIfInBounds_toArray, List.set_cons_zero, List.set_cons_succ])
            refine wpAnyH_done (by kernel_rfl) ?_ _
            go_wp2
            go_returns
            exact ⟨rfl, _, (w.heap.size + 1 + 1), w.heap.size, (w.heap.size + 1), hgw.out⟩
    · skip
      go_simp
      refine hK.out _ _ trivial (fun hHeld => ?_)
      (try simp only [Act.put, List.setIfInBounds_toArray, List.set_cons_zero, List.set_cons_succ])
      refine wpAnyH_ready (rs := [6, 8]) (by kernel_rfl) (by simp) ?_
      refine (AllReadyH.cons rfl (fun K hK => ?_) (AllReadyH.cons rfl (fun K hK => ?_) AllReadyH.nil))
      · skip
        go_simp
        refine hK.out _ _ trivial (fun hHeld => ?_)
        (try simp only [Act.put, List.setIfInBounds_toArray, List.set_cons_zero, List.set_cons_succ])
        refine wpAnyH_ready (rs := [8]) (by kernel_rfl) (by simp) ?_
        refine (AllReadyH.cons rfl (fun K hK => ?_) AllReadyH.nil)
        · skip
          go_simp
          refine hK.out _ _ trivial (fun hHeld => ?_)
          (try simp only [Act.put, List.setIfInBounds_toArray, List.set_cons_zero, List.set_cons_succ])
          obtain ⟨W3, hW3⟩ : ∃ W3, W3 = ((w.alloc (.map #[] 0)).alloc (.cells (madeCells #[.int .u8 0] n) 5)).alloc (.cells (madeCells #[.int .u8 0] n) 5) := ⟨_, rfl⟩
          have hb3 : Below w.heap.size w W3 := by rw [hW3]; (repeat' (first | (with_reducible exact Below.refl _ _) | (with_reducible assumption) | (with_reducible refine Below.setCell ?_ ?_ _) | (with_reducible refine Below.alloc ?_ ?_ _) | (with_reducible refine Below.drew ?_) | (with_reducible refine below_drewN ?_ _) | (with_reducible refine below_next ?_ (by with_reducible assumption)) | omega | (dsimp only; omega) | (simp only [World.size_alloc, World.size_setCell, World.size_drew, World.heap_drewN]; omega)))
          have ha3 := alloc3 w (.map #[] 0) (.cells (madeCells #[.int .u8 0] n) 5) (.cells (madeCells #[.int .u8 0] n) 5)
          rw [← hW3] at ha3 ⊢
          have HA := Lib.hid ha3
          have HZ3 := Lib.hid ha3.2.2.2
          clear ha3 hW3
          have u3 : W3.cell? ⟨rm, 0, none⟩ = some s := (hb3.cell (p := ⟨rm, 0, none⟩) hrm).trans t0
          refine takeAt' (i := 10) (some 21) (v := ?_) rfl rfl (by kernel_rfl) (by kernel_rfl) (by kernel_rfl) (fun _ _ _ h => h) (Or.inl ⟨by rfl, ?_⟩) (by assumption) ?_
          rotate_left
          (focus (intro w hSw; (try dsimp only at hSw); go_simp; (try with_reducible rfl)))
          (try simp only [Act.put, List.setIfInBounds_toArray, List.set_cons_zero, List.set_cons_succ])
          refine wpAnyH_ready (rs := [11]) (by kernel_rfl) (by simp) ?_
          refine (AllReadyH.cons rfl (fun K hK => ?_) AllReadyH.nil)
          · skip
            go_simp
            refine hK.out _ _ trivial (fun hHeld => ?_)
            (try simp only [Act.put, List.setIfInBounds_toArray, List.set_cons_zero, List.set_cons_succ])
            obtain ⟨W4, hW4⟩ : ∃ W4, W4 = W3.alloc (.cells #[.slice (some ⟨(w.heap.size + 1), 0, none⟩) n n, .slice (some ⟨(w.heap.size + 1 + 1), 0, none⟩) n n, .map (some w.heap.size), .bool true, .bool false] 67) := ⟨_, rfl⟩
            have hb4 : Below w.heap.size w W4 := by have hz3 := HZ3.out; rw [hW4]; (repeat' (first | (with_reducible exact Below.refl _ _) | (with_reducible assumption) | (with_reducible refine Below.setCell ?_ ?_ _) | (with_reducible refine Below.alloc ?_ ?_ _) | (with_reducible refine Below.drew ?_) | (with_reducible refine below_drewN ?_ _) | (with_reducible refine below_next ?_ (by with_reducible assumption)) | omega | (dsimp only; omega) | (simp only [World.size_alloc, World.size_setCell, World.size_drew, World.heap_drewN]; omega)))
            have hb34 : Below W3.heap.size W3 W4 := by rw [hW4]; (repeat' (first | (with_reducible exact Below.refl _ _) | (with_reducible assumption) | (with_reducible refine Below.setCell ?_ ?_ _) | (with_reducible refine Below.alloc ?_ ?_ _) | (with_reducible refine Below.drew ?_) | (with_reducible refine below_drewN ?_ _) | (with_reducible refine below_next ?_ (by with_reducible assumption)) | omega | (dsimp only; omega) | (simp only [World.size_alloc, World.size_setCell, World.size_drew, World.heap_drewN]; omega)))
            have hz4 : W4.heap.size = w.heap.size + 3 + 1 := by rw [hW4, World.size_alloc, HZ3.out]
            have hblk := blk_at W3 n (w.heap.size + 1) (w.heap.size + 1 + 1) w.heap.size
            rw [← hW4] at hblk ⊢
            clear hW4
            have u4 : W4.cell? ⟨rm, 0, none⟩ = some s := (hb4.cell (p := ⟨rm, 0, none⟩) hrm).trans t0
            refine wpAnyH_ready (rs := [12]) (by kernel_rfl) (by simp) ?_
            refine AllReadyH.cons rfl (fun K hK => ?_) AllReadyH.nil
            refine step_append_one (w := W4.drew) base rfl (.tmp 15) (.tmp 22) 27 rfl 67 ib _ 5 64 Try.underlying27 HI.out.1 HI.out.2.1 HI.out.2.2.1 HI.out.2.2.2 rfl (by decide) s R.length (R.flatMap RB.cells) rfl (row_keep HH.out.row (fun i hi => hb4.block i (HH.out.row.lt i hi).2)).drew ⟨W3.heap.size, 0, none⟩ 1 1 (newRB (w.heap.size + 1) (w.heap.size + 1 + 1) w.heap.size n).cells rfl rfl hblk (newRB_one _ _ _ _) (by unfold maxLen; omega) hlen (by show base ≤ W4.heap.size; omega) ?_
            intro v' W5 hrow hgr hnew
            have hz3 := HZ3.out
            have e7 : W4.heap[(w.heap.size + 1)]? = some (.cells ((List.replicate n (0 : Int)).map (Value.int .u8)).toArray 5 (0, 0)) := by rw [hb34.block (w.heap.size + 1) (by omega), ← made8]; exact HA.out.2.1
            have e8 : W4.heap[(w.heap.size + 1 + 1)]? = some (.cells ((List.replicate n (0 : Int)).map (Value.int .u8)).toArray 5 (0, 0)) := by rw [hb34.block (w.heap.size + 1 + 1) (by omega), ← made8]; exact HA.out.2.2.1
            have e9 : W4.heap[w.heap.size]? = some (.map #[] 0) := by rw [hb34.block w.heap.size (by omega)]; exact HA.out.1
            have hgw := Lib.hid (HH.out.grow (W4 := W4.drew) (W5 := W5) (v' := v') hcap n hn (w.heap.size + 1) (w.heap.size + 1 + 1) w.heap.size hb4.drew e7 e8 e9 ⟨by omega, by omega, by omega, by omega⟩ hrow hgr hnew)
            obtain ⟨A', c', hv'⟩ := row_form hrow
            have hcr := (hgr.block rm (by show rm < W4.heap.size; omega) HH.out.rm_ne).trans (hb4.block rm hrm)
            have u5 : W5.cell? ⟨rm, 0, none⟩ = some s := (World.cell?_of_block (a := ⟨rm, 0, none⟩) hcr).trans t0
            have v5 : W5.frozen? ⟨rm, 0, none⟩ = false := (World.frozen?_of_block (a := ⟨rm, 0, none⟩) hcr).trans f0
            have hA3 := cell_set_if
            subst hv'
            clear hz3 hrow hgr hnew e7 e8 e9 hblk hcr hms hmm hc1 hc2 hc3
            refine hK.out _ _ trivial (fun hHeld => ?_)
            (try simp only [Act.put, List.setIfInBounds_toArray, List.set_cons_zero, List.set_cons_succ])
            refine takeAt' (i := 13) (some 24) (v := ?_) rfl rfl (by kernel_rfl) (by kernel_rfl) (by kernel_rfl) (fun _ _ _ h => h) (Or.inl ⟨by rfl, ?_⟩) (by assumption) ?_
            rotate_left
            (focus (intro w hSw; (try dsimp only at hSw); go_simp; (try with_reducible rfl)))
            (try simp only [Act.put, List.setIfInBounds_toArray, List.set_cons_zero, List.set_cons_succ])
            refine takeAt' (i := 14) (some 25) (v := ?_) rfl rfl (by kernel_rfl) (by kernel_rfl) (by kernel_rfl) (fun _ _ _ h => h) (Or.inl ⟨by rfl, ?_⟩) (by assumption) ?_
            rotate_left
            (focus (intro w hSw; (try dsimp only at hSw); go_simp; (try with_reducible rfl)))
            (try simp only [Act.put, List.setIfInBounds_toArray, List.set_cons_zero, List.set_cons_succ])
            refine wpAnyH_ready (rs := [15]) (by kernel_rfl) (by simp) ?_
            refine AllReadyH.cons rfl (fun K hK => ?_) AllReadyH.nil
            go_simp
            refine hK.out _ _ trivial (fun hHeld => ?_)
            (try simp only [Act.put, List.setIfInBounds_toArray, List.set_cons_zero, List.set_cons_succ])
            refine wpAnyH_done (by kernel_rfl) ?_ _
            go_wp2
            go_returns
            exact ⟨rfl, _, (w.heap.size + 1), (w.heap.size + 1 + 1), w.heap.size, hgw.out⟩
      · skip
        go_simp
        refine hK.out _ _ trivial (fun hHeld => ?_)
        (try simp only [Act.put, List.setIfInBounds_toArray, List.set_cons_zero, List.set_cons_succ])
        refine wpAnyH_ready (rs := [6]) (by kernel_rfl) (by simp) ?_
        refine (AllReadyH.cons rfl (fun K hK => ?_) AllReadyH.nil)
        · skip
          go_simp
          refine hK.out _ _ trivial (fun hHeld => ?_)
          (try simp only [Act.put, List.setIfInBounds_toArray, List.set_cons_zero, List.set_cons_succ])
          obtain ⟨W3, hW3⟩ : ∃ W3, W3 = ((w.alloc (.map #[] 0)).alloc (.cells (madeCells #[.int .u8 0] n) 5)).alloc (.cells (madeCells #[.int .u8 0] n) 5) := ⟨_, rfl⟩
          have hb3 : Below w.heap.size w W3 := by rw [hW3]; (repeat' (first | (with_reducible exact Below.refl _ _) | (with_reducible assumption) | (with_reducible refine Below.setCell ?_ ?_ _) | (with_reducible refine Below.alloc ?_ ?_ _) | (with_reducible refine Below.drew ?_) | (with_reducible refine below_drewN ?_ _) | (with_reducible refine below_next ?_ (by with_reducible assumption)) | omega | (dsimp only; omega) | (simp only [World.size_alloc, World.size_setCell, World.size_drew, World.heap_drewN]; omega)))
          have ha3 := alloc3 w (.map #[] 0) (.cells (madeCells #[.int .u8 0] n) 5) (.cells (madeCells #[.int .u8 0] n) 5)
          rw [← hW3] at ha3 ⊢
          have HA := Lib.hid ha3
          have HZ3 := Lib.hid ha3.2.2.2
          clear ha3 hW3
          have u3 : W3.cell? ⟨rm, 0, none⟩ = some s := (hb3.cell (p := ⟨rm, 0, none⟩) hrm).trans t0
          refine takeAt' (i := 10) (some 21) (v := ?_) rfl rfl (by kernel_rfl) (by kernel_rfl) (by kernel_rfl) (fun _ _ _ h => h) (Or.inl ⟨by rfl, ?_⟩) (by assumption) ?_
          rotate_left
          (focus (intro w hSw; (try dsimp only at hSw); go_simp; (try with_reducible rfl)))
          (try simp only [Act.put, List.setIfInBounds_toArray, List.set_cons_zero, List.set_cons_succ])
          refine wpAnyH_ready (rs := [11]) (by kernel_rfl) (by simp) ?_
          refine (AllReadyH.cons rfl (fun K hK => ?_) AllReadyH.nil)
          · skip
            go_simp
            refine hK.out _ _ trivial (fun hHeld => ?_)
            (try simp only [Act.put, List.setIfInBounds_toArray, List.set_cons_zero, List.set_cons_succ])
            obtain ⟨W4, hW4⟩ : ∃ W4, W4 = W3.alloc (.cells #[.slice (some ⟨(w.heap.size + 1 + 1), 0, none⟩) n n, .slice (some ⟨(w.heap.size + 1), 0, none⟩) n n, .map (some w.heap.size), .bool true, .bool false] 67) := ⟨_, rfl⟩
            have hb4 : Below w.heap.size w W4 := by have hz3 := HZ3.out; rw [hW4]; (repeat' (first | (with_reducible exact Below.refl _ _) | (with_reducible assumption) | (with_reducible refine Below.setCell ?_ ?_ _) | (with_reducible refine Below.alloc ?_ ?_ _) | (with_reducible refine Below.drew ?_) | (with_reducible refine below_drewN ?_ _) | (with_reducible refine below_next ?_ (by with_reducible assumption)) | omega | (dsimp only; omega) | (simp only [World.size_alloc, World.size_setCell, World.size_drew, World.heap_drewN]; omega)))
            have hb34 : Below W3.heap.size W3 W4 := by rw [hW4]; (repeat' (first | (with_reducible exact Below.refl _ _) | (with_reducible assumption) | (with_reducible refine Below.setCell ?_ ?_ _) | (with_reducible refine Below.alloc ?_ ?_ _) | (with_reducible refine Below.drew ?_) | (with_reducible refine below_drewN ?_ _) | (with_reducible refine below_next ?_ (by with_reducible assumption)) | omega | (dsimp only; omega) | (simp only [World.size_alloc, World.size_setCell, World.size_drew, World.heap_drewN]; omega)))
            have hz4 : W4.heap.size = w.heap.size + 3 + 1 := by rw [hW4, World.size_alloc, HZ3.out]
            have hblk := blk_at W3 n (w.heap.size + 1 + 1) (w.heap.size + 1) w.heap.size
            rw [← hW4] at hblk ⊢
            clear hW4
            have u4 : W4.cell? ⟨rm, 0, none⟩ = some s := (hb4.cell (p := ⟨rm, 0, none⟩) hrm).trans t0
            refine wpAnyH_ready (rs := [12]) (by kernel_rfl) (by simp) ?_
            refine AllReadyH.cons rfl (fun K hK => ?_) AllReadyH.nil
            refine step_append_one (w := W4.drew) base rfl (.tmp 15) (.tmp 22) 27 rfl 67 ib _ 5 64 Try.underlying27 HI.out.1 HI.out.2.1 HI.out.2.2.1 HI.out.2.2.2 rfl (by decide) s R.length (R.flatMap RB.cells) rfl (row_keep HH.out.row (fun i hi => hb4.block i (HH.out.row.lt i hi).2)).drew ⟨W3.heap.size, 0, none⟩ 1 1 (newRB (w.heap.size + 1 + 1) (w.heap.size + 1) w.heap.size n).cells rfl rfl hblk (newRB_one _ _ _ _) (by unfold maxLen; omega) hlen (by show base ≤ W4.heap.size; omega) ?_
            intro v' W5 hrow hgr hnew
            have hz3 := HZ3.out
            have e7 : W4.heap[(w.heap.size + 1 + 1)]? = some (.cells ((List.replicate n (0 : Int)).map (Value.int .u8)).toArray 5 (0, 0)) := by rw [hb34.block (w.heap.size + 1 + 1) (by omega), ← made8]; exact HA.out.2.2.1
            have e8 : W4.heap[(w.heap.size + 1)]? = some (.cells ((List.replicate n (0 : Int)).map (Value.int .u8)).toArray 5 (0, 0)) := by rw [hb34.block (w.heap.size + 1) (by omega), ← made8]; exact HA.out.2.1
            have e9 : W4.heap[w.heap.size]? = some (.map #[] 0) := by rw [hb34.block w.heap.size (by omega)]; exact HA.out.1
            have hgw := Lib.hid (HH.out.grow (W4 := W4.drew) (W5 := W5) (v' := v') hcap n hn (w.heap.size + 1 + 1) (w.heap.size + 1) w.heap.size hb4.drew e7 e8 e9 ⟨by omega, by omega, by omega, by omega⟩ hrow hgr hnew)
            obtain ⟨A', c', hv'⟩ := row_form hrow
            have hcr := (hgr.block rm (by show rm < W4.heap.size; omega) HH.out.rm_ne).trans (hb4.block rm hrm)
            have u5 : W5.cell? ⟨rm, 0, none⟩ = some s := (World.cell?_of_block (a := ⟨rm, 0, none⟩) hcr).trans t0
            have v5 : W5.frozen? ⟨rm, 0, none⟩ = false := (World.frozen?_of_block (a := ⟨rm, 0, none⟩) hcr).trans f0
            have hA3 := cell_set_if
            subst hv'
            clear hz3 hrow hgr hnew e7 e8 e9 hblk hcr hms hmm hc1 hc2 hc3
            refine hK.out _ _ trivial (fun hHeld => ?_)
            (try simp only [Act.put, List.setIfInBounds_toArray, List.set_cons_zero, List.set_cons_succ])
            refine takeAt' (i := 13) (some 24) (v := ?_) rfl rfl (by kernel_rfl) (by kernel_rfl) (by kernel_rfl) (fun _ _ _ h => h) (Or.inl ⟨by rfl, ?_⟩) (by assumption) ?_
            rotate_left
            (focus (intro w hSw; (try dsimp only at hSw); go_simp; (try with_reducible rfl)))
            (try simp only [Act.put, List.setIfInBounds_toArray, List.set_cons_zero, List.set_cons_succ])
            refine takeAt' (i := 14) (some 25) (v := ?_) rfl rfl (by kernel_rfl) (by kernel_rfl) (by kernel_rfl) (fun _ _ _ h => h) (Or.inl ⟨by rfl, ?_⟩) (by assumption) ?_
            rotate_left
            (focus (intro w hSw; (try dsimp only at hSw); go_simp; (try with_reducible rfl)))
            (try simp only [Act.put, List.setIfInBounds_toArray, List.set_cons_zero, List.set_cons_succ])
            refine wpAnyH_ready (rs := [15]) (by kernel_rfl) (by simp) ?_
            refine AllReadyH.cons rfl (fun K hK => ?_) AllReadyH.nil
            go_simp
            refine hK.out _ _ trivial (fun hHeld => ?_)
            (try simp only [Act.put, List.setIfInBounds_toArray, List.set_cons_zero, List.set_cons_succ])
            refine wpAnyH_done (by kernel_rfl) ?_ _
            go_wp2
            go_returns
            exact ⟨rfl, _, (w.heap.size + 1 + 1), (w.heap.size + 1), w.heap.size, hgw.out⟩
  · skip
    go_simp
    refine hK.out _ _ trivial (fun hHeld => ?_)
    (try simp only [Act.put, List.setIfInBounds_toArray, List.set_cons_zero, List.set_cons_succ])
    refine wpAnyH_ready (rs := [4, 8, 9]) (by kernel_rfl) (by simp) ?_
    refine (AllReadyH.cons rfl (fun K hK => ?_) (AllReadyH.cons rfl (fun K hK => ?_) (AllReadyH.cons rfl (fun K hK => ?_) AllReadyH.nil)))
    · skip
      go_simp
      refine hK.out _ _ trivial (fun hHeld => ?_)
      (try simp only [Act.put, List.setIfInBounds_toArray, List.set_cons_zero, List.set_cons_succ])
      refine wpAnyH_ready (rs := [8, 9]) (by kernel_rfl) (by simp) ?_
      refine (AllReadyH.cons rfl (fun K hK => ?_) (AllReadyH.cons rfl (fun K hK => ?_) AllReadyH.nil))
      · skip
        go_simp
        refine hK.out _ _ trivial (fun hHeld => ?_)
        (try simp only [Act.put, List.setIfInBounds_toArray, List.set_cons_zero, List.set_cons_succ])
        refine wpAnyH_ready (rs := [9]) (by kernel_rfl) (by simp) ?_
        refine (AllReadyH.cons rfl (fun K hK => ?_) AllReadyH.nil)
        · skip
          go_simp
          refine hK.out _ _ trivial (fun hHeld => ?_)
          (try simp only [Act.put, List.setIfInBounds_toArray, List.set_cons_zero, List.set_cons_succ])
          obtain ⟨W3, hW3⟩ : ∃ W3, W3 = ((w.alloc (.cells (madeCells #[.int .u8 0] n) 5)).alloc (.cells (madeCells #[.int .u8 0] n) 5)).alloc (.map #[] 0) := ⟨_, rfl⟩
          have hb3 : Below w.heap.size w W3 := by rw [hW3]; (repeat' (first | (with_reducible exact Below.refl _ _) | (with_reducible assumption) | (with_reducible refine Below.setCell ?_ ?_ _) | (with_reducible refine Below.alloc ?_ ?_ _) | (with_reducible refine Below.drew ?_) | (with_reducible refine below_drewN ?_ _) | (with_reducible refine below_next ?_ (by with_reducible assumption)) | omega | (dsimp only; omega) | (simp only [World.size_alloc, World.size_setCell, World.size_drew, World.heap_drewN]; omega)))
          have ha3 := alloc3 w (.cells (madeCells #[.int .u8 0] n) 5) (.cells (madeCells #[.int .u8 0] n) 5) (.map #[] 0)
          rw [← hW3] at ha3 ⊢
          have HA := Lib.hid ha3
          have HZ3 := Lib.hid ha3.2.2.2
          clear ha3 hW3
          have u3 : W3.cell? ⟨rm, 0, none⟩ = some s := (hb3.cell (p := ⟨rm, 0, none⟩) hrm).trans t0
          refine takeAt' (i := 10) (some 21) (v := ?_) rfl rfl (by kernel_rfl) (by kernel_rfl) (by kernel_rfl) (fun _ _ _ h => h) (Or.inl ⟨by rfl, ?_⟩) (by assumption) ?_
          rotate_left
          (focus (intro w hSw; (try dsimp only at hSw); go_simp; (try with_reducible rfl)))
          (try simp only [Act.put, List.setIfInBounds_toArray, List.set_cons_zero, List.set_cons_succ])
          refine wpAnyH_ready (rs := [11]) (by kernel_rfl) (by simp) ?_
          refine (AllReadyH.cons rfl (fun K hK => ?_) AllReadyH.nil)
          · skip
            go_simp
            refine hK.out _ _ trivial (fun hHeld => ?_)
            (try simp only [Act.put, List.setIfInBounds_toArray, List.set_cons_zero, List.set_cons_succ])
            obtain ⟨W4, hW4⟩ : ∃ W4, W4 = W3.alloc (.cells #[.slice (some ⟨w.heap.size, 0, none⟩) n n, .slice (some ⟨(w.heap.size + 1), 0, none⟩) n n, .map (some (w.heap.size + 1 + 1)), .bool true, .bool false] 67) := ⟨_, rfl⟩
            have hb4 : Below w.heap.size w W4 := by have hz3 := HZ3.out; rw [hW4]; (repeat' (first | (with_reducible exact Below.refl _ _) | (with_reducible assumption) | (with_reducible refine Below.setCell ?_ ?_ _) | (with_reducible refine Below.alloc ?_ ?_ _) | (with_reducible refine Below.drew ?_) | (with_reducible refine below_drewN ?_ _) | (with_reducible refine below_next ?_ (by with_reducible assumption)) | omega | (dsimp only; omega) | (simp only [World.size_alloc, World.size_setCell, World.size_drew, World.heap_drewN]; omega)))
            have hb34 : Below W3.heap.size W3 W4 := by rw [hW4]; (repeat' (first | (with_reducible exact Below.refl _ _) | (with_reducible assumption) | (with_reducible refine Below.setCell ?_ ?_ _) | (with_reducible refine Below.alloc ?_ ?_ _) | (with_reducible refine Below.drew ?_) | (with_reducible refine below_drewN ?_ _) | (with_reducible refine below_next ?_ (by with_reducible assumption)) | omega | (dsimp only; omega) | (simp only [World.size_alloc, World.size_setCell, World.size_drew, World.heap_drewN]; omega)))
            have hz4 : W4.heap.size = w.heap.size + 3 + 1 := by rw [hW4, World.size_alloc, HZ3.out]
            have hblk := blk_at W3 n w.heap.size (w.heap.size + 1) (w.heap.size + 1 + 1)
            rw [← hW4] at hblk ⊢
            clear hW4
            have u4 : W4.cell? ⟨rm, 0, none⟩ = some s := (hb4.cell (p := ⟨rm, 0, none⟩) hrm).trans t0
            refine wpAnyH_ready (rs := [12]) (by kernel_rfl) (by simp) ?_
            refine AllReadyH.cons rfl (fun K hK => ?_) AllReadyH.nil
            refine step_append_one (w := W4.drew) base rfl (.tmp 15) (.tmp 22) 27 rfl 67 ib _ 5 64 Try.underlying27 HI.out.1 HI.out.2.1 HI.out.2.2.1 HI.out.2.2.2 rfl (by decide) s R.length (R.flatMap RB.cells) rfl (row_keep HH.out.row (fun i hi => hb4.block i (HH.out.row.lt i hi).2)).drew ⟨W3.heap.size, 0, none⟩ 1 1 (newRB w.heap.size (w.heap.size + 1) (w.heap.size + 1 + 1) n).cells rfl rfl hblk (newRB_one _ _ _ _) (by unfold maxLen; omega) hlen (by show base ≤ W4.heap.size; omega) ?_
            intro v' W5 hrow hgr hnew
            have hz3 := HZ3.out
            have e7 : W4.heap[w.heap.size]? = some (.cells ((List.replicate n (0 : Int)).map (Value.int .u8)).toArray 5 (0, 0)) := by rw [hb34.block w.heap.size (by omega), ← made8]; exact HA.out.1
            have e8 : W4.heap[(w.heap.size + 1)]? = some (.cells ((List.replicate n (0 : Int)).map (Value.int .u8)).toArray 5 (0, 0)) := by rw [hb34.block (w.heap.size + 1) (by omega), ← made8]; exact HA.out.2.1
            have e9 : W4.heap[(w.heap.size + 1 + 1)]? = some (.map #[] 0) := by rw [hb34.block (w.heap.size + 1 + 1) (by omega)]; exact HA.out.2.2.1
            have hgw := Lib.hid (HH.out.grow (W4 := W4.drew) (W5 := W5) (v' := v') hcap n hn w.heap.size (w.heap.size + 1) (w.heap.size + 1 + 1) hb4.drew e7 e8 e9 ⟨by omega, by omega, by omega, by omega⟩ hrow hgr hnew)
            obtain ⟨A', c', hv'⟩ := row_form hrow
            have hcr := (hgr.block rm (by show rm < W4.heap.size; omega) HH.out.rm_ne).trans (hb4.block rm hrm)
            have u5 : W5.cell? ⟨rm, 0, none⟩ = some s := (World.cell?_of_block (a := ⟨rm, 0, none⟩) hcr).trans t0
            have v5 : W5.frozen? ⟨rm, 0, none⟩ = false := (World.frozen?_of_block (a := ⟨rm, 0, none⟩) hcr).trans f0
            have hA3 := cell_set_if
            subst hv'
            clear hz3 hrow hgr hnew e7 e8 e9 hblk hcr hms hmm hc1 hc2 hc3
            refine hK.out _ _ trivial (fun hHeld => ?_)
            (try simp only [Act.put, List.setIfInBounds_toArray, List.set_cons_zero, List.set_cons_succ])
            refine takeAt' (i := 13) (some 24) (v := ?_) rfl rfl (by kernel_rfl) (by kernel_rfl) (by kernel_rfl) (fun _ _ _ h => h) (Or.inl ⟨by rfl, ?_⟩) (by assumption) ?_
            rotate_left
            (focus (intro w hSw; (try dsimp only at hSw); go_simp; (try with_reducible rfl)))
            (try simp only [Act.put, List.setIfInBounds_toArray, List.set_cons_zero, List.set_cons_succ])
            refine takeAt' (i := 14) (some 25) (v := ?_) rfl rfl (by kernel_rfl) (by kernel_rfl) (by kernel_rfl) (fun _ _ _ h => h) (Or.inl ⟨by rfl, ?_⟩) (by assumption) ?_
            rotate_left
            (focus (intro w hSw; (try dsimp only at hSw); go_simp; (try with_reducible rfl)))
            (try simp only [Act.put, List.setIfInBounds_toArray, List.set_cons_zero, List.set_cons_succ])
            refine wpAnyH_ready (rs := [15]) (by kernel_rfl) (by simp) ?_
            refine AllReadyH.cons rfl (fun K hK => ?_) AllReadyH.nil
            go_simp
            refine hK.out _ _ trivial (fun hHeld => ?_)
            (try simp only [Act.put, List.setIfInBounds_toArray, List.set_cons_zero, List.set_cons_succ])
            refine wpAnyH_done (by kernel_rfl) ?_ _
            go_wp2
            go_returns
            exact ⟨rfl, _, w.heap.size, (w.heap.size + 1), (w.heap.size + 1 + 1), hgw.out⟩
      · skip
        go_simp
        refine hK.out _ _ trivial (fun hHeld => ?_)
        (try simp only [Act.put, List.setIfInBounds_toArray, List.set_cons_zero, List.set_cons_succ])
        refine wpAnyH_ready (rs := [8]) (by kernel_rfl) (by simp) ?_
        refine (AllReadyH.cons rfl (fun K hK => ?_) AllReadyH.nil)
        · skip
          go_simp
          refine hK.out _ _ trivial (fun hHeld => ?_)
          (try simp only [Act.put, List.setIfInBounds_toArray, List.set_cons_zero, List.set_cons_succ])
          obtain ⟨W3, hW3⟩ : ∃ W3, W3 = ((w.alloc (.cells (madeCells #[.int .u8 0] n) 5)).alloc (.map #[] 0)).alloc (.cells (madeCells #[.int .u8 0] n) 5) := ⟨_, rfl⟩
          have hb3 : Below w.heap.size w W3 := by rw [hW3]; (repeat' (first | (with_reducible exact Below.refl _ _) | (with_reducible assumption) | (with_reducible refine Below.setCell ?_ ?_ _) | (with_reducible refine Below.alloc ?_ ?_ _) | (with_reducible refine Below.drew ?_) | (with_reducible refine below_drewN ?_ _) | (with_reducible refine below_next ?_ (by with_reducible assumption)) | omega | (dsimp only; omega) | (simp only [World.size_alloc, World.size_setCell, World.size_drew, World.heap_drewN]; omega)))
          have ha3 := alloc3 w (.cells (madeCells #[.int .u8 0] n) 5) (.map #[] 0) (.cells (madeCells #[.int .u8 0] n) 5)
          rw [← hW3] at ha3 ⊢
          have HA := Lib.hid ha3
          have HZ3 := Lib.hid ha3.2.2.2
          clear ha3 hW3
          have u3 : W3.cell? ⟨rm, 0, none⟩ = some s := (hb3.cell (p := ⟨rm, 0, none⟩) hrm).trans t0
          refine takeAt' (i := 10) (some 21) (v := ?_) rfl rfl (by kernel_rfl) (by kernel_rfl) (by kernel_rfl) (fun _ _ _ h => h) (Or.inl ⟨by rfl, ?_⟩) (by assumption) ?_
          rotate_left
          (focus (intro w hSw; (try dsimp only at hSw); go_simp; (try with_reducible rfl)))
          (try simp only [Act.put, List.setIfInBounds_toArray, List.set_cons_zero, List.set_cons_succ])
          refine wpAnyH_ready (rs := [11]) (by kernel_rfl) (by simp) ?_
          refine (AllReadyH.cons rfl (fun K hK => ?_) AllReadyH.nil)
          · skip
            go_simp
            refine hK.out _ _ trivial (fun hHeld => ?_)
            (try simp only [Act.put, List.setIfInBounds_toArray, List.set_cons_zero, List.set_cons_succ])
            obtain ⟨W4, hW4⟩ : ∃ W4, W4 = W3.alloc (.cells #[.slice (some ⟨w.heap.size, 0, none⟩) n n, .slice (some ⟨(w.heap.size + 1 + 1), 0, none⟩) n n, .map (some (w.heap.size + 1)), .bool true, .bool false] 67) := ⟨_, rfl⟩
            have hb4 : Below w.heap.size w W4 := by have hz3 := HZ3.out; rw [hW4]; (repeat' (first | (with_reducible exact Below.refl _ _) | (with_reducible assumption) | (with_reducible refine Below.setCell ?_ ?_ _) | (with_reducible refine Below.alloc ?_ ?_ _) | (with_reducible refine Below.drew ?_) | (with_reducible refine below_drewN ?_ _) | (with_reducible refine below_next ?_ (by with_reducible assumption)) | omega | (dsimp only; omega) | (simp only [World.size_alloc, World.size_setCell, World.size_drew, World.heap_drewN]; omega)))
            have hb34 : Below W3.heap.size W3 W4 := by rw [hW4]; (repeat' (first | (with_reducible exact Below.refl _ _) | (with_reducible assumption) | (with_reducible refine Below.setCell ?_ ?_ _) | (with_reducible refine Below.alloc ?_ ?_ _) | (with_reducible refine Below.drew ?_) | (with_reducible refine below_drewN ?_ _) | (with_reducible refine below_next ?_ (by with_reducible assumption)) | omega | (dsimp only; omega) | (simp only [World.size_alloc, World.size_setCell, World.size_drew, World.heap_drewN]; omega)))
            have hz4 : W4.heap.size = w.heap.size + 3 + 1 := by rw [hW4, World.size_alloc, HZ3.out]
            have hblk := blk_at W3 n w.heap.size (w.heap.size + 1 + 1) (w.heap.size + 1)
            rw [← hW4] at hblk ⊢
            clear hW4
            have u4 : W4.cell? ⟨rm, 0, none⟩ = some s := (hb4.cell (p := ⟨rm, 0, none⟩) hrm).trans t0
            refine wpAnyH_ready (rs := [12]) (by kernel_rfl) (by simp) ?_
            refine AllReadyH.cons rfl (fun K hK => ?_) AllReadyH.nil
            refine step_append_one (w := W4.drew) base rfl (.tmp 15) (.tmp 22) 27 rfl 67 ib _ 5 64 Try.underlying27 HI.out.1 HI.out.2.1 HI.out.2.2.1 HI.out.2.2.2 rfl (by decide) s R.length (R.flatMap RB.cells) rfl (row_keep HH.out.row (fun i hi => hb4.block i (HH.out.row.lt i hi).2)).drew ⟨W3.heap.size, 0, none⟩ 1 1 (newRB w.heap.size (w.heap.size + 1 + 1) (w.heap.size + 1) n).cells rfl rfl hblk (newRB_one _ _ _ _) (by unfold maxLen; omega) hlen (by show base ≤ W4.heap.size; omega) ?_
            intro v' W5 hrow hgr hnew
            have hz3 := HZ3.out
            have e7 : W4.heap[w.heap.size]? = some (.cells ((List.replicate n (0 : Int)).map (Value.int .u8)).toArray 5 (0, 0)) := by rw [hb34.block w.heap.size (by omega), ← made8]; exact HA.out.1
            have e8 : W4.heap[(w.heap.size + 1 + 1)]? = some (.cells ((List.replicate n (0 : Int)).map (Value.int .u8)).toArray 5 (0, 0)) := by rw [hb34.block (w.heap.size + 1 + 1) (by omega), ← made8]; exact HA.out.2.2.1
            have e9 : W4.heap[(w.heap.size + 1)]? = some (.map #[] 0) := by rw [hb34.block (w.heap.size + 1) (by omega)]; exact HA.out.2.1
            have hgw := Lib.hid (HH.out.grow (W4 := W4.drew) (W5 := W5) (v' := v') hcap n hn w.heap.size (w.heap.size + 1 + 1) (w.heap.size + 1) hb4.drew e7 e8 e9 ⟨by omega, by omega, by omega, by omega⟩ hrow hgr hnew)
            obtain ⟨A', c', hv'⟩ := row_form hrow
            have hcr := (hgr.block rm (by show rm < W4.heap.size; omega) HH.out.rm_ne).trans (hb4.block rm hrm)
            have u5 : W5.cell? ⟨rm, 0, none⟩ = some s := (World.cell?_of_block (a := ⟨rm, 0, none⟩) hcr).trans t0
            have v5 : W5.frozen? ⟨rm, 0, none⟩ = false := (World.frozen?_of_block (a := ⟨rm, 0, none⟩) hcr).trans f0
            have hA3 := cell_set_if
            subst hv'
            clear hz3 hrow hgr hnew e7 e8 e9 hblk hcr hms hmm hc1 hc2 hc3
            refine hK.out _ _ trivial (fun hHeld => ?_)
            (try simp only [Act.put, List.setIfInBounds_toArray, List.set_cons_zero, List.set_cons_succ])
            refine takeAt' (i := 13) (some 24) (v := ?_) rfl rfl (by kernel_rfl) (by kernel_rfl) (by kernel_rfl) (fun _ _ _ h => h) (Or.inl ⟨by rfl, ?_⟩) (by assumption) ?_
            rotate_left
            (focus (intro w hSw; (try dsimp only at hSw); go_simp; (try with_reducible rfl)))
            (try simp only [Act.put, List.setIfInBounds_toArray, List.set_cons_zero, List.set_cons_succ])
            refine takeAt' (i := 14) (some 25) (v := ?_) rfl rfl (by kernel_rfl) (by kernel_rfl) (by kernel_rfl) (fun _ _ _ h => h) (Or.inl ⟨by rfl, ?_⟩) (by assumption) ?_
            rotate_left
            (focus (intro w hSw; (try dsimp only at hSw); go_simp; (try with_reducible rfl)))
            (try simp only [Act.put, List.setIfInBounds_toArray, List.set_cons_zero, List.set_cons_succ])
            refine wpAnyH_ready (rs := [15]) (by kernel_rfl) (by simp) ?_
            refine AllReadyH.cons rfl (fun K hK => ?_) AllReadyH.nil
            go_simp
            refine hK.out _ _ trivial (fun hHeld => ?_)
            (try simp only [Act.put, List.setIfInBounds_toArray, List.set_cons_zero, List.set_cons_succ])
            refine wpAnyH_done (by kernel_rfl) ?_ _
            go_wp2
            go_returns
            exact ⟨rfl, _, w.heap.size, (w.heap.size + 1 + 1), (w.heap.size + 1), hgw.out⟩
    · skip
      go_simp
      refine hK.out _ _ trivial (fun hHeld => ?_)
      (try simp only [Act.put, List.setIfInBounds_toArray, List.set_cons_zero, List.set_cons_succ])
      refine wpAnyH_ready (rs := [4, 9]) (by kernel_rfl) (by simp) ?_
      refine (AllReadyH.cons rfl (fun K hK => ?_) (AllReadyH.cons rfl (fun K hK => ?_) AllReadyH.nil))
      · skip
        go_simp
        refine hK.out _ _ trivial (fun hHeld => ?_)
        (try simp only [Act.put, List.setIfInBounds_toArray, List.set_cons_zero, List.set_cons_succ])
        refine wpAnyH_ready (rs := [9]) (by kernel_rfl) (by simp) ?_
        refine (AllReadyH.cons rfl (fun K hK => ?_) AllReadyH.nil)
        · skip
          go_simp
          refine hK.out _ _ trivial (fun hHeld => ?_)
          (try simp only [Act.put, List.setIfInBounds_toArray, List.set_cons_zero, List.set_cons_succ])
          obtain ⟨W3, hW3⟩ : ∃ W3, W3 = ((w.alloc (.cells (madeCells #[.int .u8 0] n) 5)).alloc (.cells (madeCells #[.int .u8 0] n) 5)).alloc (.map #[] 0) := ⟨_, rfl⟩
          have hb3 : Below w.heap.size w W3 := by rw [hW3]; (repeat' (first | (with_reducible exact Below.refl _ _) | (with_reducible assumption) | (with_reducible refine Below.setCell ?_ ?_ _) | (with_reducible refine Below.alloc ?_ ?_ _) | (with_reducible refine Below.drew ?_) | (with_reducible refine below_drewN ?_ _) | (with_reducible refine below_next ?_ (by with_reducible assumption)) | omega | (dsimp only; omega) | (simp only [World.size_alloc, World.size_setCell, World.size_drew, World.heap_drewN]; omega)))
          have ha3 := alloc3 w (.cells (madeCells #[.int .u8 0] n) 5) (.cells (madeCells #[.int .u8 0] n) 5) (.map #[] 0)
          rw [← hW3] at ha3 ⊢
          have HA := Lib.hid ha3
          have HZ3 := Lib.hid ha3.2.2.2
          clear ha3 hW3
          have u3 : W3.cell? ⟨rm, 0, none⟩ = some s := (hb3.cell (p := ⟨rm, 0, none⟩) hrm).trans t0
          refine takeAt' (i := 10) (some 21) (v := ?_) rfl rfl (by kernel_rfl) (by kernel_rfl) (by kernel_rfl) (fun _ _ _ h => h) (Or.inl ⟨by rfl, ?_⟩) (by assumption) ?_
          rotate_left
          (focus (intro w hSw; (try dsimp only at hSw); go_simp; (try with_reducible rfl)))
          (try simp only [Act.put, List.setIfInBounds_toArray, List.set_cons_zero, List.set_cons_succ])
          refine wpAnyH_ready (rs := [11]) (by kernel_rfl) (by simp) ?_
          refine (AllReadyH.cons rfl (fun K hK => ?_) AllReadyH.nil)
          · skip
            go_simp
            refine hK.out _ _ trivial (fun hHeld => ?_)
            (try simp only [Act.put, List.setIfInBounds_toArray, List.set_cons_zero, List.set_cons_succ])
            obtain ⟨W4, hW4⟩ : ∃ W4, W4 = W3.alloc (.cells #[.slice (some ⟨w.heap.size, 0, none⟩) n n, .slice (some ⟨(w.heap.size + 1), 0, none⟩) n n, .map (some (w.heap.size + 1 + 1)), .bool true, .bool false] 67) := ⟨_, rfl⟩
            have hb4 : Below w.heap.size w W4 := by have hz3 := HZ3.out; rw [hW4]; (repeat' (first | (with_reducible exact Below.refl _ _) | (with_reducible assumption) | (with_reducible refine Below.setCell ?_ ?_ _) | (with_reducible refine Below.alloc ?_ ?_ _) | (with_reducible refine Below.drew ?_) | (with_reducible refine below_drewN ?_ _) | (with_reducible refine below_next ?_ (by with_reducible assumption)) | omega | (dsimp only; omega) | (simp only [World.size_alloc, World.size_setCell, World.size_drew, World.heap_drewN]; omega)))
            have hb34 : Below W3.heap.size W3 W4 := by rw [hW4]; (repeat' (first | (with_reducible exact Below.refl _ _) | (with_reducible assumption) | (with_reducible refine Below.setCell ?_ ?_ _) | (with_reducible refine Below.alloc ?_ ?_ _) | (with_reducible refine Below.drew ?_) | (with_reducible refine below_drewN ?_ _) | (with_reducible refine below_next ?_ (by with_reducible assumption)) | omega | (dsimp only; omega) | (simp only [World.size_alloc, World.size_setCell, World.size_drew, World.heap_drewN]; omega)))
            have hz4 : W4.heap.size = w.heap.size + 3 + 1 := by rw [hW4, World.size_alloc, HZ3.out]
            have hblk := blk_at W3 n w.heap.size (w.heap.size + 1) (w.heap.size + 1 + 1)
            rw [← hW4] at hblk ⊢
            clear hW4
            have u4 : W4.cell? ⟨rm, 0, none⟩ = some s := (hb4.cell (p := ⟨rm, 0, none⟩) hrm).trans t0
            refine wpAnyH_ready (rs := [12]) (by kernel_rfl) (by simp) ?_
            refine AllReadyH.cons rfl (fun K hK => ?_) AllReadyH.nil
            refine step_append_one (w := W4.drew) base rfl (.tmp 15) (.tmp 22) 27 rfl 67 ib _ 5 64 Try.underlying27 HI.out.1 HI.out.2.1 HI.out.2.2.1 HI.out.2.2.2 rfl (by decide) s R.length (R.flatMap RB.cells) rfl (row_keep HH.out.row (fun i hi => hb4.block i (HH.out.row.lt i hi).2)).drew ⟨W3.heap.size, 0, none⟩ 1 1 (newRB w.heap.size (w.heap.size + 1) (w.heap.size + 1 + 1) n).cells rfl rfl hblk (newRB_one _ _ _ _) (by unfold maxLen; omega) hlen (by show base ≤ W4.heap.size; omega) ?_
            intro v' W5 hrow hgr hnew
            have hz3 := HZ3.out
            have e7 : W4.heap[w.heap.size]? = some (.cells ((List.replicate n (0 : Int)).map (Value.int .u8)).toArray 5 (0, 0)) := by rw [hb34.block w.heap.size (by omega), ← made8]; exact HA.out.1
            have e8 : W4.heap[(w.heap.size + 1)]? = some (.cells ((List.replicate n (0 : Int)).map (Value.int .u8)).toArray 5 (0, 0)) := by rw [hb34.block (w.heap.size + 1) (by omega), ← made8]; exact HA.out.2.1
            have e9 : W4.heap[(w.heap.size + 1 + 1)]? = some (.map #[] 0) := by rw [hb34.block (w.heap.size + 1 + 1) (by omega)]; exact HA.out.2.2.1
            have hgw := Lib.hid (HH.out.grow (W4 := W4.drew) (W5 := W5) (v' := v') hcap n hn w.heap.size (w.heap.size + 1) (w.heap.size + 1 + 1) hb4.drew e7 e8 e9 ⟨by omega, by omega, by omega, by omega⟩ hrow hgr hnew)
            obtain ⟨A', c', hv'⟩ := row_form hrow
            have hcr := (hgr.block rm (by show rm < W4.heap.size; omega) HH.out.rm_ne).trans (hb4.block rm hrm)
            have u5 : W5.cell? ⟨rm, 0, none⟩ = some s := (World.cell?_of_block (a := ⟨rm, 0, none⟩) hcr).trans t0
            have v5 : W5.frozen? ⟨rm, 0, none⟩ = false := (World.frozen?_of_block (a := ⟨rm, 0, none⟩) hcr).trans f0
            have hA3 := cell_set_if
            subst hv'
            clear hz3 hrow hgr hnew e7 e8 e9 hblk hcr hms hmm hc1 hc2 hc3
            refine hK.out _ _ trivial (fun hHeld => ?_)
            (try simp only [Act.put, List.setIfInBounds_toArray, List.set_cons_zero, List.set_cons_succ])
            refine takeAt' (i := 13) (some 24) (v := ?_) rfl rfl (by kernel_rfl) (by kernel_rfl) (by kernel_rfl) (fun _ _ _ h => h) (Or.inl ⟨by rfl, ?_⟩) (by assumption) ?_
            rotate_left
            (focus (intro w hSw; (try dsimp only at hSw); go_simp; (try with_reducible rfl)))
            (try simp only [Act.put, List.setIfInBounds_toArray, List.set_cons_zero, List.set_cons_succ])
            refine takeAt' (i := 14) (some 25) (v := ?_) rfl rfl (by kernel_rfl) (by kernel_rfl) (by kernel_rfl) (fun _ _ _ h => h) (Or.inl ⟨by rfl, ?_⟩) (by assumption) ?_
            rotate_left
            (focus (intro w hSw; (try dsimp only at hSw); go_simp; (try with_reducible rfl)))
            (try simp only [Act.put, List.setIfInBounds_toArray, List.set_cons_zero, List.set_cons_succ])
            refine wpAnyH_ready (rs := [15]) (by kernel_rfl) (by simp) ?_
            refine AllReadyH.cons rfl (fun K hK => ?_) AllReadyH.nil
            go_simp
            refine hK.out _ _ trivial (fun hHeld => ?_)
            (try simp only [Act.put, List.setIfInBounds_toArray, List.set_cons_zero, List.set_cons_succ])
            refine wpAnyH_done (by kernel_rfl) ?_ _
            go_wp2
            go_returns
            exact ⟨rfl, _, w.heap.size, (w.heap.size + 1), (w.heap.size + 1 + 1), hgw.out⟩
      · skip
        go_simp
        refine hK.out _ _ trivial (fun hHeld => ?_)
        (try simp only [Act.put, List.setIfInBounds_toArray, List.set_cons_zero, List.set_cons_succ])
        obtain ⟨W3, hW3⟩ : ∃ W3, W3 = ((w.alloc (.cells (madeCells #[.int .u8 0] n) 5)).alloc (.cells (madeCells #[.int .u8 0] n) 5)).alloc (.map #[] 0) := ⟨_, rfl⟩
        have hb3 : Below w.heap.size w W3 := by rw [hW3]; (repeat' (first | (with_reducible exact Below.refl _ _) | (with_reducible assumption) | (with_reducible refine Below.setCell ?_ ?_ _) | (with_reducible refine Below.alloc ?_ ?_ _) | (with_reducible refine Below.drew ?_) | (with_reducible refine below_drewN ?_ _) | (with_reducible refine below_next ?_ (by with_reducible assumption)) | omega | (dsimp only; omega) | (simp only [World.size_alloc, World.size_setCell, World.size_drew, World.heap_drewN]; omega)))
        have ha3 := alloc3 w (.cells (madeCells #[.int .u8 0] n) 5) (.cells (madeCells #[.int .u8 0] n) 5) (.map #[] 0)
        rw [← hW3] at ha3 ⊢
        have HA := Lib.hid ha3
        have HZ3 := Lib.hid ha3.2.2.2
        clear ha3 hW3
        have u3 : W3.cell? ⟨rm, 0, none⟩ = some s := (hb3.cell (p := ⟨rm, 0, none⟩) hrm).trans t0
        refine takeAt' (i := 10) (some 21) (v := ?_) rfl rfl (by kernel_rfl) (by kernel_rfl) (by kernel_rfl) (fun _ _ _ h => h) (Or.inl ⟨by rfl, ?_⟩) (by assumption) ?_
        rotate_left
        (focus (intro w hSw; (try dsimp only at hSw); go_simp; (try with_reducible rfl)))
        (try simp only [Act.put, List.setIfInBounds_toArray, List.set_cons_zero, List.set_cons_succ])
        refine wpAnyH_ready (rs := [4, 11]) (by kernel_rfl) (by simp) ?_
        refine (AllReadyH.cons rfl (fun K hK => ?_) (AllReadyH.cons rfl (fun K hK => ?_) AllReadyH.nil))
        · skip
          go_simp
          refine hK.out _ _ trivial (fun hHeld => ?_)
          (try simp only [Act.put, List.setIfInBounds_toArray, List.set_cons_zero, List.set_cons_succ])
          refine wpAnyH_ready (rs := [11]) (by kernel_rfl) (by simp) ?_
          refine (AllReadyH.cons rfl (fun K hK => ?_) AllReadyH.nil)
          · skip
            go_simp
            refine hK.out _ _ trivial (fun hHeld => ?_)
            (try simp only [Act.put, List.setIfInBounds_toArray, List.set_cons_zero, List.set_cons_succ])
            obtain ⟨W4, hW4⟩ : ∃ W4, W4 = W3.alloc (.cells #[.slice (some ⟨w.heap.size, 0, none⟩) n n, .slice (some ⟨(w.heap.size + 1), 0, none⟩) n n, .map (some (w.heap.size + 1 + 1)), .bool true, .bool false] 67) := ⟨_, rfl⟩
            have hb4 : Below w.heap.size w W4 := by have hz3 := HZ3.out; rw [hW4]; (repeat' (first | (with_reducible exact Below.refl _ _) | (with_reducible assumption) | (with_reducible refine Below.setCell ?_ ?_ _) | (with_reducible refine Below.alloc ?_ ?_ _) | (with_reducible refine Below.drew ?_) | (with_reducible refine below_drewN ?_ _) | (with_reducible refine below_next ?_ (by with_reducible assumption)) | omega | (dsimp only; omega) | (simp only [World.size_alloc, World.size_setCell, World.size_drew, World.heap_drewN]; omega)))
            have hb34 : Below W3.heap.size W3 W4 := by rw [hW4]; (repeat' (first | (with_reducible exact Below.refl _ _) | (with_reducible assumption) | (with_reducible refine Below.setCell ?_ ?_ _) | (with_reducible refine Below.alloc ?_ ?_ _) | (with_reducible refine Below.drew ?_) | (with_reducible refine below_drewN ?_ _) | (with_reducible refine below_next ?_ (by with_reducible assumption)) | omega | (dsimp only; omega) | (simp only [World.size_alloc, World.size_setCell, World.size_drew, World.heap_drewN]; omega)))
            have hz4 : W4.heap.size = w.heap.size + 3 + 1 := by rw [hW4, World.size_alloc, HZ3.out]
            have hblk := blk_at W3 n w.heap.size (w.heap.size + 1) (w.heap.size + 1 + 1)
            rw [← hW4] at hblk ⊢
            clear hW4
            have u4 : W4.cell? ⟨rm, 0, none⟩ = some s := (hb4.cell (p := ⟨rm, 0, none⟩) hrm).trans t0
            refine wpAnyH_ready (rs := [12]) (by kernel_rfl) (by simp) ?_
            refine AllReadyH.cons rfl (fun K hK => ?_) AllReadyH.nil
            refine step_append_one (w := W4.drew) base rfl (.tmp 15) (.tmp 22) 27 rfl 67 ib _ 5 64 Try.underlying27 HI.out.1 HI.out.2.1 HI.out.2.2.1 HI.out.2.2.2 rfl (by decide) s R.length (R.flatMap RB.cells) rfl (row_keep HH.out.row (fun i hi => hb4.block i (HH.out.row.lt i hi).2)).drew ⟨W3.heap.size, 0, none⟩ 1 1 (newRB w.heap.size (w.heap.size + 1) (w.heap.size + 1 + 1) n).cells rfl rfl hblk (newRB_one _ _ _ _) (by unfold maxLen; omega) hlen (by show base ≤ W4.heap.size; omega) ?_
            intro v' W5 hrow hgr hnew
            have hz3 := HZ3.out
            have e7 : W4.heap[w.heap.size]? = some (.cells ((List.replicate n (0 : Int)).map (Value.int .u8)).toArray 5 (0, 0)) := by rw [hb34.block w.heap.size (by omega), ← made8]; exact HA.out.1
            have e8 : W4.heap[(w.heap.size + 1)]? = some (.cells ((List.replicate n (0 : Int)).map (Value.int .u8)).toArray 5 (0, 0)) := by rw [hb34.block (w.heap.size + 1) (by omega), ← made8]; exact HA.out.2.1
            have e9 : W4.heap[(w.heap.size + 1 + 1)]? = some (.map #[] 0) := by rw [hb34.block (w.heap.size + 1 + 1) (by omega)]; exact HA.out.2.2.1
            have hgw := Lib.hid (HH.out.grow (W4 := W4.drew) (W5 := W5) (v' := v') hcap n hn w.heap.size (w.heap.size + 1) (w.heap.size + 1 + 1) hb4.drew e7 e8 e9 ⟨by omega, by omega, by omega, by omega⟩ hrow hgr hnew)
            obtain ⟨A', c', hv'⟩ := row_form hrow
            have hcr := (hgr.block rm (by show rm < W4.heap.size; omega) HH.out.rm_ne).trans (hb4.block rm hrm)
            have u5 : W5.cell? ⟨rm, 0, none⟩ = some s := (World.cell?_of_block (a := ⟨rm, 0, none⟩) hcr).trans t0
            have v5 : W5.frozen? ⟨rm, 0, none⟩ = false := (World.frozen?_of_block (a := ⟨rm, 0, none⟩) hcr).trans f0
            have hA3 := cell_set_if
            subst hv'
            clear hz3 hrow hgr hnew e7 e8 e9 hblk hcr hms hmm hc1 hc2 hc3
            refine hK.out _ _ trivial (fun hHeld => ?_)
            (try simp only [Act.put, List.setIfInBounds_toArray, List.set_cons_zero, List.set_cons_succ])
            refine takeAt' (i := 13) (some 24) (v := ?_) rfl rfl (by kernel_rfl) (by kernel_rfl) (by kernel_rfl) (fun _ _ _ h => h) (Or.inl ⟨by rfl, ?_⟩) (by assumption) ?_
            rotate_left
            (focus (intro w hSw; (try dsimp only at hSw); go_simp; (try with_reducible rfl)))
            (try simp only [Act.put, List.setIfInBounds_toArray, List.set_cons_zero, List.set_cons_succ])
            refine takeAt' (i := 14) (some 25) (v := ?_) rfl rfl (by kernel_rfl) (by kernel_rfl) (by kernel_rfl) (fun _ _ _ h => h) (Or.inl ⟨by rfl, ?_⟩) (by assumption) ?_
            rotate_left
            (focus (intro w hSw; (try dsimp only at hSw); go_simp; (try with_reducible rfl)))
            (try simp only [Act.put, List.setIfInBounds_toArray, List.set_cons_zero, List.set_cons_succ])
            refine wpAnyH_ready (rs := [15]) (by kernel_rfl) (by simp) ?_
            refine AllReadyH.cons rfl (fun K hK => ?_) AllReadyH.nil
            go_simp
            refine hK.out _ _ trivial (fun hHeld => ?_)
            (try simp only [Act.put, List.setIfInBounds_toArray, List.set_cons_zero, List.set_cons_succ])
            refine wpAnyH_done (by kernel_rfl) ?_ _
            go_wp2
            go_returns
            exact ⟨rfl, _, w.heap.size, (w.heap.size + 1), (w.heap.size + 1 + 1), hgw.out⟩
        · skip
          go_simp
          refine hK.out _ _ trivial (fun hHeld => ?_)
          (try simp only [Act.put, List.setIfInBounds_toArray, List.set_cons_zero, List.set_cons_succ])
          obtain ⟨W4, hW4⟩ : ∃ W4, W4 = W3.alloc (.cells #[.slice (some ⟨w.heap.size, 0, none⟩) n n, .slice (some ⟨(w.heap.size + 1), 0, none⟩) n n, .map (some (w.heap.size + 1 + 1)), .bool true, .bool false] 67) := ⟨_, rfl⟩
          have hb4 : Below w.heap.size w W4 := by have hz3 := HZ3.out; rw [hW4]; (repeat' (first | (with_reducible exact Below.refl _ _) | (with_reducible assumption) | (with_reducible refine Below.setCell ?_ ?_ _) | (with_reducible refine Below.alloc ?_ ?_ _) | (with_reducible refine Below.drew ?_) | (with_reducible refine below_drewN ?_ _) | (with_reducible refine below_next ?_ (by with_reducible assumption)) | omega | (dsimp only; omega) | (simp only [World.size_alloc, World.size_setCell, World.size_drew, World.heap_drewN]; omega)))
          have hb34 : Below W3.heap.size W3 W4 := by rw [hW4]; (repeat' (first | (with_reducible exact Below.refl _ _) | (with_reducible assumption) | (with_reducible refine Below.setCell ?_ ?_ _) | (with_reducible refine Below.alloc ?_ ?_ _) | (with_reducible refine Below.drew ?_) | (with_reducible refine below_drewN ?_ _) | (with_reducible refine below_next ?_ (by with_reducible assumption)) | omega | (dsimp only; omega) | (simp only [World.size_alloc, World.size_setCell, World.size_drew, World.heap_drewN]; omega)))
          have hz4 : W4.heap.size = w.heap.size + 3 + 1 := by rw [hW4, World.size_alloc, HZ3.out]
          have hblk := blk_at W3 n w.heap.size (w.heap.size + 1) (w.heap.size + 1 + 1)
          rw [← hW4] at hblk ⊢
          clear hW4
          have u4 : W4.cell? ⟨rm, 0, none⟩ = some s := (hb4.cell (p := ⟨rm, 0, none⟩) hrm).trans t0
          refine wpAnyH_ready (rs := [4]) (by kernel_rfl) (by simp) ?_
          refine (AllReadyH.cons rfl (fun K hK => ?_) AllReadyH.nil)
          · skip
            go_simp
            refine hK.out _ _ trivial (fun hHeld => ?_)
            (try simp only [Act.put, List.setIfInBounds_toArray, List.set_cons_zero, List.set_cons_succ])
            refine wpAnyH_ready (rs := [12]) (by kernel_rfl) (by simp) ?_
            refine AllReadyH.cons rfl (fun K hK => ?_) AllReadyH.nil
            refine step_append_one (w := W4.drew) base rfl (.tmp 15) (.tmp 22) 27 rfl 67 ib _ 5 64 Try.underlying27 HI.out.1 HI.out.2.1 HI.out.2.2.1 HI.out.2.2.2 rfl (by decide) s R.length (R.flatMap RB.cells) rfl (row_keep HH.out.row (fun i hi => hb4.block i (HH.out.row.lt i hi).2)).drew ⟨W3.heap.size, 0, none⟩ 1 1 (newRB w.heap.size (w.heap.size + 1) (w.heap.size + 1 + 1) n).cells rfl rfl hblk (newRB_one _ _ _ _) (by unfold maxLen; omega) hlen (by show base ≤ W4.heap.size; omega) ?_
            intro v' W5 hrow hgr hnew
            have hz3 := HZ3.out
            have e7 : W4.heap[w.heap.size]? = some (.cells ((List.replicate n (0 : Int)).map (Value.int .u8)).toArray 5 (0, 0)) := by rw [hb34.block w.heap.size (by omega), ← made8]; exact HA.out.1
            have e8 : W4.heap[(w.heap.size + 1)]? = some (.cells ((List.replicate n (0 : Int)).map (Value.int .u8)).toArray 5 (0, 0)) := by rw [hb34.block (w.heap.size + 1) (by omega), ← made8]; exact HA.out.2.1
            have e9 : W4.heap[(w.heap.size + 1 + 1)]? = some (.map #[] 0) := by rw [hb34.block (w.heap.size + 1 + 1) (by omega)]; exact HA.out.2.2.1
            have hgw := Lib.hid (HH.out.grow (W4 := W4.drew) (W5 := W5) (v' := v') hcap n hn w.heap.size (w.heap.size + 1) (w.heap.size + 1 + 1) hb4.drew e7 e8 e9 ⟨by omega, by omega, by omega, by omega⟩ hrow hgr hnew)
            obtain ⟨A', c', hv'⟩ := row_form hrow
            have hcr := (hgr.block rm (by show rm < W4.heap.size; omega) HH.out.rm_ne).trans (hb4.block rm hrm)
            have u5 : W5.cell? ⟨rm, 0, none⟩ = some s := (World.cell?_of_block (a := ⟨rm, 0, none⟩) hcr).trans t0
            have v5 : W5.frozen? ⟨rm, 0, none⟩ = false := (World.frozen?_of_block (a := ⟨rm, 0, none⟩) hcr).trans f0
            have hA3 := cell_set_if
            subst hv'
            clear hz3 hrow hgr hnew e7 e8 e9 hblk hcr hms hmm hc1 hc2 hc3
            refine hK.out _ _ trivial (fun hHeld => ?_)
            (try simp only [Act.put, List.setIfInBounds_toArray, List.set_cons_zero, List.set_cons_succ])
            refine takeAt' (i := 13) (some 24) (v := ?_) rfl rfl (by kernel_rfl) (by kernel_rfl) (by kernel_rfl) (fun _ _ _ h => h) (Or.inl ⟨by rfl, ?_⟩) (by assumption) ?_
            rotate_left
            (focus (intro w hSw; (try dsimp only at hSw); go_simp; (try with_reducible rfl)))
            (try simp only [Act.put, List.setIfInBounds_toArray, List.set_cons_zero, List.set_cons_succ])
            refine takeAt' (i := 14) (some 25) (v := ?_) rfl rfl (by kernel_rfl) (by kernel_rfl) (by kernel_rfl) (fun _ _ _ h => h) (Or.inl ⟨by rfl, ?_⟩) (by assumption) ?_
            rotate_left
            (focus (intro w hSw; (try dsimp only at hSw); go_simp; (try with_reducible rfl)))
            (try simp only [Act.put, List.setIfInBounds_toArray, List.set_cons_zero, List.set_cons_succ])
            refine wpAnyH_ready (rs := [15]) (by kernel_rfl) (by simp) ?_
            refine AllReadyH.cons rfl (fun K hK => ?_) AllReadyH.nil
            go_simp
            refine hK.out _ _ trivial (fun hHeld => ?_)
            (try simp only [Act.put, List.setIfInBounds_toArray, List.set_cons_zero, List.set_cons_succ])
            refine wpAnyH_done (by kernel_rfl) ?_ _
            go_wp2
            go_returns
            exact ⟨rfl, _, w.heap.size, (w.heap.size + 1), (w.heap.size + 1 + 1), hgw.out⟩
    · skip
      go_simp
      refine hK.out _ _ trivial (fun hHeld => ?_)
      (try simp only [Act.put, List.setIfInBounds_toArray, List.set_cons_zero, List.set_cons_succ])
      refine wpAnyH_ready (rs := [4, 8]) (by kernel_rfl) (by simp) ?_
      refine (AllReadyH.cons rfl (fun K hK => ?_) (AllReadyH.cons rfl (fun K hK => ?_) AllReadyH.nil))
      · skip
        go_simp
        refine hK.out _ _ trivial (fun hHeld => ?_)
        (try simp only [Act.put, List.setIfInBounds_toArray, List.set_cons_zero, List.set_cons_succ])
        refine wpAnyH_ready (rs := [8]) (by kernel_rfl) (by simp) ?_
        refine (AllReadyH.cons rfl (fun K hK => ?_) AllReadyH.nil)
        · skip
          go_simp
          refine hK.out _ _ trivial (fun hHeld => ?_)
          (try simp only [Act.put, List.setIfInBounds_toArray, List.set_cons_zero, List.set_cons_succ])
          obtain ⟨W3, hW3⟩ : ∃ W3, W3 = ((w.alloc (.cells (madeCells #[.int .u8 0] n) 5)).alloc (.map #[] 0)).alloc (.cells (madeCells #[.int .u8 0] n) 5) := ⟨_, rfl⟩
          have hb3 : Below w.heap.size w W3 := by rw [hW3]; (repeat' (first | (with_reducible exact Below.refl _ _) | (with_reducible assumption) | (with_reducible refine Below.setCell ?_ ?_ _) | (with_reducible refine Below.alloc ?_ ?_ _) | (with_reducible refine Below.drew ?_) | (with_reducible refine below_drewN ?_ _) | (with_reducible refine below_next ?_ (by with_reducible assumption)) | omega | (dsimp only; omega) | (simp only [World.size_alloc, World.size_setCell, World.size_drew, World.heap_drewN]; omega)))
          have ha3 := alloc3 w (.cells (madeCells #[.int .u8 0] n) 5) (.map #[] 0) (.cells (madeCells #[.int .u8 0] n) 5)
          rw [← hW3] at ha3 ⊢
          have HA := Lib.hid ha3
          have HZ3 := Lib.hid ha3.2.2.2
          clear ha3 hW3
          have u3 : W3.cell? ⟨rm, 0, none⟩ = some s := (hb3.cell (p := ⟨rm, 0, none⟩) hrm).trans t0
          refine takeAt' (i := 10) (some 21) (v := ?_) rfl rfl (by kernel_rfl) (by kernel_rfl) (by kernel_rfl) (fun _ _ _ h => h) (Or.inl ⟨by rfl, ?_⟩) (by assumption) ?_
          rotate_left
          (focus (intro w hSw; (try dsimp only at hSw); go_simp; (try with_reducible rfl)))
          (try simp only [Act.put, List.setIfInBounds_toArray, List.set_cons_zero, List.set_cons_succ])
          refine wpAnyH_ready (rs := [11]) (by kernel_rfl) (by simp) ?_
          refine (AllReadyH.cons rfl (fun K hK => ?_) AllReadyH.nil)
          · skip
            go_simp
            refine hK.out _ _ trivial (fun hHeld => ?_)
            (try simp only [Act.put, List.setIfInBounds_toArray, List.set_cons_zero, List.set_cons_succ])
            obtain ⟨W4, hW4⟩ : ∃ W4, W4 = W3.alloc (.cells #[.slice (some ⟨w.heap.size, 0, none⟩) n n, .slice (some ⟨(w.heap.size + 1 + 1), 0, none⟩) n n, .map (some (w.heap.size + 1)), .bool true, .bool false] 67) := ⟨_, rfl⟩
            have hb4 : Below w.heap.size w W4 := by have hz3 := HZ3.out; rw [hW4]; (repeat' (first | (with_reducible exact Below.refl _ _) | (with_reducible assumption) | (with_reducible refine Below.setCell ?_ ?_ _) | (with_reducible refine Below.alloc ?_ ?_ _) | (with_reducible refine Below.drew ?_) | (with_reducible refine below_drewN ?_ _) | (with_reducible refine below_next ?_ (by with_reducible assumption)) | omega | (dsimp only; omega) | (simp only [World.size_alloc, World.size_setCell, World.size_drew, World.heap_drewN]; omega)))
            have hb34 : Below W3.heap.size W3 W4 := by rw [hW4]; (repeat' (first | (with_reducible exact Below.refl _ _) | (with_reducible assumption) | (with_reducible refine Below.setCell ?_ ?_ _) | (with_reducible refine Below.alloc ?_ ?_ _) | (with_reducible refine Below.drew ?_) | (with_reducible refine below_drewN ?_ _) | (with_reducible refine below_next ?_ (by with_reducible assumption)) | omega | (dsimp only; omega) | (simp only [World.size_alloc, World.size_setCell, World.size_drew, World.heap_drewN]; omega)))
            have hz4 : W4.heap.size = w.heap.size + 3 + 1 := by rw [hW4, World.size_alloc, HZ3.out]
            have hblk := blk_at W3 n w.heap.size (w.heap.size + 1 + 1) (w.heap.size + 1)
            rw [← hW4] at hblk ⊢
            clear hW4
            have u4 : W4.cell? ⟨rm, 0, none⟩ = some s := (hb4.cell (p := ⟨rm, 0, none⟩) hrm).trans t0
            refine wpAnyH_ready (rs := [12]) (by kernel_rfl) (by simp) ?_
            refine AllReadyH.cons rfl (fun K hK => ?_) AllReadyH.nil
            refine step_append_one (w := W4.drew) base rfl (.tmp 15) (.tmp 22) 27 rfl 67 ib _ 5 64 Try.underlying27 HI.out.1 HI.out.2.1 HI.out.2.2.1 HI.out.2.2.2 rfl (by decide) s R.length (R.flatMap RB.cells) rfl (row_keep HH.out.row (fun i hi => hb4.block i (HH.out.row.lt i hi).2)).drew ⟨W3.heap.size, 0, none⟩ 1 1 (newRB w.heap.size (w.heap.size + 1 + 1) (w.heap.size + 1) n).cells rfl rfl hblk (newRB_one _ _ _ _) (by unfold maxLen; omega) hlen (by show base ≤ W4.heap.size; omega) ?_
            intro v' W5 hrow hgr hnew
            have hz3 := HZ3.out
            have e7 : W4.heap[w.heap.size]? = some (.cells ((List.replicate n (0 : Int)).map (Value.int .u8)).toArray 5 (0, 0)) := by rw [hb34.block w.heap.size (by omega), ← made8]; exact HA.out.1
            have e8 : W4.heap[(w.heap.size + 1 + 1)]? = some (.cells ((List.replicate n (0 : Int)).map (Value.int .u8)).toArray 5 (0, 0)) := by rw [hb34.block (w.heap.size + 1 + 1) (by omega), ← made8]; exact HA.out.2.2.1
            have e9 : W4.heap[(w.heap.size + 1)]? = some (.map #[] 0) := by rw [hb34.block (w.heap.size + 1) (by omega)]; exact HA.out.2.1
            have hgw := Lib.hid (HH.out.grow (W4 := W4.drew) (W5 := W5) (v' := v') hcap n hn w.heap.size (w.heap.size + 1 + 1) (w.heap.size + 1) hb4.drew e7 e8 e9 ⟨by omega, by omega, by omega, by omega⟩ hrow hgr hnew)
            obtain ⟨A', c', hv'⟩ := row_form hrow
            have hcr := (hgr.block rm (by show rm < W4.heap.size; omega) HH.out.rm_ne).trans (hb4.block rm hrm)
            have u5 : W5.cell? ⟨rm, 0, none⟩ = some s := (World.cell?_of_block (a := ⟨rm, 0, none⟩) hcr).trans t0
            have v5 : W5.frozen? ⟨rm, 0, none⟩ = false := (World.frozen?_of_block (a := ⟨rm, 0, none⟩) hcr).trans f0
            have hA3 := cell_set_if
            subst hv'
            clear hz3 hrow hgr hnew e7 e8 e9 hblk hcr hms hmm hc1 hc2 hc3
            refine hK.out _ _ trivial (fun hHeld => ?_)
            (try simp only [Act.put, List.setIfInBounds_toArray, List.set_cons_zero, List.set_cons_succ])
            refine takeAt' (i := 13) (some 24) (v := ?_) rfl rfl (by kernel_rfl) (by kernel_rfl) (by kernel_rfl) (fun _ _ _ h => h) (Or.inl ⟨by rfl, ?_⟩) (by assumption) ?_
            rotate_left
            (focus (intro w hSw; (try dsimp only at hSw); go_simp; (try with_reducible rfl)))
            (try simp only [Act.put, List.setIfInBounds_toArray, List.set_cons_zero, List.set_cons_succ])
            refine takeAt' (i := 14) (some 25) (v := ?_) rfl rfl (by kernel_rfl) (by kernel_rfl) (by kernel_rfl) (fun _ _ _ h => h) (Or.inl ⟨by rfl, ?_⟩) (by assumption) ?_
            rotate_left
            (focus (intro w hSw; (try dsimp only at hSw); go_simp; (try with_reducible rfl)))
            (try simp only [Act.put, List.setIfInBounds_toArray, List.set_cons_zero, List.set_cons_succ])
            refine wpAnyH_ready (rs := [15]) (by kernel_rfl) (by simp) ?_
            refine AllReadyH.cons rfl (fun K hK => ?_) AllReadyH.nil
            go_simp
            refine hK.out _ _ trivial (fun hHeld => ?_)
            (try simp only [Act.put, List.setIfInBounds_toArray, List.set_cons_zero, List.set_cons_succ])
            refine wpAnyH_done (by kernel_rfl) ?_ _
            go_wp2
            go_returns
            exact ⟨rfl, _, w.heap.size, (w.heap.size + 1 + 1), (w.heap.size + 1), hgw.out⟩
      · skip
        go_simp
        refine hK.out _ _ trivial (fun hHeld => ?_)
        (try simp only [Act.put, List.setIfInBounds_toArray, List.set_cons_zero, List.set_cons_succ])
        obtain ⟨W3, hW3⟩ : ∃ W3, W3 = ((w.alloc (.cells (madeCells #[.int .u8 0] n) 5)).alloc (.map #[] 0)).alloc (.cells (madeCells #[.int .u8 0] n) 5) := ⟨_, rfl⟩
        have hb3 : Below w.heap.size w W3 := by rw [hW3]; (repeat' (first | (with_reducible exact Below.refl _ _) | (with_reducible assumption) | (with_reducible refine Below.setCell ?_ ?_ _) | (with_reducible refine Below.alloc ?_ ?_ _) | (with_reducible refine Below.drew ?_) | (with_reducible refine below_drewN ?_ _) | (with_reducible refine below_next ?_ (by with_reducible assumption)) | omega | (dsimp only; omega) | (simp only [World.size_alloc, World.size_setCell, World.size_drew, World.heap_drewN]; omega)))
        have ha3 := alloc3 w (.cells (madeCells #[.int .u8 0] n) 5) (.map #[] 0) (.cells (madeCells #[.int .u8 0] n) 5)
        rw [← hW3] at ha3 ⊢
        have HA := Lib.hid ha3
        have HZ3 := Lib.hid ha3.2.2.2
        clear ha3 hW3
        have u3 : W3.cell? ⟨rm, 0, none⟩ = some s := (hb3.cell (p := ⟨rm, 0, none⟩) hrm).trans t0
        refine takeAt' (i := 10) (some 21) (v := ?_) rfl rfl (by kernel_rfl) (by kernel_rfl) (by kernel_rfl) (fun _ _ _ h => h) (Or.inl ⟨by rfl, ?_⟩) (by assumption) ?_
        rotate_left
        (focus (intro w hSw; (try dsimp only at hSw); go_simp; (try with_reducible rfl)))
        (try simp only [Act.put, List.setIfInBounds_toArray, List.set_cons_zero, List.set_cons_succ])
        refine wpAnyH_ready (rs := [4, 11]) (by kernel_rfl) (by simp) ?_
        refine (AllReadyH.cons rfl (fun K hK => ?_) (AllReadyH.cons rfl (fun K hK => ?_) AllReadyH.nil))
        · skip
          go_simp
          refine hK.out _ _ trivial (fun hHeld => ?_)
          (try simp only [Act.put, List.setIfInBounds_toArray, List.set_cons_zero, List.set_cons_succ])
          refine wpAnyH_ready (rs := [11]) (by kernel_rfl) (by simp) ?_
          refine (AllReadyH.cons rfl (fun K hK => ?_) AllReadyH.nil)
          · skip
            go_simp
            refine hK.out _ _ trivial (fun hHeld => ?_)
            (try simp only [Act.put, List.setIfInBounds_toArray, List.set_cons_zero, List.set_cons_succ])
            obtain ⟨W4, hW4⟩ : ∃ W4, W4 = W3.alloc (.cells #[.slice (some ⟨w.heap.size, 0, none⟩) n n, .slice (some ⟨(w.heap.size + 1 + 1), 0, none⟩) n n, .map (some (w.heap.size + 1)), .bool true, .bool false] 67) := ⟨_, rfl⟩
            have hb4 : Below w.heap.size w W4 := by have hz3 := HZ3.out; rw [hW4]; (repeat' (first | (with_reducible exact Below.refl _ _) | (with_reducible assumption) | (with_reducible refine Below.setCell ?_ ?_ _) | (with_reducible refine Below.alloc ?_ ?_ _) | (with_reducible refine Below.drew ?_) | (with_reducible refine below_drewN ?_ _) | (with_reducible refine below_next ?_ (by with_reducible assumption)) | omega | (dsimp only; omega) | (simp only [World.size_alloc, World.size_setCell, World.size_drew, World.heap_drewN]; omega)))
            have hb34 : Below W3.heap.size W3 W4 := by rw [hW4]; (repeat' (first | (with_reducible exact Below.refl _ _) | (with_reducible assumption) | (with_reducible refine Below.setCell ?_ ?_ _) | (with_reducible refine Below.alloc ?_ ?_ _) | (with_reducible refine Below.drew ?_) | (with_reducible refine below_drewN ?_ _) | (with_reducible refine below_next ?_ (by with_reducible assumption)) | omega | (dsimp only; omega) | (simp only [World.size_alloc, World.size_setCell, World.size_drew, World.heap_drewN]; omega)))
            have hz4 : W4.heap.size = w.heap.size + 3 + 1 := by rw [hW4, World.size_alloc, HZ3.out]
            have hblk := blk_at W3 n w.heap.size (w.heap.size + 1 + 1) (w.heap.size + 1)
            rw [← hW4] at hblk ⊢
            clear hW4
            have u4 : W4.cell? ⟨rm, 0, none⟩ = some s := (hb4.cell (p := ⟨rm, 0, none⟩) hrm).trans t0
            refine wpAnyH_ready (rs := [12]) (by kernel_rfl) (by simp) ?_
            refine AllReadyH.cons rfl (fun K hK => ?_) AllReadyH.nil
            refine step_append_one (w := W4.drew) base rfl (.tmp 15) (.tmp 22) 27 rfl 67 ib _ 5 64 Try.underlying27 HI.out.1 HI.out.2.1 HI.out.2.2.1 HI.out.2.2.2 rfl (by decide) s R.length (R.flatMap RB.cells) rfl (row_keep HH.out.row (fun i hi => hb4.block i (HH.out.row.lt i hi).2)).drew ⟨W3.heap.size, 0, none⟩ 1 1 (newRB w.heap.size (w.heap.size + 1 + 1) (w.heap.size + 1) n).cells rfl rfl hblk (newRB_one _ _ _ _) (by unfold maxLen; omega) hlen (by show base ≤ W4.heap.size; omega) ?_
            intro v' W5 hrow hgr hnew
            have hz3 := HZ3.out
            have e7 : W4.heap[w.heap.size]? = some (.cells ((List.replicate n (0 : Int)).map (Value.int .u8)).toArray 5 (0, 0)) := by rw [hb34.block w.heap.size (by omega), ← made8]; exact HA.out.1
            have e8 : W4.heap[(w.heap.size + 1 + 1)]? = some (.cells ((List.replicate n (0 : Int)).map (Value.int .u8)).toArray 5 (0, 0)) := by rw [hb34.block (w.heap.size + 1 + 1) (by omega), ← made8]; exact HA.out.2.2.1
            have e9 : W4.heap[(w.heap.size + 1)]? = some (.map #[] 0) := by rw [hb34.block (w.heap.size + 1) (by omega)]; exact HA.out.2.1
            have hgw := Lib.hid (HH.out.grow (W4 := W4.drew) (W5 := W5) (v' := v') hcap n hn w.heap.size (w.heap.size + 1 + 1) (w.heap.size + 1) hb4.drew e7 e8 e9 ⟨by omega, by omega, by omega, by omega⟩ hrow hgr hnew)
            obtain ⟨A', c', hv'⟩ := row_form hrow
            have hcr := (hgr.block rm (by show rm < W4.heap.size; omega) HH.out.rm_ne).trans (hb4.block rm hrm)
            have u5 : W5.cell? ⟨rm, 0, none⟩ = some s := (World.cell?_of_block (a := ⟨rm, 0, none⟩) hcr).trans t0
            have v5 : W5.frozen? ⟨rm, 0, none⟩ = false := (World.frozen?_of_block (a := ⟨rm, 0, none⟩) hcr).trans f0
            have hA3 := cell_set_if
            subst hv'
            clear hz3 hrow hgr hnew e7 e8 e9 hblk hcr hms hmm hc1 hc2 hc3
            refine hK.out _ _ trivial (fun hHeld => ?_)
            (try simp only [Act.put, List.setIfInBounds_toArray, List.set_cons_zero, List.set_cons_succ])
            refine takeAt' (i := 13) (some 24) (v := ?_) rfl rfl (by kernel_rfl) (by kernel_rfl) (by kernel_rfl) (fun _ _ _ h => h) (Or.inl ⟨by rfl, ?_⟩) (by assumption) ?_
            rotate_left
            (focus (intro w hSw; (try dsimp only at hSw); go_simp; (try with_reducible rfl)))
            (try simp only [Act.put, List.setIfInBounds_toArray, List.set_cons_zero, List.set_cons_succ])
            refine takeAt' (i := 14) (some 25) (v := ?_) rfl rfl (by kernel_rfl) (by kernel_rfl) (by kernel_rfl) (fun _ _ _ h => h) (Or.inl ⟨by rfl, ?_⟩) (by assumption) ?_
            rotate_left
            (focus (intro w hSw; (try dsimp only at hSw); go_simp; (try with_reducible rfl)))
            (try simp only [Act.put, List.setIfInBounds_toArray, List.set_cons_zero, List.set_cons_succ])
            refine wpAnyH_ready (rs := [15]) (by kernel_rfl) (by simp) ?_
            refine AllReadyH.cons rfl (fun K hK => ?_) AllReadyH.nil
            go_simp
            refine hK.out _ _ trivial (fun hHeld => ?_)
            (try simp only [Act.put, List.setIfInBounds_toArray, List.set_cons_zero, List.set_cons_succ])
            refine wpAnyH_done (by kernel_rfl) ?_ _
            go_wp2
            go_returns
            exact ⟨rfl, _, w.heap.size, (w.heap.size + 1 + 1), (w.heap.size + 1), hgw.out⟩
        · skip
          go_simp
          refine hK.out _ _ trivial (fun hHeld => ?_)
          (try simp only [Act.put, List.setIfInBounds_toArray, List.set_cons_zero, List.set_cons_succ])
          obtain ⟨W4, hW4⟩ : ∃ W4, W4 = W3.alloc (.cells #[.slice (some ⟨w.heap.size, 0, none⟩) n n, .slice (some ⟨(w.heap.size + 1 + 1), 0, none⟩) n n, .map (some (w.heap.size + 1)), .bool true, .bool false] 67) := ⟨_, rfl⟩
          have hb4 : Below w.heap.size w W4 := by have hz3 := HZ3.out; rw [hW4]; (repeat' (first | (with_reducible exact Below.refl _ _) | (with_reducible assumption) | (with_reducible refine Below.setCell ?_ ?_ _) | (with_reducible refine Below.alloc ?_ ?_ _) | (with_reducible refine Below.drew ?_) | (with_reducible refine below_drewN ?_ _) | (with_reducible refine below_next ?_ (by with_reducible assumption)) | omega | (dsimp only; omega) | (simp only [World.size_alloc, World.size_setCell, World.size_drew, World.heap_drewN]; omega)))
          have hb34 : Below W3.heap.size W3 W4 := by rw [hW4]; (repeat' (first | (with_reducible exact Below.refl _ _) | (with_reducible assumption) | (with_reducible refine Below.setCell ?_ ?_ _) | (with_reducible refine Below.alloc ?_ ?_ _) | (with_reducible refine Below.drew ?_) | (with_reducible refine below_drewN ?_ _) | (with_reducible refine below_next ?_ (by with_reducible assumption)) | omega | (dsimp only; omega) | (simp only [World.size_alloc, World.size_setCell, World.size_drew, World.heap_drewN]; omega)))
          have hz4 : W4.heap.size = w.heap.size + 3 + 1 := by rw [hW4, World.size_alloc, HZ3.out]
          have hblk := blk_at W3 n w.heap.size (w.heap.size + 1 + 1) (w.heap.size + 1)
          rw [← hW4] at hblk ⊢
          clear hW4
          have u4 : W4.cell? ⟨rm, 0, none⟩ = some s := (hb4.cell (p := ⟨rm, 0, none⟩) hrm).trans t0
          refine wpAnyH_ready (rs := [4]) (by kernel_rfl) (by simp) ?_
          refine (AllReadyH.cons rfl (fun K hK => ?_) AllReadyH.nil)
          · skip
            go_simp
            refine hK.out _ _ trivial (fun hHeld => ?_)
            (try simp only [Act.put, List.setIfInBounds_toArray, List.set_cons_zero, List.set_cons_succ])
            refine wpAnyH_ready (rs := [12]) (by kernel_rfl) (by simp) ?_
            refine AllReadyH.cons rfl (fun K hK => ?_) AllReadyH.nil
            refine step_append_one (w := W4.drew) base rfl (.tmp 15) (.tmp 22) 27 rfl 67 ib _ 5 64 Try.underlying27 HI.out.1 HI.out.2.1 HI.out.2.2.1 HI.out.2.2.2 rfl (by decide) s R.length (R.flatMap RB.cells) rfl (row_keep HH.out.row (fun i hi => hb4.block i (HH.out.row.lt i hi).2)).drew ⟨W3.heap.size, 0, none⟩ 1 1 (newRB w.heap.size (w.heap.size + 1 + 1) (w.heap.size + 1) n).cells rfl rfl hblk (newRB_one _ _ _ _) (by unfold maxLen; omega) hlen (by show base ≤ W4.heap.size; omega) ?_
            intro v' W5 hrow hgr hnew
            have hz3 := HZ3.out
            have e7 : W4.heap[w.heap.size]? = some (.cells ((List.replicate n (0 : Int)).map (Value.int .u8)).toArray 5 (0, 0)) := by rw [hb34.block w.heap.size (by omega), ← made8]; exact HA.out.1
            have e8 : W4.heap[(w.heap.size + 1 + 1)]? = some (.cells ((List.replicate n (0 : Int)).map (Value.int .u8)).toArray 5 (0, 0)) := by rw [hb34.block (w.heap.size + 1 + 1) (by omega), ← made8]; exact HA.out.2.2.1
            have e9 : W4.heap[(w.heap.size + 1)]? = some (.map #[] 0) := by rw [hb34.block (w.heap.size + 1) (by omega)]; exact HA.out.2.1
            have hgw := Lib.hid (HH.out.grow (W4 := W4.drew) (W5 := W5) (v' := v') hcap n hn w.heap.size (w.heap.size + 1 + 1) (w.heap.size + 1) hb4.drew e7 e8 e9 ⟨by omega, by omega, by omega, by omega⟩ hrow hgr hnew)
            obtain ⟨A', c', hv'⟩ := row_form hrow
            have hcr := (hgr.block rm (by show rm < W4.heap.size; omega) HH.out.rm_ne).trans (hb4.block rm hrm)
            have u5 : W5.cell? ⟨rm, 0, none⟩ = some s := (World.cell?_of_block (a := ⟨rm, 0, none⟩) hcr).trans t0
            have v5 : W5.frozen? ⟨rm, 0, none⟩ = false := (World.frozen?_of_block (a := ⟨rm, 0, none⟩) hcr).trans f0
            have hA3 := cell_set_if
            subst hv'
            clear hz3 hrow hgr hnew e7 e8 e9 hblk hcr hms hmm hc1 hc2 hc3
            refine hK.out _ _ trivial (fun hHeld => ?_)
            (try simp only [Act.put, List.setIfInBounds_toArray, List.set_cons_zero, List.set_cons_succ])
            refine takeAt' (i := 13) (some 24) (v := ?_) rfl rfl (by kernel_rfl) (by kernel_rfl) (by kernel_rfl) (fun _ _ _ h => h) (Or.inl ⟨by rfl, ?_⟩) (by assumption) ?_
            rotate_left
            (focus (intro w hSw; (try dsimp only at hSw); go_simp; (try with_reducible rfl)))
            (try simp only [Act.put, List.setIfInBounds_toArray, List.set_cons_zero, List.set_cons_succ])
            refine takeAt' (i := 14) (some 25) (v := ?_) rfl rfl (by kernel_rfl) (by kernel_rfl) (by kernel_rfl) (fun _ _ _ h => h) (Or.inl ⟨by rfl, ?_⟩) (by assumption) ?_
            rotate_left
            (focus (intro w hSw; (try dsimp only at hSw); go_simp; (try with_reducible rfl)))
            (try simp only [Act.put, List.setIfInBounds_toArray, List.set_cons_zero, List.set_cons_succ])
            refine wpAnyH_ready (rs := [15]) (by kernel_rfl) (by simp) ?_
            refine AllReadyH.cons rfl (fun K hK => ?_) AllReadyH.nil
            go_simp
            refine hK.out _ _ trivial (fun hHeld => ?_)
            (try simp only [Act.put, List.setIfInBounds_toArray, List.set_cons_zero, List.set_cons_succ])
            refine wpAnyH_done (by kernel_rfl) ?_ _
            go_wp2
            go_returns
            exact ⟨rfl, _, w.heap.size, (w.heap.size + 1 + 1), (w.heap.size + 1), hgw.out⟩
  · skip
    go_simp
    refine hK.out _ _ trivial (fun hHeld => ?_)
    (try simp only [Act.put, List.setIfInBounds_toArray, List.set_cons_zero, List.set_cons_succ])
    refine wpAnyH_ready (rs := [4, 6, 9]) (by kernel_rfl) (by simp) ?_
    refine (AllReadyH.cons rfl (fun K hK => ?_) (AllReadyH.cons rfl (fun K hK => ?_) (AllReadyH.cons rfl (fun K hK => ?_) AllReadyH.nil)))
    · skip
      go_simp
      refine hK.out _ _ trivial (fun hHeld => ?_)
      (try simp only [Act.put, List.setIfInBounds_toArray, List.set_cons_zero, List.set_cons_succ])
      refine wpAnyH_ready (rs := [6, 9]) (by kernel_rfl) (by simp) ?_
      refine (AllReadyH.cons rfl (fun K hK => ?_) (AllReadyH.cons rfl (fun K hK => ?_) AllReadyH.nil))
      · skip
        go_simp
        refine hK.out _ _ trivial (fun hHeld => ?_)
        (try simp only [Act.put, List.setIfInBounds_toArray, List.set_cons_zero, List.set_cons_succ])
        refine wpAnyH_ready (rs := [9]) (by kernel_rfl) (by simp) ?_
        refine (AllReadyH.cons rfl (fun K hK => ?_) AllReadyH.nil)
        · skip
          go_simp
          refine hK.out _ _ trivial (fun hHeld => ?_)
          (try simp only [Act.put, List.setIfInBounds_toArray, List.set_cons_zero, List.set_cons_succ])
          obtain ⟨W3, hW3⟩ : ∃ W3, W3 = ((w.alloc (.cells (madeCells #[.int .u8 0] n) 5)).alloc (.cells (madeCells #[.int .u8 0] n) 5)).alloc (.map #[] 0) := ⟨_, rfl⟩
          have hb3 : Below w.heap.size w W3 := by rw [hW3]; (repeat' (first | (with_reducible exact Below.refl _ _) | (with_reducible assumption) | (with_reducible refine Below.setCell ?_ ?_ _) | (with_reducible refine Below.alloc ?_ ?_ _) | (with_reducible refine Below.drew ?_) | (with_reducible refine below_drewN ?_ _) | (with_reducible refine below_next ?_ (by with_reducible assumption)) | omega | (dsimp only; omega) | (simp only [World.size_alloc, World.size_setCell, World.size_drew, World.heap_drewN]; omega)))
          have ha3 := alloc3 w (.cells (madeCells #[.int .u8 0] n) 5) (.cells (madeCells #[.int .u8 0] n) 5) (.map #[] 0)
          rw [← hW3] at ha3 ⊢
          have HA := Lib.hid ha3
          have HZ3 := Lib.hid ha3.2.2.2
          clear ha3 hW3
          have u3 : W3.cell? ⟨rm, 0, none⟩ = some s := (hb3.cell (p := ⟨rm, 0, none⟩) hrm).trans t0
          refine takeAt' (i := 10) (some 21) (v := ?_) rfl rfl (by kernel_rfl) (by kernel_rfl) (by kernel_rfl) (fun _ _ _ h => h) (Or.inl ⟨by rfl, ?_⟩) (by assumption) ?_
          rotate_left
          (focus (intro w hSw; (try dsimp only at hSw); go_simp; (try with_reducible rfl)))
          (try simp only [Act.put, List.setIfInBounds_toArray, List.set_cons_zero, List.set_cons_succ])
          refine wpAnyH_ready (rs := [11]) (by kernel_rfl) (by simp) ?_
          refine (AllReadyH.cons rfl (fun K hK => ?_) AllReadyH.nil)
          · skip
            go_simp
            refine hK.out _ _ trivial (fun hHeld => ?_)
            (try simp only [Act.put, List.setIfInBounds_toArray, List.set_cons_zero, List.set_cons_succ])
            obtain ⟨W4, hW4⟩ : ∃ W4, W4 = W3.alloc (.cells #[.slice (some ⟨(w.heap.size + 1), 0, none⟩) n n, .slice (some ⟨w.heap.size, 0, none⟩) n n, .map (some (w.heap.size + 1 + 1)), .bool true, .bool false] 67) := ⟨_, rfl⟩
            have hb4 : Below w.heap.size w W4 := by have hz3 := HZ3.out; rw [hW4]; (repeat' (first | (with_reducible exact Below.refl _ _) | (with_reducible assumption) | (with_reducible refine Below.setCell ?_ ?_ _) | (with_reducible refine Below.alloc ?_ ?_ _) | (with_reducible refine Below.drew ?_) | (with_reducible refine below_drewN ?_ _) | (with_reducible refine below_next ?_ (by with_reducible assumption)) | omega | (dsimp only; omega) | (simp only [World.size_alloc, World.size_setCell, World.size_drew, World.heap_drewN]; omega)))
            have hb34 : Below W3.heap.size W3 W4 := by rw [hW4]; (repeat' (first | (with_reducible exact Below.refl _ _) | (with_reducible assumption) | (with_reducible refine Below.setCell ?_ ?_ _) | (with_reducible refine Below.alloc ?_ ?_ _) | (with_reducible refine Below.drew ?_) | (with_reducible refine below_drewN ?_ _) | (with_reducible refine below_next ?_ (by with_reducible assumption)) | omega | (dsimp only; omega) | (simp only [World.size_alloc, World.size_setCell, World.size_drew, World.heap_drewN]; omega)))
            have hz4 : W4.heap.size = w.heap.size + 3 + 1 := by rw [hW4, World.size_alloc, HZ3.out]
            have hblk := blk_at W3 n (w.heap.size + 1) w.heap.size (w.heap.size + 1 + 1)
            rw [← hW4] at hblk ⊢
            clear hW4
            have u4 : W4.cell? ⟨rm, 0, none⟩ = some s := (hb4.cell (p := ⟨rm, 0, none⟩) hrm).trans t0
            refine wpAnyH_ready (rs := [12]) (by kernel_rfl) (by simp) ?_
            refine AllReadyH.cons rfl (fun K hK => ?_) AllReadyH.nil
            refine step_append_one (w := W4.drew) base rfl (.tmp 15) (.tmp 22) 27 rfl 67 ib _ 5 64 Try.underlying27 HI.out.1 HI.out.2.1 HI.out.2.2.1 HI.out.2.2.2 rfl (by decide) s R.length (R.flatMap RB.cells) rfl (row_keep HH.out.row (fun i hi => hb4.block i (HH.out.row.lt i hi).2)).drew ⟨W3.heap.size, 0, none⟩ 1 1 (newRB (w.heap.size + 1) w.heap.size (w.heap.size + 1 + 1) n).cells rfl rfl hblk (newRB_one _ _ _ _) (by unfold maxLen; omega) hlen (by show base ≤ W4.heap.size; omega) ?_
            intro v' W5 hrow hgr hnew
            have hz3 := HZ3.out
            have e7 : W4.heap[(w.heap.size + 1)]? = some (.cells ((List.replicate n (0 : Int)).map (Value.int .u8)).toArray 5 (0, 0)) := by rw [hb34.block (w.heap.size + 1) (by omega), ← made8]; exact HA.out.2.1
            have e8 : W4.heap[w.heap.size]? = some (.cells ((List.replicate n (0 : Int)).map (Value.int .u8)).toArray 5 (0, 0)) := by rw [hb34.block w.heap.size (by omega), ← made8]; exact HA.out.1
            have e9 : W4.heap[(w.heap.size + 1 + 1)]? = some (.map #[] 0) := by rw [hb34.block (w.heap.size + 1 + 1) (by omega)]; exact HA.out.2.2.1
            have hgw := Lib.hid (HH.out.grow (W4 := W4.drew) (W5 := W5) (v' := v') hcap n hn (w.heap.size + 1) w.heap.size (w.heap.size + 1 + 1) hb4.drew e7 e8 e9 ⟨by omega, by omega, by omega, by omega⟩ hrow hgr hnew)
            obtain ⟨A', c', hv'⟩ := row_form hrow
            have hcr := (hgr.block rm (by show rm < W4.heap.size; omega) HH.out.rm_ne).trans (hb4.block rm hrm)
            have u5 : W5.cell? ⟨rm, 0, none⟩ = some s := (World.cell?_of_block (a := ⟨rm, 0, none⟩) hcr).trans t0
            have v5 : W5.frozen? ⟨rm, 0, none⟩ = false := (World.frozen?_of_block (a := ⟨rm, 0, none⟩) hcr).trans f0
            have hA3 := cell_set_if
            subst hv'
            clear hz3 hrow hgr hnew e7 e8 e9 hblk hcr hms hmm hc1 hc2 hc3
            refine hK.out _ _ trivial (fun hHeld => ?_)
            (try simp only [Act.put, List.setIfInBounds_toArray, List.set_cons_zero, List.set_cons_succ])
            refine takeAt' (i := 13) (some 24) (v := ?_) rfl rfl (by kernel_rfl) (by kernel_rfl) (by kernel_rfl) (fun _ _ _ h => h) (Or.inl ⟨by rfl, ?_⟩) (by assumption) ?_
            rotate_left
            (focus (intro w hSw; (try dsimp only at hSw); go_simp; (try with_reducible rfl)))
            (try simp only [Act.put, List.setIfInBounds_toArray, List.set_cons_zero, List.set_cons_succ])
            refine takeAt' (i := 14) (some 25) (v := ?_) rfl rfl (by kernel_rfl) (by kernel_rfl) (by kernel_rfl) (fun _ _ _ h => h) (Or.inl ⟨by rfl, ?_⟩) (by assumption) ?_
            rotate_left
            (focus (intro w hSw; (try dsimp only at hSw); go_simp; (try with_reducible rfl)))
            (try simp only [Act.put, List.setIfInBounds_toArray, List.set_cons_zero, List.set_cons_succ])
            refine wpAnyH_ready (rs := [15]) (by kernel_rfl) (by simp) ?_
            refine AllReadyH.cons rfl (fun K hK => ?_) AllReadyH.nil
            go_simp
            refine hK.out _ _ trivial (fun hHeld => ?_)
            (try simp only [Act.put, List.setIfInBounds_toArray, List.set_cons_zero, List.set_cons_succ])
            refine wpAnyH_done (by kernel_rfl) ?_ _
            go_wp2
            go_returns
            exact ⟨rfl, _, (w.heap.size + 1), w.heap.size, (w.heap.size + 1 + 1), hgw.out⟩
      · skip
        go_simp
        refine hK.out _ _ trivial (fun hHeld => ?_)
        (try simp only [Act.put, List.setIfInBounds_toArray, List.set_cons_zero, List.set_cons_succ])
        refine wpAnyH_ready (rs := [6]) (by kernel_rfl) (by simp) ?_
        refine (AllReadyH.cons rfl (fun K hK => ?_) AllReadyH.nil)
        · skip
          go_simp
          refine hK.out _ _ trivial (fun hHeld => ?_)
          (try simp only [Act.put, List.setIfInBounds_toArray, List.set_cons_zero, List.set_cons_succ])
          obtain ⟨W3, hW3⟩ : ∃ W3, W3 = ((w.alloc (.cells (madeCells #[.int .u8 0] n) 5)).alloc (.map #[] 0)).alloc (.cells (madeCells #[.int .u8 0] n) 5) := ⟨_, rfl⟩
          have hb3 : Below w.heap.size w W3 := by rw [hW3]; (repeat' (first | (with_reducible exact Below.refl _ _) | (with_reducible assumption) | (with_reducible refine Below.setCell ?_ ?_ _) | (with_reducible refine Below.alloc ?_ ?_ _) | (with_reducible refine Below.drew ?_) | (with_reducible refine below_drewN ?_ _) | (with_reducible refine below_next ?_ (by with_reducible assumption)) | omega | (dsimp only; omega) | (simp only [World.size_alloc, World.size_setCell, World.size_drew, World.heap_drewN]; omega)))
          have ha3 := alloc3 w (.cells (madeCells #[.int .u8 0] n) 5) (.map #[] 0) (.cells (madeCells #[.int .u8 0] n) 5)
          rw [← hW3] at ha3 ⊢
          have HA := Lib.hid ha3
          have HZ3 := Lib.hid ha3.2.2.2
          clear ha3 hW3
          have u3 : W3.cell? ⟨rm, 0, none⟩ = some s := (hb3.cell (p := ⟨rm, 0, none⟩) hrm).trans t0
          refine takeAt' (i := 10) (some 21) (v := ?_) rfl rfl (by kernel_rfl) (by kernel_rfl) (by kernel_rfl) (fun _ _ _ h => h) (Or.inl ⟨by rfl, ?_⟩) (by assumption) ?_
          rotate_left
          (focus (intro w hSw; (try dsimp only at hSw); go_simp; (try with_reducible rfl)))
          (try simp only [Act.put, List.setIfInBounds_toArray, List.set_cons_zero, List.set_cons_succ])
          refine wpAnyH_ready (rs := [11]) (by kernel_rfl) (by simp) ?_
          refine (AllReadyH.cons rfl (fun K hK => ?_) AllReadyH.nil)
          · skip
            go_simp
            refine hK.out _ _ trivial (fun hHeld => ?_)
            (try simp only [Act.put, List.setIfInBounds_toArray, List.set_cons_zero, List.set_cons_succ])
            obtain ⟨W4, hW4⟩ : ∃ W4, W4 = W3.alloc (.cells #[.slice (some ⟨(w.heap.size + 1 + 1), 0, none⟩) n n, .slice (some ⟨w.heap.size, 0, none⟩) n n, .map (some (w.heap.size + 1)), .bool true, .bool false] 67) := ⟨_, rfl⟩
            have hb4 : Below w.heap.size w W4 := by have hz3 := HZ3.out; rw [hW4]; (repeat' (first | (with_reducible exact Below.refl _ _) | (with_reducible assumption) | (with_reducible refine Below.setCell ?_ ?_ _) | (with_reducible refine Below.alloc ?_ ?_ _) | (with_reducible refine Below.drew ?_) | (with_reducible refine below_drewN ?_ _) | (with_reducible refine below_next ?_ (by with_reducible assumption)) | omega | (dsimp only; omega) | (simp only [World.size_alloc, World.size_setCell, World.size_drew, World.heap_drewN]; omega)))
            have hb34 : Below W3.heap.size W3 W4 := by rw [hW4]; (repeat' (first | (with_reducible exact Below.refl _ _) | (with_reducible assumption) | (with_reducible refine Below.setCell ?_ ?_ _) | (with_reducible refine Below.alloc ?_ ?_ _) | (with_reducible refine Below.drew ?_) | (with_reducible refine below_drewN ?_ _) | (with_reducible refine below_next ?_ (by with_reducible assumption)) | omega | (dsimp only; omega) | (simp only [World.size_alloc, World.size_setCell, World.size_drew, World.heap_drewN]; omega)))
            have hz4 : W4.heap.size = w.heap.size + 3 + 1 := by rw [hW4, World.size_alloc, HZ3.out]
            have hblk := blk_at W3 n (w.heap.size + 1 + 1) w.heap.size (w.heap.size + 1)
            rw [← hW4] at hblk ⊢
            clear hW4
            have u4 : W4.cell? ⟨rm, 0, none⟩ = some s := (hb4.cell (p := ⟨rm, 0, none⟩) hrm).trans t0
            refine wpAnyH_ready (rs := [12]) (by kernel_rfl) (by simp) ?_
            refine AllReadyH.cons rfl (fun K hK => ?_) AllReadyH.nil
            refine step_append_one (w := W4.drew) base rfl (.tmp 15) (.tmp 22) 27 rfl 67 ib _ 5 64 Try.underlying27 HI.out.1 HI.out.2.1 HI.out.2.2.1 HI.out.2.2.2 rfl (by decide) s R.length (R.flatMap RB.cells) rfl (row_keep HH.out.row (fun i hi => hb4.block i (HH.out.row.lt i hi).2)).drew ⟨W3.heap.size, 0, none⟩ 1 1 (newRB (w.heap.size + 1 + 1) w.heap.size (w.heap.size + 1) n).cells rfl rfl hblk (newRB_one _ _ _ _) (by unfold maxLen; omega) hlen (by show base ≤ W4.heap.size; omega) ?_
            intro v' W5 hrow hgr hnew
            have hz3 := HZ3.out
            have e7 : W4.heap[(w.heap.size + 1 + 1)]? = some (.cells ((List.replicate n (0 : Int)).map (Value.int .u8)).toArray 5 (0, 0)) := by rw [hb34.block (w.heap.size + 1 + 1) (by omega), ← made8]; exact HA.out.2.2.1
            have e8 : W4.heap[w.heap.size]? = some (.cells ((List.replicate n (0 : Int)).map (Value.int .u8)).toArray 5 (0, 0)) := by rw [hb34.block w.heap.size (by omega), ← made8]; exact HA.out.1
            have e9 : W4.heap[(w.heap.size + 1)]? = some (.map #[] 0) := by rw [hb34.block (w.heap.size + 1) (by omega)]; exact HA.out.2.1
            have hgw := Lib.hid (HH.out.grow (W4 := W4.drew) (W5 := W5) (v' := v') hcap n hn (w.heap.size + 1 + 1) w.heap.size (w.heap.size + 1) hb4.drew e7 e8 e9 ⟨by omega, by omega, by omega, by omega⟩ hrow hgr hnew)
            obtain ⟨A', c', hv'⟩ := row_form hrow
            have hcr := (hgr.block rm (by show rm < W4.heap.size; omega) HH.out.rm_ne).trans (hb4.block rm hrm)
            have u5 : W5.cell? ⟨rm, 0, none⟩ = some s := (World.cell?_of_block (a := ⟨rm, 0, none⟩) hcr).trans t0
            have v5 : W5.frozen? ⟨rm, 0, none⟩ = false := (World.frozen?_of_block (a := ⟨rm, 0, none⟩) hcr).trans f0
            have hA3 := cell_set_if
            subst hv'
            clear hz3 hrow hgr hnew e7 e8 e9 hblk hcr hms hmm hc1 hc2 hc3
            refine hK.out _ _ trivial (fun hHeld => ?_)
            (try simp only [Act.put, List.setIfInBounds_toArray, List.set_cons_zero, List.set_cons_succ])
            refine takeAt' (i := 13) (some 24) (v := ?_) rfl rfl (by kernel_rfl) (by kernel_rfl) (by kernel_rfl) (fun _ _ _ h => h) (Or.inl ⟨by rfl, ?_⟩) (by assumption) ?_
            rotate_left
            (focus (intro w hSw; (try dsimp only at hSw); go_simp; (try with_reducible rfl)))
            (try simp only [Act.put, List.setIfInBounds_toArray, List.set_cons_zero, List.set_cons_succ])
            refine takeAt' (i := 14) (some 25) (v := ?_) rfl rfl (by kernel_rfl) (by kernel_rfl) (by kernel_rfl) (fun _ _ _ h => h) (Or.inl ⟨by rfl, ?_⟩) (by assumption) ?_
            rotate_left
            (focus (intro w hSw; (try dsimp only at hSw); go_simp; (try with_reducible rfl)))
            (try simp only [Act.put, List.setIfInBounds_toArray, List.set_cons_zero, List.set_cons_succ])
            refine wpAnyH_ready (rs := [15]) (by kernel_rfl) (by simp) ?_
            refine AllReadyH.cons rfl (fun K hK => ?_) AllReadyH.nil
            go_simp
            refine hK.out _ _ trivial (fun hHeld => ?_)
            (try simp only [Act.put, List.setIfInBounds_toArray, List.set_cons_zero, List.set_cons_succ])
            refine wpAnyH_done (by kernel_rfl) ?_ _
            go_wp2
            go_returns
            exact ⟨rfl, _, (w.heap.size + 1 + 1), w.heap.size, (w.heap.size + 1), hgw.out⟩
    · skip
      go_simp
      refine hK.out _ _ trivial (fun hHeld => ?_)
      (try simp only [Act.put, List.setIfInBounds_toArray, List.set_cons_zero, List.set_cons_succ])
      refine wpAnyH_ready (rs := [4, 9]) (by kernel_rfl) (by simp) ?_
      refine (AllReadyH.cons rfl (fun K hK => ?_) (AllReadyH.cons rfl (fun K hK => ?_) AllReadyH.nil))
      · skip
        go_simp
        refine hK.out _ _ trivial (fun hHeld => ?_)
        (try simp only [Act.put, List.setIfInBounds_toArray, List.set_cons_zero, List.set_cons_succ])
        refine wpAnyH_ready (rs := [9]) (by kernel_rfl) (by simp) ?_
        refine (AllReadyH.cons rfl (fun K hK => ?_) AllReadyH.nil)
        · skip
          go_simp
          refine hK.out _ _ trivial (fun hHeld => ?_)
          (try simp only [Act.put, List.setIfInBounds_toArray, List.set_cons_zero, List.set_cons_succ])
          obtain ⟨W3, hW3⟩ : ∃ W3, W3 = ((w.alloc (.cells (madeCells #[.int .u8 0] n) 5)).alloc (.cells (madeCells #[.int .u8 0] n) 5)).alloc (.map #[] 0) := ⟨_, rfl⟩
          have hb3 : Below w.heap.size w W3 := by rw [hW3]; (repeat' (first | (with_reducible exact Below.refl _ _) | (with_reducible assumption) | (with_reducible refine Below.setCell ?_ ?_ _) | (with_reducible refine Below.alloc ?_ ?_ _) | (with_reducible refine Below.drew ?_) | (with_reducible refine below_drewN ?_ _) | (with_reducible refine below_next ?_ (by with_reducible assumption)) | omega | (dsimp only; omega) | (simp only [World.size_alloc, World.size_setCell, World.size_drew, World.heap_drewN]; omega)))
          have ha3 := alloc3 w (.cells (madeCells #[.int .u8 0] n) 5) (.cells (madeCells #[.int .u8 0] n) 5) (.map #[] 0)
          rw [← hW3] at ha3 ⊢
          have HA := Lib.hid ha3
          have HZ3 := Lib.hid ha3.2.2.2
          clear ha3 hW3
          have u3 : W3.cell? ⟨rm, 0, none⟩ = some s := (hb3.cell (p := ⟨rm, 0, none⟩) hrm).trans t0
          refine takeAt' (i := 10) (some 21) (v := ?_) rfl rfl (by kernel_rfl) (by kernel_rfl) (by kernel_rfl) (fun _ _ _ h => h) (Or.inl ⟨by rfl, ?_⟩) (by assumption) ?_
          rotate_left
          (focus (intro w hSw; (try dsimp only at hSw); go_simp; (try with_reducible rfl)))
          (try simp only [Act.put, List.setIfInBounds_toArray, List.set_cons_zero, List.set_cons_succ])
          refine wpAnyH_ready (rs := [11]) (by kernel_rfl) (by simp) ?_
          refine (AllReadyH.cons rfl (fun K hK => ?_) AllReadyH.nil)
          · skip
            go_simp
            refine hK.out _ _ trivial (fun hHeld => ?_)
            (try simp only [Act.put, List.setIfInBounds_toArray, List.set_cons_zero, List.set_cons_succ])
            obtain ⟨W4, hW4⟩ : ∃ W4, W4 = W3.alloc (.cells #[.slice (some ⟨(w.heap.size + 1), 0, none⟩) n n, .slice (some ⟨w.heap.size, 0, none⟩) n n, .map (some (w.heap.size + 1 + 1)), .bool true, .bool false] 67) := ⟨_, rfl⟩
            have hb4 : Below w.heap.size w W4 := by have hz3 := HZ3.out; rw [hW4]; (repeat' (first | (with_reducible exact Below.refl _ _) | (with_reducible assumption) | (with_reducible refine Below.setCell ?_ ?_ _) | (with_reducible refine Below.alloc ?_ ?_ _) | (with_reducible refine Below.drew ?_) | (with_reducible refine below_drewN ?_ _) | (with_reducible refine below_next ?_ (by with_reducible assumption)) | omega | (dsimp only; omega) | (simp only [World.size_alloc, World.size_setCell, World.size_drew, World.heap_drewN]; omega)))
            have hb34 : Below W3.heap.size W3 W4 := by rw [hW4]; (repeat' (first | (with_reducible exact Below.refl _ _) | (with_reducible assumption) | (with_reducible refine Below.setCell ?_ ?_ _) | (with_reducible refine Below.alloc ?_ ?_ _) | (with_reducible refine Below.drew ?_) | (with_reducible refine below_drewN ?_ _) | (with_reducible refine below_next ?_ (by with_reducible assumption)) | omega | (dsimp only; omega) | (simp only [World.size_alloc, World.size_setCell, World.size_drew, World.heap_drewN]; omega)))
            have hz4 : W4.heap.size = w.heap.size + 3 + 1 := by rw [hW4, World.size_alloc, HZ3.out]
            have hblk := blk_at W3 n (w.heap.size + 1) w.heap.size (w.heap.size + 1 + 1)
            rw [← hW4] at hblk ⊢
            clear hW4
            have u4 : W4.cell? ⟨rm, 0, none⟩ = some s := (hb4.cell (p := ⟨rm, 0, none⟩) hrm).trans t0
            refine wpAnyH_ready (rs := [12]) (by kernel_rfl) (by simp) ?_
            refine AllReadyH.cons rfl (fun K hK => ?_) AllReadyH.nil
            refine step_append_one (w := W4.drew) base rfl (.tmp 15) (.tmp 22) 27 rfl 67 ib _ 5 64 Try.underlying27 HI.out.1 HI.out.2.1 HI.out.2.2.1 HI.out.2.2.2 rfl (by decide) s R.length (R.flatMap RB.cells) rfl (row_keep HH.out.row (fun i hi => hb4.block i (HH.out.row.lt i hi).2)).drew ⟨W3.heap.size, 0, none⟩ 1 1 (newRB (w.heap.size + 1) w.heap.size (w.heap.size + 1 + 1) n).cells rfl rfl hblk (newRB_one _ _ _ _) (by unfold maxLen; omega) hlen (by show base ≤ W4.heap.size; omega) ?_
            intro v' W5 hrow hgr hnew
            have hz3 := HZ3.out
            have e7 : W4.heap[(w.heap.size + 1)]? = some (.cells ((List.replicate n (0 : Int)).map (Value.int .u8)).toArray 5 (0, 0)) := by rw [hb34.block (w.heap.size + 1) (by omega), ← made8]; exact HA.out.2.1
            have e8 : W4.heap[w.heap.size]? = some (.cells ((List.replicate n (0 : Int)).map (Value.int .u8)).toArray 5 (0, 0)) := by rw [hb34.block w.heap.size (by omega), ← made8]; exact HA.out.1
            have e9 : W4.heap[(w.heap.size + 1 + 1)]? = some (.map #[] 0) := by rw [hb34.block (w.heap.size + 1 + 1) (by omega)]; exact HA.out.2.2.1
            have hgw := Lib.hid (HH.out.grow (W4 := W4.drew) (W5 := W5) (v' := v') hcap n hn (w.heap.size + 1) w.heap.size (w.heap.size + 1 + 1) hb4.drew e7 e8 e9 ⟨by omega, by omega, by omega, by omega⟩ hrow hgr hnew)
            obtain ⟨A', c', hv'⟩ := row_form hrow
            have hcr := (hgr.block rm (by show rm < W4.heap.size; omega) HH.out.rm_ne).trans (hb4.block rm hrm)
            have u5 : W5.cell? ⟨rm, 0, none⟩ = some s := (World.cell?_of_block (a := ⟨rm, 0, none⟩) hcr).trans t0
            have v5 : W5.frozen? ⟨rm, 0, none⟩ = false := (World.frozen?_of_block (a := ⟨rm, 0, none⟩) hcr).trans f0
            have hA3 := cell_set_if
            subst hv'
            clear hz3 hrow hgr hnew e7 e8 e9 hblk hcr hms hmm hc1 hc2 hc3
            refine hK.out _ _ trivial (fun hHeld => ?_)
            (try simp only [Act.put, List.setIfInBounds_toArray, List.set_cons_zero, List.set_cons_succ])
            refine takeAt' (i := 13) (some 24) (v := ?_) rfl rfl (by kernel_rfl) (by kernel_rfl) (by kernel_rfl) (fun _ _ _ h => h) (Or.inl ⟨by rfl, ?_⟩) (by assumption) ?_
            rotate_left
            (focus (intro w hSw; (try dsimp only at hSw); go_simp; (try with_reducible rfl)))
            (try simp only [Act.put, List.setIfInBounds_toArray, List.set_cons_zero, List.set_cons_succ])
            refine takeAt' (i := 14) (some 25) (v := ?_) rfl rfl (by kernel_rfl) (by kernel_rfl) (by kernel_rfl) (fun _ _ _ h => h) (Or.inl ⟨by rfl, ?_⟩) (by assumption) ?_
            rotate_left
            (focus (intro w hSw; (try dsimp only at hSw); go_simp; (try with_reducible rfl)))
            (try simp only [Act.put, List.setIfInBounds_toArray, List.set_cons_zero, List.set_cons_succ])
            refine wpAnyH_ready (rs := [15]) (by kernel_rfl) (by simp) ?_
            refine AllReadyH.cons rfl (fun K hK => ?_) AllReadyH.nil
            go_simp
            refine hK.out _ _ trivial (fun hHeld => ?_)
            (try simp only [Act.put, List.setIfInBounds_toArray, List.set_cons_zero, List.set_cons_succ])
            refine wpAnyH_done (by kernel_rfl) ?_ _
            go_wp2
            go_returns
            exact ⟨rfl, _, (w.heap.size + 1), w.heap.size, (w.heap.size + 1 + 1), hgw.out⟩
      · skip
        go_simp
        refine hK.out _ _ trivial (fun hHeld => ?_)
        (try simp only [Act.put, List.setIfInBounds_toArray, List.set_cons_zero, List.set_cons_succ])
        obtain ⟨W3, hW3⟩ : ∃ W3, W3 = ((w.alloc (.cells (madeCells #[.int .u8 0] n) 5)).alloc (.cells (madeCells #[.int .u8 0] n) 5)).alloc (.map #[] 0) := ⟨_, rfl⟩
        have hb3 : Below w.heap.size w W3 := by rw [hW3]; (repeat' (first | (with_reducible exact Below.refl _ _) | (with_reducible assumption) | (with_reducible refine Below.setCell ?_ ?_ _) | (with_reducible refine Below.alloc ?_ ?_ _) | (with_reducible refine Below.drew ?_) | (with_reducible refine below_drewN ?_ _) | (with_reducible refine below_next ?_ (by with_reducible assumption)) | omega | (dsimp only; omega) | (simp only [World.size_alloc, World.size_setCell, World.size_drew, World.heap_drewN]; omega)))
        have ha3 := alloc3 w (.cells (madeCells #[.int .u8 0] n) 5) (.cells (madeCells #[.int .u8 0] n) 5) (.map #[] 0)
        rw [← hW3] at ha3 ⊢
        have HA := Lib.hid ha3
        have HZ3 := Lib.hid ha3.2.2.2
        clear ha3 hW3
        have u3 : W3.cell? ⟨rm, 0, none⟩ = some s := (hb3.cell (p := ⟨rm, 0, none⟩) hrm).trans t0
        refine takeAt' (i := 10) (some 21) (v := ?_) rfl rfl (by kernel_rfl) (by kernel_rfl) (by kernel_rfl) (fun _ _ _ h => h) (Or.inl ⟨by rfl, ?_⟩) (by assumption) ?_
        rotate_left
        (focus (intro w hSw; (try dsimp only at hSw); go_simp; (try with_reducible rfl)))
        (try simp only [Act.put, List.setIfInBounds_toArray, List.set_cons_zero, List.set_cons_succ])
        refine wpAnyH_ready (rs := [4, 11]) (by kernel_rfl) (by simp) ?_
        refine (AllReadyH.cons rfl (fun K hK => ?_) (AllReadyH.cons rfl (fun K hK => ?_) AllReadyH.nil))
        · skip
          go_simp
          refine hK.out _ _ trivial (fun hHeld => ?_)
          (try simp only [Act.put, List.setIfInBounds_toArray, List.set_cons_zero, List.set_cons_succ])
          refine wpAnyH_ready (rs := [11]) (by kernel_rfl) (by simp) ?_
          refine (AllReadyH.cons rfl (fun K hK => ?_) AllReadyH.nil)
          · skip
            go_simp
            refine hK.out _ _ trivial (fun hHeld => ?_)
            (try simp only [Act.put, List.setIfInBounds_toArray, List.set_cons_zero, List.set_cons_succ])
            obtain ⟨W4, hW4⟩ : ∃ W4, W4 = W3.alloc (.cells #[.slice (some ⟨(w.heap.size + 1), 0, none⟩) n n, .slice (some ⟨w.heap.size, 0, none⟩) n n, .map (some (w.heap.size + 1 + 1)), .bool true, .bool false] 67) := ⟨_, rfl⟩
            have hb4 : Below w.heap.size w W4 := by have hz3 := HZ3.out; rw [hW4]; (repeat' (first | (with_reducible exact Below.refl _ _) | (with_reducible assumption) | (with_reducible refine Below.setCell ?_ ?_ _) | (with_reducible refine Below.alloc ?_ ?_ _) | (with_reducible refine Below.drew ?_) | (with_reducible refine below_drewN ?_ _) | (with_reducible refine below_next ?_ (by with_reducible assumption)) | omega | (dsimp only; omega) | (simp only [World.size_alloc, World.size_setCell, World.size_drew, World.heap_drewN]; omega)))
            have hb34 : Below W3.heap.size W3 W4 := by rw [hW4]; (repeat' (first | (with_reducible exact Below.refl _ _) | (with_reducible assumption) | (with_reducible refine Below.setCell ?_ ?_ _) | (with_reducible refine Below.alloc ?_ ?_ _) | (with_reducible refine Below.drew ?_) | (with_reducible refine below_drewN ?_ _) | (with_reducible refine below_next ?_ (by with_reducible assumption)) | omega | (dsimp only; omega) | (simp only [World.size_alloc, World.size_setCell, World.size_drew, World.heap_drewN]; omega)))
            have hz4 : W4.heap.size = w.heap.size + 3 + 1 := by rw [hW4, World.size_alloc, HZ3.out]
            have hblk := blk_at W3 n (w.heap.size + 1) w.heap.size (w.heap.size + 1 + 1)
            rw [← hW4] at hblk ⊢
            clear hW4
            have u4 : W4.cell? ⟨rm, 0, none⟩ = some s := (hb4.cell (p := ⟨rm, 0, none⟩) hrm).trans t0
            refine wpAnyH_ready (rs := [12]) (by kernel_rfl) (by simp) ?_
            refine AllReadyH.cons rfl (fun K hK => ?_) AllReadyH.nil
            refine step_append_one (w := W4.drew) base rfl (.tmp 15) (.tmp 22) 27 rfl 67 ib _ 5 64 Try.underlying27 HI.out.1 HI.out.2.1 HI.out.2.2.1 HI.out.2.2.2 rfl (by decide) s R.length (R.flatMap RB.cells) rfl (row_keep HH.out.row (fun i hi => hb4.block i (HH.out.row.lt i hi).2)).drew ⟨W3.heap.size, 0, none⟩ 1 1 (newRB (w.heap.size + 1) w.heap.size (w.heap.size + 1 + 1) n).cells rfl rfl hblk (newRB_one _ _ _ _) (by unfold maxLen; omega) hlen (by show base ≤ W4.heap.size; omega) ?_
            intro v' W5 hrow hgr hnew
            have hz3 := HZ3.out
            have e7 : W4.heap[(w.heap.size + 1)]? = some (.cells ((List.replicate n (0 : Int)).map (Value.int .u8)).toArray 5 (0, 0)) := by rw [hb34.block (w.heap.size + 1) (by omega), ← made8]; exact HA.out.2.1
            have e8 : W4.heap[w.heap.size]? = some (.cells ((List.replicate n (0 : Int)).map (Value.int .u8)).toArray 5 (0, 0)) := by rw [hb34.block w.heap.size (by omega), ← made8]; exact HA.out.1
            have e9 : W4.heap[(w.heap.size + 1 + 1)]? = some (.map #[] 0) := by rw [hb34.block (w.heap.size + 1 + 1) (by omega)]; exact HA.out.2.2.1
            have hgw := Lib.hid (HH.out.grow (W4 := W4.drew) (W5 := W5) (v' := v') hcap n hn (w.heap.size + 1) w.heap.size (w.heap.size + 1 + 1) hb4.drew e7 e8 e9 ⟨by omega, by omega, by omega, by omega⟩ hrow hgr hnew)
            obtain ⟨A', c', hv'⟩ := row_form hrow
            have hcr := (hgr.block rm (by show rm < W4.heap.size; omega) HH.out.rm_ne).trans (hb4.block rm hrm)
            have u5 : W5.cell? ⟨rm, 0, none⟩ = some s := (World.cell?_of_block (a := ⟨rm, 0, none⟩) hcr).trans t0
            have v5 : W5.frozen? ⟨rm, 0, none⟩ = false := (World.frozen?_of_block (a := ⟨rm, 0, none⟩) hcr).trans f0
            have hA3 := cell_set_if
            subst hv'
            clear hz3 hrow hgr hnew e7 e8 e9 hblk hcr hms hmm hc1 hc2 hc3
            refine hK.out _ _ trivial (fun hHeld => ?_)
            (try simp only [Act.put, List.setIfInBounds_toArray, List.set_cons_zero, List.set_cons_succ])
            refine takeAt' (i := 13) (some 24) (v := ?_) rfl rfl (by kernel_rfl) (by kernel_rfl) (by kernel_rfl) (fun _ _ _ h => h) (Or.inl ⟨by rfl, ?_⟩) (by assumption) ?_
            rotate_left
            (focus (intro w hSw; (try dsimp only at hSw); go_simp; (try with_reducible rfl)))
            (try simp only [Act.put, List.setIfInBounds_toArray, List.set_cons_zero, List.set_cons_succ])
            refine takeAt' (i := 14) (some 25) (v := ?_) rfl rfl (by kernel_rfl) (by kernel_rfl) (by kernel_rfl) (fun _ _ _ h => h) (Or.inl ⟨by rfl, ?_⟩) (by assumption) ?_
            rotate_left
            (focus (intro w hSw; (try dsimp only at hSw); go_simp; (try with_reducible rfl)))
            (try simp only [Act.put, List.setIfInBounds_toArray, List.set_cons_zero, List.set_cons_succ])
            refine wpAnyH_ready (rs := [15]) (by kernel_rfl) (by simp) ?_
            refine AllReadyH.cons rfl (fun K hK => ?_) AllReadyH.nil
            go_simp
            refine hK.out _ _ trivial (fun hHeld => ?_)
            (try simp only [Act.put, List.setIfInBounds_toArray, List.set_cons_zero, List.set_cons_succ])
            refine wpAnyH_done (by kernel_rfl) ?_ _
            go_wp2
            go_returns
            exact ⟨rfl, _, (w.heap.size + 1), w.heap.size, (w.heap.size + 1 + 1), hgw.out⟩
        · skip
          go_simp
          refine hK.out _ _ trivial (fun hHeld => ?_)
          (try simp only [Act.put, List.setIfInBounds_toArray, List.set_cons_zero, List.set_cons_succ])
          obtain ⟨W4, hW4⟩ : ∃ W4, W4 = W3.alloc (.cells #[.slice (some ⟨(w.heap.size + 1), 0, none⟩) n n, .slice (some ⟨w.heap.size, 0, none⟩) n n, .map (some (w.heap.size + 1 + 1)), .bool true, .bool false] 67) := ⟨_, rfl⟩
          have hb4 : Below w.heap.size w W4 := by have hz3 := HZ3.out; rw [hW4]; (repeat' (first | (with_reducible exact Below.refl _ _) | (with_reducible assumption) | (with_reducible refine Below.setCell ?_ ?_ _) | (with_reducible refine Below.alloc ?_ ?_ _) | (with_reducible refine Below.drew ?_) | (with_reducible refine below_drewN ?_ _) | (with_reducible refine below_next ?_ (by with_reducible assumption)) | omega | (dsimp only; omega) | (simp only [World.size_alloc, World.size_setCell, World.size_drew, World.heap_drewN]; omega)))
          have hb34 : Below W3.heap.size W3 W4 := by rw [hW4]; (repeat' (first | (with_reducible exact Below.refl _ _) | (with_reducible assumption) | (with_reducible refine Below.setCell ?_ ?_ _) | (with_reducible refine Below.alloc ?_ ?_ _) | (with_reducible refine Below.drew ?_) | (with_reducible refine below_drewN ?_ _) | (with_reducible refine below_next ?_ (by with_reducible assumption)) | omega | (dsimp only; omega) | (simp only [World.size_alloc, World.size_setCell, World.size_drew, World.heap_drewN]; omega)))
          have hz4 : W4.heap.size = w.heap.size + 3 + 1 := by rw [hW4, World.size_alloc, HZ3.out]
          have hblk := blk_at W3 n (w.heap.size + 1) w.heap.size (w.heap.size + 1 + 1)
          rw [← hW4] at hblk ⊢
          clear hW4
          have u4 : W4.cell? ⟨rm, 0, none⟩ = some s := (hb4.cell (p := ⟨rm, 0, none⟩) hrm).trans t0
          refine wpAnyH_ready (rs := [4]) (by kernel_rfl) (by simp) ?_
          refine (AllReadyH.cons rfl (fun K hK => ?_) AllReadyH.nil)
          · skip
            go_simp
            refine hK.out _ _ trivial (fun hHeld => ?_)
            (try simp only [Act.put, List.setIfInBounds_toArray, List.set_cons_zero, List.set_cons_succ])
            refine wpAnyH_ready (rs := [12]) (by kernel_rfl) (by simp) ?_
            refine AllReadyH.cons rfl (fun K hK => ?_) AllReadyH.nil
            refine step_append_one (w := W4.drew) base rfl (.tmp 15) (.tmp 22) 27 rfl 67 ib _ 5 64 Try.underlying27 HI.out.1 HI.out.2.1 HI.out.2.2.1 HI.out.2.2.2 rfl (by decide) s R.length (R.flatMap RB.cells) rfl (row_keep HH.out.row (fun i hi => hb4.block i (HH.out.row.lt i hi).2)).drew ⟨W3.heap.size, 0, none⟩ 1 1 (newRB (w.heap.size + 1) w.heap.size (w.heap.size + 1 + 1) n).cells rfl rfl hblk (newRB_one _ _ _ _) (by unfold maxLen; omega) hlen (by show base ≤ W4.heap.size; omega) ?_
            intro v' W5 hrow hgr hnew
            have hz3 := HZ3.out
            have e7 : W4.heap[(w.heap.size + 1)]? = some (.cells ((List.replicate n (0 : Int)).map (Value.int .u8)).toArray 5 (0, 0)) := by rw [hb34.block (w.heap.size + 1) (by omega), ← made8]; exact HA.out.2.1
            have e8 : W4.heap[w.heap.size]? = some (.cells ((List.replicate n (0 : Int)).map (Value.int .u8)).toArray 5 (0, 0)) := by rw [hb34.block w.heap.size (by omega), ← made8]; exact HA.out.1
            have e9 : W4.heap[(w.heap.size + 1 + 1)]? = some (.map #[] 0) := by rw [hb34.block (w.heap.size + 1 + 1) (by omega)]; exact HA.out.2.2.1
            have hgw := Lib.hid (HH.out.grow (W4 := W4.drew) (W5 := W5) (v' := v') hcap n hn (w.heap.size + 1) w.heap.size (w.heap.size + 1 + 1) hb4.drew e7 e8 e9 ⟨by omega, by omega, by omega, by omega⟩ hrow hgr hnew)
            obtain ⟨A', c', hv'⟩ := row_form hrow
            have hcr := (hgr.block rm (by show rm < W4.heap.size; omega) HH.out.rm_ne).trans (hb4.block rm hrm)
            have u5 : W5.cell? ⟨rm, 0, none⟩ = some s := (World.cell?_of_block (a := ⟨rm, 0, none⟩) hcr).trans t0
            have v5 : W5.frozen? ⟨rm, 0, none⟩ = false := (World.frozen?_of_block (a := ⟨rm, 0, none⟩) hcr).trans f0
            have hA3 := cell_set_if
            subst hv'
            clear hz3 hrow hgr hnew e7 e8 e9 hblk hcr hms hmm hc1 hc2 hc3
            refine hK.out _ _ trivial (fun hHeld => ?_)
            (try simp only [Act.put, List.setIfInBounds_toArray, List.set_cons_zero, List.set_cons_succ])
            refine takeAt' (i := 13) (some 24) (v := ?_) rfl rfl (by kernel_rfl) (by kernel_rfl) (by kernel_rfl) (fun _ _ _ h => h) (Or.inl ⟨by rfl, ?_⟩) (by assumption) ?_
            rotate_left
            (focus (intro w hSw; (try dsimp only at hSw); go_simp; (try with_reducible rfl)))
            (try simp only [Act.put, List.setIfInBounds_toArray, List.set_cons_zero, List.set_cons_succ])
            refine takeAt' (i := 14) (some 25) (v := ?_) rfl rfl (by kernel_rfl) (by kernel_rfl) (by kernel_rfl) (fun _ _ _ h => h) (Or.inl ⟨by rfl, ?_⟩) (by assumption) ?_
            rotate_left
            (focus (intro w hSw; (try dsimp only at hSw); go_simp; (try with_reducible rfl)))
            (try simp only [Act.put, List.setIfInBounds_toArray, List.set_cons_zero, List.set_cons_succ])
            refine wpAnyH_ready (rs := [15]) (by kernel_rfl) (by simp) ?_
            refine AllReadyH.cons rfl (fun K hK => ?_) AllReadyH.nil
            go_simp
            refine hK.out _ _ trivial (fun hHeld => ?_)
            (try simp only [Act.put, List.setIfInBounds_toArray, List.set_cons_zero, List.set_cons_succ])
            refine wpAnyH_done (by kernel_rfl) ?_ _
            go_wp2
            go_returns
            exact ⟨rfl, _, (w.heap.size + 1), w.heap.size, (w.heap.size + 1 + 1), hgw.out⟩
    · skip
      go_simp
      refine hK.out _ _ trivial (fun hHeld => ?_)
      (try simp only [Act.put, List.setIfInBounds_toArray, List.set_cons_zero, List.set_cons_succ])
      refine wpAnyH_ready (rs := [4, 6]) (by kernel_rfl) (by simp) ?_
      refine (AllReadyH.cons rfl (fun K hK => ?_) (AllReadyH.cons rfl (fun K hK => ?_) AllReadyH.nil))
      · skip
        go_simp
        refine hK.out _ _ trivial (fun hHeld => ?_)
        (try simp only [Act.put, List.setIfInBounds_toArray, List.set_cons_zero, List.set_cons_succ])
        refine wpAnyH_ready (rs := [6]) (by kernel_rfl) (by simp) ?_
        refine (AllReadyH.cons rfl (fun K hK => ?_) AllReadyH.nil)
        · skip
          go_simp
          refine hK.out _ _ trivial (fun hHeld => ?_)
          (try simp only [Act.put, List.setIfInBounds_toArray, List.set_cons_zero, List.set_cons_succ])
          obtain ⟨W3, hW3⟩ : ∃ W3, W3 = ((w.alloc (.cells (madeCells #[.int .u8 0] n) 5)).alloc (.map #[] 0)).alloc (.cells (madeCells #[.int .u8 0] n) 5) := ⟨_, rfl⟩
          have hb3 : Below w.heap.size w W3 := by rw [hW3]; (repeat' (first | (with_reducible exact Below.refl _ _) | (with_reducible assumption) | (with_reducible refine Below.setCell ?_ ?_ _) | (with_reducible refine Below.alloc ?_ ?_ _) | (with_reducible refine Below.drew ?_) | (with_reducible refine below_drewN ?_ _) | (with_reducible refine below_next ?_ (by with_reducible assumption)) | omega | (dsimp only; omega) | (simp only [World.size_alloc, World.size_setCell, World.size_drew, World.heap_drewN]; omega)))
          have ha3 := alloc3 w (.cells (madeCells #[.int .u8 0] n) 5) (.map #[] 0) (.cells (madeCells #[.int .u8 0] n) 5)
          rw [← hW3] at ha3 ⊢
          have HA := Lib.hid ha3
          have HZ3 := Lib.hid ha3.2.2.2
          clear ha3 hW3
          have u3 : W3.cell? ⟨rm, 0, none⟩ = some s := (hb3.cell (p := ⟨rm, 0, none⟩) hrm).trans t0
          refine takeAt' (i := 10) (some 21) (v := ?_) rfl rfl (by kernel_rfl) (by kernel_rfl) (by kernel_rfl) (fun _ _ _ h => h) (Or.inl ⟨by rfl, ?_⟩) (by assumption) ?_
          rotate_left
          (focus (intro w hSw; (try dsimp only at hSw); go_simp; (try with_reducible rfl)))
          (try simp only [Act.put, List.setIfInBounds_toArray, List.set_cons_zero, List.set_cons_succ])
          refine wpAnyH_ready (rs := [11]) (by kernel_rfl) (by simp) ?_
          refine (AllReadyH.cons rfl (fun K hK => ?_) AllReadyH.nil)
          · skip
            go_simp
            refine hK.out _ _ trivial (fun hHeld => ?_)
            (try simp only [Act.put, List.setIfInBounds_toArray, List.set_cons_zero, List.set_cons_succ])
            obtain ⟨W4, hW4⟩ : ∃ W4, W4 = W3.alloc (.cells #[.slice (some ⟨(w.heap.size + 1 + 1), 0, none⟩) n n, .slice (some ⟨w.heap.size, 0, none⟩) n n, .map (some (w.heap.size + 1)), .bool true, .bool false] 67) := ⟨_, rfl⟩
            have hb4 : Below w.heap.size w W4 := by have hz3 := HZ3.out; rw [hW4]; (repeat' (first | (with_reducible exact Below.refl _ _) | (with_reducible assumption) | (with_reducible refine Below.setCell ?_ ?_ _) | (with_reducible refine Below.alloc ?_ ?_ _) | (with_reducible refine Below.drew ?_) | (with_reducible refine below_drewN ?_ _) | (with_reducible refine below_next ?_ (by with_reducible assumption)) | omega | (dsimp only; omega) | (simp only [World.size_alloc, World.size_setCell, World.size_drew, World.heap_drewN]; omega)))
            have hb34 : Below W3.heap.size W3 W4 := by rw [hW4]; (repeat' (first | (with_reducible exact Below.refl _ _) | (with_reducible assumption) | (with_reducible refine Below.setCell ?_ ?_ _) | (with_reducible refine Below.alloc ?_ ?_ _) | (with_reducible refine Below.drew ?_) | (with_reducible refine below_drewN ?_ _) | (with_reducible refine below_next ?_ (by with_reducible assumption)) | omega | (dsimp only; omega) | (simp only [World.size_alloc, World.size_setCell, World.size_drew, World.heap_drewN]; omega)))
            have hz4 : W4.heap.size = w.heap.size + 3 + 1 := by rw [hW4, World.size_alloc, HZ3.out]
            have hblk := blk_at W3 n (w.heap.size + 1 + 1) w.heap.size (w.heap.size + 1)
            rw [← hW4] at hblk ⊢
            clear hW4
            have u4 : W4.cell? ⟨rm, 0, none⟩ = some s := (hb4.cell (p := ⟨rm, 0, none⟩) hrm).trans t0
            refine wpAnyH_ready (rs := [12]) (by kernel_rfl) (by simp) ?_
            refine AllReadyH.cons rfl (fun K hK => ?_) AllReadyH.nil
            refine step_append_one (w := W4.drew) base rfl (.tmp 15) (.tmp 22) 27 rfl 67 ib _ 5 64 Try.underlying27 HI.out.1 HI.out.2.1 HI.out.2.2.1 HI.out.2.2.2 rfl (by decide) s R.length (R.flatMap RB.cells) rfl (row_keep HH.out.row (fun i hi => hb4.block i (HH.out.row.lt i hi).2)).drew ⟨W3.heap.size, 0, none⟩ 1 1 (newRB (w.heap.size + 1 + 1) w.heap.size (w.heap.size + 1) n).cells rfl rfl hblk (newRB_one _ _ _ _) (by unfold maxLen; omega) hlen (by show base ≤ W4.heap.size; omega) ?_
            intro v' W5 hrow hgr hnew
            have hz3 := HZ3.out
            have e7 : W4.heap[(w.heap.size + 1 + 1)]? = some (.cells ((List.replicate n (0 : Int)).map (Value.int .u8)).toArray 5 (0, 0)) := by rw [hb34.block (w.heap.size + 1 + 1) (by omega), ← made8]; exact HA.out.2.2.1
            have e8 : W4.heap[w.heap.size]? = some (.cells ((List.replicate n (0 : Int)).map (Value.int .u8)).toArray 5 (0, 0)) := by rw [hb34.block w.heap.size (by omega), ← made8]; exact HA.out.1
            have e9 : W4.heap[(w.heap.size + 1)]? = some (.map #[] 0) := by rw [hb34.block (w.heap.size + 1) (by omega)]; exact HA.out.2.1
            have hgw := Lib.hid (HH.out.grow (W4 := W4.drew) (W5 := W5) (v' := v') hcap n hn (w.heap.size + 1 + 1) w.heap.size (w.heap.size + 1) hb4.drew e7 e8 e9 ⟨by omega, by omega, by omega, by omega⟩ hrow hgr hnew)
            obtain ⟨A', c', hv'⟩ := row_form hrow
            have hcr := (hgr.block rm (by show rm < W4.heap.size; omega) HH.out.rm_ne).trans (hb4.block rm hrm)
            have u5 : W5.cell? ⟨rm, 0, none⟩ = some s := (World.cell?_of_block (a := ⟨rm, 0, none⟩) hcr).trans t0
            have v5 : W5.frozen? ⟨rm, 0, none⟩ = false := (World.frozen?_of_block (a := ⟨rm, 0, none⟩) hcr).trans f0
            have hA3 := cell_set_if
            subst hv'
            clear hz3 hrow hgr hnew e7 e8 e9 hblk hcr hms hmm hc1 hc2 hc3
            refine hK.out _ _ trivial (fun hHeld => ?_)
            (try simp only [Act.put, List.setIfInBounds_toArray, List.set_cons_zero, List.set_cons_succ])
            refine takeAt' (i := 13) (some 24) (v := ?_) rfl rfl (by kernel_rfl) (by kernel_rfl) (by kernel_rfl) (fun _ _ _ h => h) (Or.inl ⟨by rfl, ?_⟩) (by assumption) ?_
            rotate_left
            (focus (intro w hSw; (try dsimp only at hSw); go_simp; (try with_reducible rfl)))
            (try simp only [Act.put, List.setIfInBounds_toArray, List.set_cons_zero, List.set_cons_succ])
            refine takeAt' (i := 14) (some 25) (v := ?_) rfl rfl (by kernel_rfl) (by kernel_rfl) (by kernel_rfl) (fun _ _ _ h => h) (Or.inl ⟨by rfl, ?_⟩) (by assumption) ?_
            rotate_left
            (focus (intro w hSw; (try dsimp only at hSw); go_simp; (try with_reducible rfl)))
            (try simp only [Act.put, List.setIfInBounds_toArray, List.set_cons_zero, List.set_cons_succ])
            refine wpAnyH_ready (rs := [15]) (by kernel_rfl) (by simp) ?_
            refine AllReadyH.cons rfl (fun K hK => ?_) AllReadyH.nil
            go_simp
            refine hK.out _ _ trivial (fun hHeld => ?_)
            (try simp only [Act.put, List.setIfInBounds_toArray, List.set_cons_zero, List.set_cons_succ])
            refine wpAnyH_done (by kernel_rfl) ?_ _
            go_wp2
            go_returns
            exact ⟨rfl, _, (w.heap.size + 1 + 1), w.heap.size, (w.heap.size + 1), hgw.out⟩
      · skip
        go_simp
        refine hK.out _ _ trivial (fun hHeld => ?_)
        (try simp only [Act.put, List.setIfInBounds_toArray, List.set_cons_zero, List.set_cons_succ])
        obtain ⟨W3, hW3⟩ : ∃ W3, W3 = ((w.alloc (.cells (madeCells #[.int .u8 0] n) 5)).alloc (.map #[] 0)).alloc (.cells (madeCells #[.int .u8 0] n) 5) := ⟨_, rfl⟩
        have hb3 : Below w.heap.size w W3 := by rw [hW3]; (repeat' (first | (with_reducible exact Below.refl _ _) | (with_reducible assumption) | (with_reducible refine Below.setCell ?_ ?_ _) | (with_reducible refine Below.alloc ?_ ?_ _) | (with_reducible refine Below.drew ?_) | (with_reducible refine below_drewN ?_ _) | (with_reducible refine below_next ?_ (by with_reducible assumption)) | omega | (dsimp only; omega) | (simp only [World.size_alloc, World.size_setCell, World.size_drew, World.heap_drewN]; omega)))
        have ha3 := alloc3 w (.cells (madeCells #[.int .u8 0] n) 5) (.map #[] 0) (.cells (madeCells #[.int .u8 0] n) 5)
        rw [← hW3] at ha3 ⊢
        have HA := Lib.hid ha3
        have HZ3 := Lib.hid ha3.2.2.2
        clear ha3 hW3
        have u3 : W3.cell? ⟨rm, 0, none⟩ = some s := (hb3.cell (p := ⟨rm, 0, none⟩) hrm).trans t0
        refine takeAt' (i := 10) (some 21) (v := ?_) rfl rfl (by kernel_rfl) (by kernel_rfl) (by kernel_rfl) (fun _ _ _ h => h) (Or.inl ⟨by rfl, ?_⟩) (by assumption) ?_
        rotate_left
        (focus (intro w hSw; (try dsimp only at hSw); go_simp; (try with_reducible rfl)))
        (try simp only [Act.put, List.setIfInBounds_toArray, List.set_cons_zero, List.set_cons_succ])
        refine wpAnyH_ready (rs := [4, 11]) (by kernel_rfl) (by simp) ?_
        refine (AllReadyH.cons rfl (fun K hK => ?_) (AllReadyH.cons rfl (fun K hK => ?_) AllReadyH.nil))
        · skip
          go_simp
          refine hK.out _ _ trivial (fun hHeld => ?_)
          (try simp only [Act.put, List.setIfInBounds_toArray, List.set_cons_zero, List.set_cons_succ])
          refine wpAnyH_ready (rs := [11]) (by kernel_rfl) (by simp) ?_
          refine (AllReadyH.cons rfl (fun K hK => ?_) AllReadyH.nil)
          · skip
            go_simp
            refine hK.out _ _ trivial (fun hHeld => ?_)
            (try simp only [Act.put, List.setIfInBounds_toArray, List.set_cons_zero, List.set_cons_succ])
            obtain ⟨W4, hW4⟩ : ∃ W4, W4 = W3.alloc (.cells #[.slice (some ⟨(w.heap.size + 1 + 1), 0, none⟩) n n, .slice (some ⟨w.heap.size, 0, none⟩) n n, .map (some (w.heap.size + 1)), .bool true, .bool false] 67) := ⟨_, rfl⟩
            have hb4 : Below w.heap.size w W4 := by have hz3 := HZ3.out; rw [hW4]; (repeat' (first | (with_reducible exact Below.refl _ _) | (with_reducible assumption) | (with_reducible refine Below.setCell ?_ ?_ _) | (with_reducible refine Below.alloc ?_ ?_ _) | (with_reducible refine Below.drew ?_) | (with_reducible refine below_drewN ?_ _) | (with_reducible refine below_next ?_ (by with_reducible assumption)) | omega | (dsimp only; omega) | (simp only [World.size_alloc, World.size_setCell, World.size_drew, World.heap_drewN]; omega)))
            have hb34 : Below W3.heap.size W3 W4 := by rw [hW4]; (repeat' (first | (with_reducible exact Below.refl _ _) | (with_reducible assumption) | (with_reducible refine Below.setCell ?_ ?_ _) | (with_reducible refine Below.alloc ?_ ?_ _) | (with_reducible refine Below.drew ?_) | (with_reducible refine below_drewN ?_ _) | (with_reducible refine below_next ?_ (by with_reducible assumption)) | omega | (dsimp only; omega) | (simp only [World.size_alloc, World.size_setCell, World.size_drew, World.heap_drewN]; omega)))
            have hz4 : W4.heap.size = w.heap.size + 3 + 1 := by rw [hW4, World.size_alloc, HZ3.out]
            have hblk := blk_at W3 n (w.heap.size + 1 + 1) w.heap.size (w.heap.size + 1)
            rw [← hW4] at hblk ⊢
            clear hW4
            have u4 : W4.cell? ⟨rm, 0, none⟩ = some s := (hb4.cell (p := ⟨rm, 0, none⟩) hrm).trans t0
            refine wpAnyH_ready (rs := [12]) (by kernel_rfl) (by simp) ?_
            refine AllReadyH.cons rfl (fun K hK => ?_) AllReadyH.nil
            refine step_append_one (w := W4.drew) base rfl (.tmp 15) (.tmp 22) 27 rfl 67 ib _ 5 64 Try.underlying27 HI.out.1 HI.out.2.1 HI.out.2.2.1 HI.out.2.2.2 rfl (by decide) s R.length (R.flatMap RB.cells) rfl (row_keep HH.out.row (fun i hi => hb4.block i (HH.out.row.lt i hi).2)).drew ⟨W3.heap.size, 0, none⟩ 1 1 (newRB (w.heap.size + 1 + 1) w.heap.size (w.heap.size + 1) n).cells rfl rfl hblk (newRB_one _ _ _ _) (by unfold maxLen; omega) hlen (by show base ≤ W4.heap.size; omega) ?_
            intro v' W5 hrow hgr hnew
            have hz3 := HZ3.out
            have e7 : W4.heap[(w.heap.size + 1 + 1)]? = some (.cells ((List.replicate n (0 : Int)).map (Value.int .u8)).toArray 5 (0, 0)) := by rw [hb34.block (w.heap.size + 1 + 1) (by omega), ← made8]; exact HA.out.2.2.1
            have e8 : W4.heap[w.heap.size]? = some (.cells ((List.replicate n (0 : Int)).map (Value.int .u8)).toArray 5 (0, 0)) := by rw [hb34.block w.heap.size (by omega), ← made8]; exact HA.out.1
            have e9 : W4.heap[(w.heap.size + 1)]? = some (.map #[] 0) := by rw [hb34.block (w.heap.size + 1) (by omega)]; exact HA.out.2.1
            have hgw := Lib.hid (HH.out.grow (W4 := W4.drew) (W5 := W5) (v' := v') hcap n hn (w.heap.size + 1 + 1) w.heap.size (w.heap.size + 1) hb4.drew e7 e8 e9 ⟨by omega, by omega, by omega, by omega⟩ hrow hgr hnew)
            obtain ⟨A', c', hv'⟩ := row_form hrow
            have hcr := (hgr.block rm (by show rm < W4.heap.size; omega) HH.out.rm_ne).trans (hb4.block rm hrm)
            have u5 : W5.cell? ⟨rm, 0, none⟩ = some s := (World.cell?_of_block (a := ⟨rm, 0, none⟩) hcr).trans t0
            have v5 : W5.frozen? ⟨rm, 0, none⟩ = false := (World.frozen?_of_block (a := ⟨rm, 0, none⟩) hcr).trans f0
            have hA3 := cell_set_if
            subst hv'
            clear hz3 hrow hgr hnew e7 e8 e9 hblk hcr hms hmm hc1 hc2 hc3
            refine hK.out _ _ trivial (fun hHeld => ?_)
            (try simp only [Act.put, List.setIfInBounds_toArray, List.set_cons_zero, List.set_cons_succ])
            refine takeAt' (i := 13) (some 24) (v := ?_) rfl rfl (by kernel_rfl) (by kernel_rfl) (by kernel_rfl) (fun _ _ _ h => h) (Or.inl ⟨by rfl, ?_⟩) (by assumption) ?_
            rotate_left
            (focus (intro w hSw; (try dsimp only at hSw); go_simp; (try with_reducible rfl)))
            (try simp only [Act.put, List.setIfInBounds_toArray, List.set_cons_zero, List.set_cons_succ])
            refine takeAt' (i := 14) (some 25) (v := ?_) rfl rfl (by kernel_rfl) (by kernel_rfl) (by kernel_rfl) (fun _ _ _ h => h) (Or.inl ⟨by rfl, ?_⟩) (by assumption) ?_
            rotate_left
            (focus (intro w hSw; (try dsimp only at hSw); go_simp; (try with_reducible rfl)))
            (try simp only [Act.put, List.setIfInBounds_toArray, List.set_cons_zero, List.set_cons_succ])
            refine wpAnyH_ready (rs := [15]) (by kernel_rfl) (by simp) ?_
            refine AllReadyH.cons rfl (fun K hK => ?_) AllReadyH.nil
            go_simp
            refine hK.out _ _ trivial (fun hHeld => ?_)
            (try simp only [Act.put, List.setIfInBounds_toArray, List.set_cons_zero, List.set_cons_succ])
            refine wpAnyH_done (by kernel_rfl) ?_ _
            go_wp2
            go_returns
            exact ⟨rfl, _, (w.heap.size + 1 + 1), w.heap.size, (w.heap.size + 1), hgw.out⟩
        · skip
          go_simp
          refine hK.out _ _ trivial (fun hHeld => ?_)
          (try simp only [Act.put, List.setIfInBounds_toArray, List.set_cons_zero, List.set_cons_succ])
          obtain ⟨W4, hW4⟩ : ∃ W4, W4 = W3.alloc (.cells #[.slice (some ⟨(w.heap.size + 1 + 1), 0, none⟩) n n, .slice (some ⟨w.heap.size, 0, none⟩) n n, .map (some (w.heap.size + 1)), .bool true, .bool false] 67) := ⟨_, rfl⟩
          have hb4 : Below w.heap.size w W4 := by have hz3 := HZ3.out; rw [hW4]; (repeat' (first | (with_reducible exact Below.refl _ _) | (with_reducible assumption) | (with_reducible refine Below.setCell ?_ ?_ _) | (with_reducible refine Below.alloc ?_ ?_ _) | (with_reducible refine Below.drew ?_) | (with_reducible refine below_drewN ?_ _) | (with_reducible refine below_next ?_ (by with_reducible assumption)) | omega | (dsimp only; omega) | (simp only [World.size_alloc, World.size_setCell, World.size_drew, World.heap_drewN]; omega)))
          have hb34 : Below W3.heap.size W3 W4 := by rw [hW4]; (repeat' (first | (with_reducible exact Below.refl _ _) | (with_reducible assumption) | (with_reducible refine Below.setCell ?_ ?_ _) | (with_reducible refine Below.alloc ?_ ?_ _) | (with_reducible refine Below.drew ?_) | (with_reducible refine below_drewN ?_ _) | (with_reducible refine below_next ?_ (by with_reducible assumption)) | omega | (dsimp only; omega) | (simp only [World.size_alloc, World.size_setCell, World.size_drew, World.heap_drewN]; omega)))
          have hz4 : W4.heap.size = w.heap.size + 3 + 1 := by rw [hW4, World.size_alloc, HZ3.out]
          have hblk := blk_at W3 n (w.heap.size + 1 + 1) w.heap.size (w.heap.size + 1)
          rw [← hW4] at hblk ⊢
          clear hW4
          have u4 : W4.cell? ⟨rm, 0, none⟩ = some s := (hb4.cell (p := ⟨rm, 0, none⟩) hrm).trans t0
          refine wpAnyH_ready (rs := [4]) (by kernel_rfl) (by simp) ?_
          refine (AllReadyH.cons rfl (fun K hK => ?_) AllReadyH.nil)
          · skip
            go_simp
            refine hK.out _ _ trivial (fun hHeld => ?_)
            (try simp only [Act.put, List.setIfInBounds_toArray, List.set_cons_zero, List.set_cons_succ])
            refine wpAnyH_ready (rs := [12]) (by kernel_rfl) (by simp) ?_
            refine AllReadyH.cons rfl (fun K hK => ?_) AllReadyH.nil
            refine step_append_one (w := W4.drew) base rfl (.tmp 15) (.tmp 22) 27 rfl 67 ib _ 5 64 Try.underlying27 HI.out.1 HI.out.2.1 HI.out.2.2.1 HI.out.2.2.2 rfl (by decide) s R.length (R.flatMap RB.cells) rfl (row_keep HH.out.row (fun i hi => hb4.block i (HH.out.row.lt i hi).2)).drew ⟨W3.heap.size, 0, none⟩ 1 1 (newRB (w.heap.size + 1 + 1) w.heap.size (w.heap.size + 1) n).cells rfl rfl hblk (newRB_one _ _ _ _) (by unfold maxLen; omega) hlen (by show base ≤ W4.heap.size; omega) ?_
            intro v' W5 hrow hgr hnew
            have hz3 := HZ3.out
            have e7 : W4.heap[(w.heap.size + 1 + 1)]? = some (.cells ((List.replicate n (0 : Int)).map (Value.int .u8)).toArray 5 (0, 0)) := by rw [hb34.block (w.heap.size + 1 + 1) (by omega), ← made8]; exact HA.out.2.2.1
            have e8 : W4.heap[w.heap.size]? = some (.cells ((List.replicate n (0 : Int)).map (Value.int .u8)).toArray 5 (0, 0)) := by rw [hb34.block w.heap.size (by omega), ← made8]; exact HA.out.1
            have e9 : W4.heap[(w.heap.size + 1)]? = some (.map #[] 0) := by rw [hb34.block (w.heap.size + 1) (by omega)]; exact HA.out.2.1
            have hgw := Lib.hid (HH.out.grow (W4 := W4.drew) (W5 := W5) (v' := v') hcap n hn (w.heap.size + 1 + 1) w.heap.size (w.heap.size + 1) hb4.drew e7 e8 e9 ⟨by omega, by omega, by omega, by omega⟩ hrow hgr hnew)
            obtain ⟨A', c', hv'⟩ := row_form hrow
            have hcr := (hgr.block rm (by show rm < W4.heap.size; omega) HH.out.rm_ne).trans (hb4.block rm hrm)
            have u5 : W5.cell? ⟨rm, 0, none⟩ = some s := (World.cell?_of_block (a := ⟨rm, 0, none⟩) hcr).trans t0
            have v5 : W5.frozen? ⟨rm, 0, none⟩ = false := (World.frozen?_of_block (a := ⟨rm, 0, none⟩) hcr).trans f0
            have hA3 := cell_set_if
            subst hv'
            clear hz3 hrow hgr hnew e7 e8 e9 hblk hcr hms hmm hc1 hc2 hc3
            refine hK.out _ _ trivial (fun hHeld => ?_)
            (try simp only [Act.put, List.setIfInBounds_toArray, List.set_cons_zero, List.set_cons_succ])
            refine takeAt' (i := 13) (some 24) (v := ?_) rfl rfl (by kernel_rfl) (by kernel_rfl) (by kernel_rfl) (fun _ _ _ h => h) (Or.inl ⟨by rfl, ?_⟩) (by assumption) ?_
            rotate_left
            (focus (intro w hSw; (try dsimp only at hSw); go_simp; (try with_reducible rfl)))
            (try simp only [Act.put, List.setIfInBounds_toArray, List.set_cons_zero, List.set_cons_succ])
            refine takeAt' (i := 14) (some 25) (v := ?_) rfl rfl (by kernel_rfl) (by kernel_rfl) (by kernel_rfl) (fun _ _ _ h => h) (Or.inl ⟨by rfl, ?_⟩) (by assumption) ?_
            rotate_left
            (focus (intro w hSw; (try dsimp only at hSw); go_simp; (try with_reducible rfl)))
            (try simp only [Act.put, List.setIfInBounds_toArray, List.set_cons_zero, List.set_cons_succ])
            refine wpAnyH_ready (rs := [15]) (by kernel_rfl) (by simp) ?_
            refine AllReadyH.cons rfl (fun K hK => ?_) AllReadyH.nil
            go_simp
            refine hK.out _ _ trivial (fun hHeld => ?_)
            (try simp only [Act.put, List.setIfInBounds_toArray, List.set_cons_zero, List.set_cons_succ])
            refine wpAnyH_done (by kernel_rfl) ?_ _
            go_wp2
            go_returns
            exact ⟨rfl, _, (w.heap.size + 1 + 1), w.heap.size, (w.heap.size + 1), hgw.out⟩
  · skip
    go_simp
    refine hK.out _ _ trivial (fun hHeld => ?_)
    (try simp only [Act.put, List.setIfInBounds_toArray, List.set_cons_zero, List.set_cons_succ])
    refine wpAnyH_ready (rs := [4, 6, 8]) (by kernel_rfl) (by simp) ?_
    refine (AllReadyH.cons rfl (fun K hK => ?_) (AllReadyH.cons rfl (fun K hK => ?_) (AllReadyH.cons rfl (fun K hK => ?_) AllReadyH.nil)))
    · skip
      go_simp
      refine hK.out _ _ trivial (fun hHeld => ?_)
      (try simp only [Act.put, List.setIfInBounds_toArray, List.set_cons_zero, List.set_cons_succ])
      refine wpAnyH_ready (rs := [6, 8]) (by kernel_rfl) (by simp) ?_
      refine (AllReadyH.cons rfl (fun K hK => ?_) (AllReadyH.cons rfl (fun K hK => ?_) AllReadyH.nil))
      · skip
        go_simp
        refine hK.out _ _ trivial (fun hHeld => ?_)
        (try simp only [Act.put, List.setIfInBounds_toArray, List.set_cons_zero, List.set_cons_succ])
        refine wpAnyH_ready (rs := [8]) (by kernel_rfl) (by simp) ?_
        refine (AllReadyH.cons rfl (fun K hK => ?_) AllReadyH.nil)
        · skip
          go_simp
          refine hK.out _ _ trivial (fun hHeld => ?_)
          (try simp only [Act.put, List.setIfInBounds_toArray, List.set_cons_zero, List.set_cons_succ])
          obtain ⟨W3, hW3⟩ : ∃ W3, W3 = ((w.alloc (.map #[] 0)).alloc (.cells (madeCells #[.int .u8 0] n) 5)).alloc (.cells (madeCells #[.int .u8 0] n) 5) := ⟨_, rfl⟩
          have hb3 : Below w.heap.size w W3 := by rw [hW3]; (repeat' (first | (with_reducible exact Below.refl _ _) | (with_reducible assumption) | (with_reducible refine Below.setCell ?_ ?_ _) | (with_reducible refine Below.alloc ?_ ?_ _) | (with_reducible refine Below.drew ?_) | (with_reducible refine below_drewN ?_ _) | (with_reducible refine below_next ?_ (by with_reducible assumption)) | omega | (dsimp only; omega) | (simp only [World.size_alloc, World.size_setCell, World.size_drew, World.heap_drewN]; omega)))
          have ha3 := alloc3 w (.map #[] 0) (.cells (madeCells #[.int .u8 0] n) 5) (.cells (madeCells #[.int .u8 0] n) 5)
          rw [← hW3] at ha3 ⊢
          have HA := Lib.hid ha3
          have HZ3 := Lib.hid ha3.2.2.2
          clear ha3 hW3
          have u3 : W3.cell? ⟨rm, 0, none⟩ = some s := (hb3.cell (p := ⟨rm, 0, none⟩) hrm).trans t0
          refine takeAt' (i := 10) (some 21) (v := ?_) rfl rfl (by kernel_rfl) (by kernel_rfl) (by kernel_rfl) (fun _ _ _ h => h) (Or.inl ⟨by rfl, ?_⟩) (by assumption) ?_
          rotate_left
          (focus (intro w hSw; (try dsimp only at hSw); go_simp; (try with_reducible rfl)))
          (try simp only [Act.put, List.setIfInBounds_toArray, List.set_cons_zero, List.set_cons_succ])
          refine wpAnyH_ready (rs := [11]) (by kernel_rfl) (by simp) ?_
          refine (AllReadyH.cons rfl (fun K hK => ?_) AllReadyH.nil)
          · skip
            go_simp
            refine hK.out _ _ trivial (fun hHeld => ?_)
            (try simp only [Act.put, List.setIfInBounds_toArray, List.set_cons_zero, List.set_cons_succ])
            obtain ⟨W4, hW4⟩ : ∃ W4, W4 = W3.alloc (.cells #[.slice (some ⟨(w.heap.size + 1), 0, none⟩) n n, .slice (some ⟨(w.heap.size + 1 + 1), 0, none⟩) n n, .map (some w.heap.size), .bool true, .bool false] 67) := ⟨_, rfl⟩
            have hb4 : Below w.heap.size w W4 := by have hz3 := HZ3.out; rw [hW4]; (repeat' (first | (with_reducible exact Below.refl _ _) | (with_reducible assumption) | (with_reducible refine Below.setCell ?_ ?_ _) | (with_reducible refine Below.alloc ?_ ?_ _) | (with_reducible refine Below.drew ?_) | (with_reducible refine below_drewN ?_ _) | (with_reducible refine below_next ?_ (by with_reducible assumption)) | omega | (dsimp only; omega) | (simp only [World.size_alloc, World.size_setCell, World.size_drew, World.heap_drewN]; omega)))
            have hb34 : Below W3.heap.size W3 W4 := by rw [hW4]; (repeat' (first | (with_reducible exact Below.refl _ _) | (with_reducible assumption) | (with_reducible refine Below.setCell ?_ ?_ _) | (with_reducible refine Below.alloc ?_ ?_ _) | (with_reducible refine Below.drew ?_) | (with_reducible refine below_drewN ?_ _) | (with_reducible refine below_next ?_ (by with_reducible assumption)) | omega | (dsimp only; omega) | (simp only [World.size_alloc, World.size_setCell, World.size_drew, World.heap_drewN]; omega)))
            have hz4 : W4.heap.size = w.heap.size + 3 + 1 := by rw [hW4, World.size_alloc, HZ3.out]
            have hblk := blk_at W3 n (w.heap.size + 1) (w.heap.size + 1 + 1) w.heap.size
            rw [← hW4] at hblk ⊢
            clear hW4
            have u4 : W4.cell? ⟨rm, 0, none⟩ = some s := (hb4.cell (p := ⟨rm, 0, none⟩) hrm).trans t0
            refine wpAnyH_ready (rs := [12]) (by kernel_rfl) (by simp) ?_
            refine AllReadyH.cons rfl (fun K hK => ?_) AllReadyH.nil
            refine step_append_one (w := W4.drew) base rfl (.tmp 15) (.tmp 22) 27 rfl 67 ib _ 5 64 Try.underlying27 HI.out.1 HI.out.2.1 HI.out.2.2.1 HI.out.2.2.2 rfl (by decide) s R.length (R.flatMap RB.cells) rfl (row_keep HH.out.row (fun i hi => hb4.block i (HH.out.row.lt i hi).2)).drew ⟨W3.heap.size, 0, none⟩ 1 1 (newRB (w.heap.size + 1) (w.heap.size + 1 + 1) w.heap.size n).cells rfl rfl hblk (newRB_one _ _ _ _) (by unfold maxLen; omega) hlen (by show base ≤ W4.heap.size; omega) ?_
            intro v' W5 hrow hgr hnew
            have hz3 := HZ3.out
            have e7 : W4.heap[(w.heap.size + 1)]? = some (.cells ((List.replicate n (0 : Int)).map (Value.int .u8)).toArray 5 (0, 0)) := by rw [hb34.block (w.heap.size + 1) (by omega), ← made8]; exact HA.out.2.1
            have e8 : W4.heap[(w.heap.size + 1 + 1)]? = some (.cells ((List.replicate n (0 : Int)).map (Value.int .u8)).toArray 5 (0, 0)) := by rw [hb34.block (w.heap.size + 1 + 1) (by omega), ← made8]; exact HA.out.2.2.1
            have e9 : W4.heap[w.heap.size]? = some (.map #[] 0) := by rw [hb34.block w.heap.size (by omega)]; exact HA.out.1
            have hgw := Lib.hid (HH.out.grow (W4 := W4.drew) (W5 := W5) (v' := v') hcap n hn (w.heap.size + 1) (w.heap.size + 1 + 1) w.heap.size hb4.drew e7 e8 e9 ⟨by omega, by omega, by omega, by omega⟩ hrow hgr hnew)
            obtain ⟨A', c', hv'⟩ := row_form hrow
            have hcr := (hgr.block rm (by show rm < W4.heap.size; omega) HH.out.rm_ne).trans (hb4.block rm hrm)
            have u5 : W5.cell? ⟨rm, 0, none⟩ = some s := (World.cell?_of_block (a := ⟨rm, 0, none⟩) hcr).trans t0
            have v5 : W5.frozen? ⟨rm, 0, none⟩ = false := (World.frozen?_of_block (a := ⟨rm, 0, none⟩) hcr).trans f0
            have hA3 := cell_set_if
            subst hv'
            clear hz3 hrow hgr hnew e7 e8 e9 hblk hcr hms hmm hc1 hc2 hc3
            refine hK.out _ _ trivial (fun hHeld => ?_)
            (try simp only [Act.put, List.setIfInBounds_toArray, List.set_cons_zero, List.set_cons_succ])
            refine takeAt' (i := 13) (some 24) (v := ?_) rfl rfl (by kernel_rfl) (by kernel_rfl) (by kernel_rfl) (fun _ _ _ h => h) (Or.inl ⟨by rfl, ?_⟩) (by assumption) ?_
            rotate_left
            (focus (intro w hSw; (try dsimp only at hSw); go_simp; (try with_reducible rfl)))
            (try simp only [Act.put, List.setIfInBounds_toArray, List.set_cons_zero, List.set_cons_succ])
            refine takeAt' (i := 14) (some 25) (v := ?_) rfl rfl (by kernel_rfl) (by kernel_rfl) (by kernel_rfl) (fun _ _ _ h => h) (Or.inl ⟨by rfl, ?_⟩) (by assumption) ?_
            rotate_left
            (focus (intro w hSw; (try dsimp only at hSw); go_simp; (try with_reducible rfl)))
            (try simp only [Act.put, List.setIfInBounds_toArray, List.set_cons_zero, List.set_cons_succ])
            refine wpAnyH_ready (rs := [15]) (by kernel_rfl) (by simp) ?_
            refine AllReadyH.cons rfl (fun K hK => ?_) AllReadyH.nil
            go_simp
            refine hK.out _ _ trivial (fun hHeld => ?_)
            (try simp only [Act.put, List.setIfInBounds_toArray, List.set_cons_zero, List.set_cons_succ])
            refine wpAnyH_done (by kernel_rfl) ?_ _
            go_wp2
            go_returns
            exact ⟨rfl, _, (w.heap.size + 1), (w.heap.size + 1 + 1), w.heap.size, hgw.out⟩
      · skip
        go_simp
        refine hK.out _ _ trivial (fun hHeld => ?_)
        (try simp only [Act.put, List.setIfInBounds_toArray, List.set_cons_zero, List.set_cons_succ])
        refine wpAnyH_ready (rs := [6]) (by kernel_rfl) (by simp) ?_
        refine (AllReadyH.cons rfl (fun K hK => ?_) AllReadyH.nil)
        · skip
          go_simp
          refine hK.out _ _ trivial (fun hHeld => ?_)
          (try simp only [Act.put, List.setIfInBounds_toArray, List.set_cons_zero, List.set_cons_succ])
          obtain ⟨W3, hW3⟩ : ∃ W3, W3 = ((w.alloc (.map #[] 0)).alloc (.cells (madeCells #[.int .u8 0] n) 5)).alloc (.cells (madeCells #[.int .u8 0] n) 5) := ⟨_, rfl⟩
          have hb3 : Below w.heap.size w W3 := by rw [hW3]; (repeat' (first | (with_reducible exact Below.refl _ _) | (with_reducible assumption) | (with_reducible refine Below.setCell ?_ ?_ _) | (with_reducible refine Below.alloc ?_ ?_ _) | (with_reducible refine Below.drew ?_) | (with_reducible refine below_drewN ?_ _) | (with_reducible refine below_next ?_ (by with_reducible assumption)) | omega | (dsimp only; omega) | (simp only [World.size_alloc, World.size_setCell, World.size_drew, World.heap_drewN]; omega)))
          have ha3 := alloc3 w (.map #[] 0) (.cells (madeCells #[.int .u8 0] n) 5) (.cells (madeCells #[.int .u8 0] n) 5)
          rw [← hW3] at ha3 ⊢
          have HA := Lib.hid ha3
          have HZ3 := Lib.hid ha3.2.2.2
          clear ha3 hW3
          have u3 : W3.cell? ⟨rm, 0, none⟩ = some s := (hb3.cell (p := ⟨rm, 0, none⟩) hrm).trans t0
          refine takeAt' (i := 10) (some 21) (v := ?_) rfl rfl (by kernel_rfl) (by kernel_rfl) (by kernel_rfl) (fun _ _ _ h => h) (Or.inl ⟨by rfl, ?_⟩) (by assumption) ?_
          rotate_left
          (focus (intro w hSw; (try dsimp only at hSw); go_simp; (try with_reducible rfl)))
          (try simp only [Act.put, List.setIfInBounds_toArray, List.set_cons_zero, List.set_cons_succ])
          refine wpAnyH_ready (rs := [11]) (by kernel_rfl) (by simp) ?_
          refine (AllReadyH.cons rfl (fun K hK => ?_) AllReadyH.nil)
          · skip
            go_simp
            refine hK.out _ _ trivial (fun hHeld => ?_)
            (try simp only [Act.put, List.setIfInBounds_toArray, List.set_cons_zero, List.set_cons_succ])
            obtain ⟨W4, hW4⟩ : ∃ W4, W4 = W3.alloc (.cells #[.slice (some ⟨(w.heap.size + 1 + 1), 0, none⟩) n n, .slice (some ⟨(w.heap.size + 1), 0, none⟩) n n, .map (some w.heap.size), .bool true, .bool false] 67) := ⟨_, rfl⟩
            have hb4 : Below w.heap.size w W4 := by have hz3 := HZ3.out; rw [hW4]; (repeat' (first | (with_reducible exact Below.refl _ _) | (with_reducible assumption) | (with_reducible refine Below.setCell ?_ ?_ _) | (with_reducible refine Below.alloc ?_ ?_ _) | (with_reducible refine Below.drew ?_) | (with_reducible refine below_drewN ?_ _) | (with_reducible refine below_next ?_ (by with_reducible assumption)) | omega | (dsimp only; omega) | (simp only [World.size_alloc, World.size_setCell, World.size_drew, World.heap_drewN]; omega)))
            have hb34 : Below W3.heap.size W3 W4 := by rw [hW4]; (repeat' (first | (with_reducible exact Below.refl _ _) | (with_reducible assumption) | (with_reducible refine Below.setCell ?_ ?_ _) | (with_reducible refine Below.alloc ?_ ?_ _) | (with_reducible refine Below.drew ?_) | (with_reducible refine below_drewN ?_ _) | (with_reducible refine below_next ?_ (by with_reducible assumption)) | omega | (dsimp only; omega) | (simp only [World.size_alloc, World.size_setCell, World.size_drew, World.heap_drewN]; omega)))
            have hz4 : W4.heap.size = w.heap.size + 3 + 1 := by rw [hW4, World.size_alloc, HZ3.out]
            have hblk := blk_at W3 n (w.heap.size + 1 + 1) (w.heap.size + 1) w.heap.size
            rw [← hW4] at hblk ⊢
            clear hW4
            have u4 : W4.cell? ⟨rm, 0, none⟩ = some s := (hb4.cell (p := ⟨rm, 0, none⟩) hrm).trans t0
            refine wpAnyH_ready (rs := [12]) (by kernel_rfl) (by simp) ?_
            refine AllReadyH.cons rfl (fun K hK => ?_) AllReadyH.nil
            refine step_append_one (w := W4.drew) base rfl (.tmp 15) (.tmp 22) 27 rfl 67 ib _ 5 64 Try.underlying27 HI.out.1 HI.out.2.1 HI.out.2.2.1 HI.out.2.2.2 rfl (by decide) s R.length (R.flatMap RB.cells) rfl (row_keep HH.out.row (fun i hi => hb4.block i (HH.out.row.lt i hi).2)).drew ⟨W3.heap.size, 0, none⟩ 1 1 (newRB (w.heap.size + 1 + 1) (w.heap.size + 1) w.heap.size n).cells rfl rfl hblk (newRB_one _ _ _ _) (by unfold maxLen; omega) hlen (by show base ≤ W4.heap.size; omega) ?_
            intro v' W5 hrow hgr hnew
            have hz3 := HZ3.out
            have e7 : W4.heap[(w.heap.size + 1 + 1)]? = some (.cells ((List.replicate n (0 : Int)).map (Value.int .u8)).toArray 5 (0, 0)) := by rw [hb34.block (w.heap.size + 1 + 1) (by omega), ← made8]; exact HA.out.2.2.1
            have e8 : W4.heap[(w.heap.size + 1)]? = some (.cells ((List.replicate n (0 : Int)).map (Value.int .u8)).toArray 5 (0, 0)) := by rw [hb34.block (w.heap.size + 1) (by omega), ← made8]; exact HA.out.2.1
            have e9 : W4.heap[w.heap.size]? = some (.map #[] 0) := by rw [hb34.block w.heap.size (by omega)]; exact HA.out.1
            have hgw := Lib.hid (HH.out.grow (W4 := W4.drew) (W5 := W5) (v' := v') hcap n hn (w.heap.size + 1 + 1) (w.heap.size + 1) w.heap.size hb4.drew e7 e8 e9 ⟨by omega, by omega, by omega, by omega⟩ hrow hgr hnew)
            obtain ⟨A', c', hv'⟩ := row_form hrow
            have hcr := (hgr.block rm (by show rm < W4.heap.size; omega) HH.out.rm_ne).trans (hb4.block rm hrm)
            have u5 : W5.cell? ⟨rm, 0, none⟩ = some s := (World.cell?_of_block (a := ⟨rm, 0, none⟩) hcr).trans t0
            have v5 : W5.frozen? ⟨rm, 0, none⟩ = false := (World.frozen?_of_block (a := ⟨rm, 0, none⟩) hcr).trans f0
            have hA3 := cell_set_if
            subst hv'
            clear hz3 hrow hgr hnew e7 e8 e9 hblk hcr hms hmm hc1 hc2 hc3
            refine hK.out _ _ trivial (fun hHeld => ?_)
            (try simp only [Act.put, List.setIfInBounds_toArray, List.set_cons_zero, List.set_cons_succ])
            refine takeAt' (i := 13) (some 24) (v := ?_) rfl rfl (by kernel_rfl) (by kernel_rfl) (by kernel_rfl) (fun _ _ _ h => h) (Or.inl ⟨by rfl, ?_⟩) (by assumption) ?_
            rotate_left
            (focus (intro w hSw; (try dsimp only at hSw); go_simp; (try with_reducible rfl)))
            (try simp only [Act.put, List.setIfInBounds_toArray, List.set_cons_zero, List.set_cons_succ])
            refine takeAt' (i := 14) (some 25) (v := ?_) rfl rfl (by kernel_rfl) (by kernel_rfl) (by kernel_rfl) (fun _ _ _ h => h) (Or.inl ⟨by rfl, ?_⟩) (by assumption) ?_
            rotate_left
            (focus (intro w hSw; (try dsimp only at hSw); go_simp; (try with_reducible rfl)))
            (try simp only [Act.put, List.setIfInBounds_toArray, List.set_cons_zero, List.set_cons_succ])
            refine wpAnyH_ready (rs := [15]) (by kernel_rfl) (by simp) ?_
            refine AllReadyH.cons rfl (fun K hK => ?_) AllReadyH.nil
            go_simp
            refine hK.out _ _ trivial (fun hHeld => ?_)
            (try simp only [Act.put, List.setIfInBounds_toArray, List.set_cons_zero, List.set_cons_succ])
            refine wpAnyH_done (by kernel_rfl) ?_ _
            go_wp2
            go_returns
            exact ⟨rfl, _, (w.heap.size + 1 + 1), (w.heap.size + 1), w.heap.size, hgw.out⟩
    · skip
      go_simp
      refine hK.out _ _ trivial (fun hHeld => ?_)
      (try simp only [Act.put, List.setIfInBounds_toArray, List.set_cons_zero, List.set_cons_succ])
      refine wpAnyH_ready (rs := [4, 8]) (by kernel_rfl) (by simp) ?_
      refine (AllReadyH.cons rfl (fun K hK => ?_) (AllReadyH.cons rfl (fun K hK => ?_) AllReadyH.nil))
      · skip
        go_simp
        refine hK.out _ _ trivial (fun hHeld => ?_)
        (try simp only [Act.put, List.setIfInBounds_toArray, List.set_cons_zero, List.set_cons_succ])
        refine wpAnyH_ready (rs := [8]) (by kernel_rfl) (by simp) ?_
        refine (AllReadyH.cons rfl (fun K hK => ?_) AllReadyH.nil)
        · skip
          go_simp
          refine hK.out _ _ trivial (fun hHeld => ?_)
          (try simp only [Act.put, List.setIfInBounds_toArray, List.set_cons_zero, List.set_cons_succ])
          obtain ⟨W3, hW3⟩ : ∃ W3, W3 = ((w.alloc (.map #[] 0)).alloc (.cells (madeCells #[.int .u8 0] n) 5)).alloc (.cells (madeCells #[.int .u8 0] n) 5) := ⟨_, rfl⟩
          have hb3 : Below w.heap.size w W3 := by rw [hW3]; (repeat' (first | (with_reducible exact Below.refl _ _) | (with_reducible assumption) | (with_reducible refine Below.setCell ?_ ?_ _) | (with_reducible refine Below.alloc ?_ ?_ _) | (with_reducible refine Below.drew ?_) | (with_reducible refine below_drewN ?_ _) | (with_reducible refine below_next ?_ (by with_reducible assumption)) | omega | (dsimp only; omega) | (simp only [World.size_alloc, World.size_setCell, World.size_drew, World.heap_drewN]; omega)))
          have ha3 := alloc3 w (.map #[] 0) (.cells (madeCells #[.int .u8 0] n) 5) (.cells (madeCells #[.int .u8 0] n) 5)
          rw [← hW3] at ha3 ⊢
          have HA := Lib.hid ha3
          have HZ3 := Lib.hid ha3.2.2.2
          clear ha3 hW3
          have u3 : W3.cell? ⟨rm, 0, none⟩ = some s := (hb3.cell (p := ⟨rm, 0, none⟩) hrm).trans t0
          refine takeAt' (i := 10) (some 21) (v := ?_) rfl rfl (by kernel_rfl) (by kernel_rfl) (by kernel_rfl) (fun _ _ _ h => h) (Or.inl ⟨by rfl, ?_⟩) (by assumption) ?_
          rotate_left
          (focus (intro w hSw; (try dsimp only at hSw); go_simp; (try with_reducible rfl)))
          (try simp only [Act.put, List.setIfInBounds_toArray, List.set_cons_zero, List.set_cons_succ])
          refine wpAnyH_ready (rs := [11]) (by kernel_rfl) (by simp) ?_
          refine (AllReadyH.cons rfl (fun K hK => ?_) AllReadyH.nil)
          · skip
            go_simp
            refine hK.out _ _ trivial (fun hHeld => ?_)
            (try simp only [Act.put, List.setIfInBounds_toArray, List.set_cons_zero, List.set_cons_succ])
            obtain ⟨W4, hW4⟩ : ∃ W4, W4 = W3.alloc (.cells #[.slice (some ⟨(w.heap.size + 1), 0, none⟩) n n, .slice (some ⟨(w.heap.size + 1 + 1), 0, none⟩) n n, .map (some w.heap.size), .bool true, .bool false] 67) := ⟨_, rfl⟩
            have hb4 : Below w.heap.size w W4 := by have hz3 := HZ3.out; rw [hW4]; (repeat' (first | (with_reducible exact Below.refl _ _) | (with_reducible assumption) | (with_reducible refine Below.setCell ?_ ?_ _) | (with_reducible refine Below.alloc ?_ ?_ _) | (with_reducible refine Below.drew ?_) | (with_reducible refine below_drewN ?_ _) | (with_reducible refine below_next ?_ (by with_reducible assumption)) | omega | (dsimp only; omega) | (simp only [World.size_alloc, World.size_setCell, World.size_drew, World.heap_drewN]; omega)))
            have hb34 : Below W3.heap.size W3 W4 := by rw [hW4]; (repeat' (first | (with_reducible exact Below.refl _ _) | (with_reducible assumption) | (with_reducible refine Below.setCell ?_ ?_ _) | (with_reducible refine Below.alloc ?_ ?_ _) | (with_reducible refine Below.drew ?_) | (with_reducible refine below_drewN ?_ _) | (with_reducible refine below_next ?_ (by with_reducible assumption)) | omega | (dsimp only; omega) | (simp only [World.size_alloc, World.size_setCell, World.size_drew, World.heap_drewN]; omega)))
            have hz4 : W4.heap.size = w.heap.size + 3 + 1 := by rw [hW4, World.size_alloc, HZ3.out]
            have hblk := blk_at W3 n (w.heap.size + 1) (w.heap.size + 1 + 1) w.heap.size
            rw [← hW4] at hblk ⊢
            clear hW4
            have u4 : W4.cell? ⟨rm, 0, none⟩ = some s := (hb4.cell (p := ⟨rm, 0, none⟩) hrm).trans t0
            refine wpAnyH_ready (rs := [12]) (by kernel_rfl) (by simp) ?_
            refine AllReadyH.cons rfl (fun K hK => ?_) AllReadyH.nil
            refine step_append_one (w := W4.drew) base rfl (.tmp 15) (.tmp 22) 27 rfl 67 ib _ 5 64 Try.underlying27 HI.out.1 HI.out.2.1 HI.out.2.2.1 HI.out.2.2.2 rfl (by decide) s R.length (R.flatMap RB.cells) rfl (row_keep HH.out.row (fun i hi => hb4.block i (HH.out.row.lt i hi).2)).drew ⟨W3.heap.size, 0, none⟩ 1 1 (newRB (w.heap.size + 1) (w.heap.size + 1 + 1) w.heap.size n).cells rfl rfl hblk (newRB_one _ _ _ _) (by unfold maxLen; omega) hlen (by show base ≤ W4.heap.size; omega) ?_
            intro v' W5 hrow hgr hnew
            have hz3 := HZ3.out
            have e7 : W4.heap[(w.heap.size + 1)]? = some (.cells ((List.replicate n (0 : Int)).map (Value.int .u8)).toArray 5 (0, 0)) := by rw [hb34.block (w.heap.size + 1) (by omega), ← made8]; exact HA.out.2.1
            have e8 : W4.heap[(w.heap.size + 1 + 1)]? = some (.cells ((List.replicate n (0 : Int)).map (Value.int .u8)).toArray 5 (0, 0)) := by rw [hb34.block (w.heap.size + 1 + 1) (by omega), ← made8]; exact HA.out.2.2.1
            have e9 : W4.heap[w.heap.size]? = some (.map #[] 0) := by rw [hb34.block w.heap.size (by omega)]; exact HA.out.1
            have hgw := Lib.hid (HH.out.grow (W4 := W4.drew) (W5 := W5) (v' := v') hcap n hn (w.heap.size + 1) (w.heap.size + 1 + 1) w.heap.size hb4.drew e7 e8 e9 ⟨by omega, by omega, by omega, by omega⟩ hrow hgr hnew)
            obtain ⟨A', c', hv'⟩ := row_form hrow
            have hcr := (hgr.block rm (by show rm < W4.heap.size; omega) HH.out.rm_ne).trans (hb4.block rm hrm)
            have u5 : W5.cell? ⟨rm, 0, none⟩ = some s := (World.cell?_of_block (a := ⟨rm, 0, none⟩) hcr).trans t0
            have v5 : W5.frozen? ⟨rm, 0, none⟩ = false := (World.frozen?_of_block (a := ⟨rm, 0, none⟩) hcr).trans f0
            have hA3 := cell_set_if
            subst hv'
            clear hz3 hrow hgr hnew e7 e8 e9 hblk hcr hms hmm hc1 hc2 hc3
            refine hK.out _ _ trivial (fun hHeld => ?_)
            (try simp only [Act.put, List.setIfInBounds_toArray, List.set_cons_zero, List.set_cons_succ])
            refine takeAt' (i := 13) (some 24) (v := ?_) rfl rfl (by kernel_rfl) (by kernel_rfl) (by kernel_rfl) (fun _ _ _ h => h) (Or.inl ⟨by rfl, ?_⟩) (by assumption) ?_
            rotate_left
            (focus (intro w hSw; (try dsimp only at hSw); go_simp; (try with_reducible rfl)))
            (try simp only [Act.put, List.setIfInBounds_toArray, List.set_cons_zero, List.set_cons_succ])
            refine takeAt' (i := 14) (some 25) (v := ?_) rfl rfl (by kernel_rfl) (by kernel_rfl) (by kernel_rfl) (fun _ _ _ h => h) (Or.inl ⟨by rfl, ?_⟩) (by assumption) ?_
            rotate_left
            (focus (intro w hSw; (try dsimp only at hSw); go_simp; (try with_reducible rfl)))
            (try simp only [Act.put, List.setIfInBounds_toArray, List.set_cons_zero, List.set_cons_succ])
            refine wpAnyH_ready (rs := [15]) (by kernel_rfl) (by simp) ?_
            refine AllReadyH.cons rfl (fun K hK => ?_) AllReadyH.nil
            go_simp
            refine hK.out _ _ trivial (fun hHeld => ?_)
            (try simp only [Act.put, List.setIfInBounds_toArray, List.set_cons_zero, List.set_cons_succ])
            refine wpAnyH_done (by kernel_rfl) ?_ _
            go_wp2
            go_returns
            exact ⟨rfl, _, (w.heap.size + 1), (w.heap.size + 1 + 1), w.heap.size, hgw.out⟩
      · skip
        go_simp
        refine hK.out _ _ trivial (fun hHeld => ?_)
        (try simp only [Act.put, List.setIfInBounds_toArray, List.set_cons_zero, List.set_cons_succ])
        obtain ⟨W3, hW3⟩ : ∃ W3, W3 = ((w.alloc (.map #[] 0)).alloc (.cells (madeCells #[.int .u8 0] n) 5)).alloc (.cells (madeCells #[.int .u8 0] n) 5) := ⟨_, rfl⟩
        have hb3 : Below w.heap.size w W3 := by rw [hW3]; (repeat' (first | (with_reducible exact Below.refl _ _) | (with_reducible assumption) | (with_reducible refine Below.setCell ?_ ?_ _) | (with_reducible refine Below.alloc ?_ ?_ _) | (with_reducible refine Below.drew ?_) | (with_reducible refine below_drewN ?_ _) | (with_reducible refine below_next ?_ (by with_reducible assumption)) | omega | (dsimp only; omega) | (simp only [World.size_alloc, World.size_setCell, World.size_drew, World.heap_drewN]; omega)))
        have ha3 := alloc3 w (.map #[] 0) (.cells (madeCells #[.int .u8 0] n) 5) (.cells (madeCells #[.int .u8 0] n) 5)
        rw [← hW3] at ha3 ⊢
        have HA := Lib.hid ha3
        have HZ3 := Lib.hid ha3.2.2.2
        clear ha3 hW3
        have u3 : W3.cell? ⟨rm, 0, none⟩ = some s := (hb3.cell (p := ⟨rm, 0, none⟩) hrm).trans t0
        refine takeAt' (i := 10) (some 21) (v := ?_) rfl rfl (by kernel_rfl) (by kernel_rfl) (by kernel_rfl) (fun _ _ _ h => h) (Or.inl ⟨by rfl, ?_⟩) (by assumption) ?_
        rotate_left
        (focus (intro w hSw; (try dsimp only at hSw); go_simp; (try with_reducible rfl)))
        (try simp only [Act.put, List.setIfInBounds_toArray, List.set_cons_zero, List.set_cons_succ])
        refine wpAnyH_ready (rs := [4, 11]) (by kernel_rfl) (by simp) ?_
        refine (AllReadyH.cons rfl (fun K hK => ?_) (AllReadyH.cons rfl (fun K hK => ?_) AllReadyH.nil))
        · skip
          go_simp
          refine hK.out _ _ trivial (fun hHeld => ?_)
          (try simp only [Act.put, List.setIfInBounds_toArray, List.set_cons_zero, List.set_cons_succ])
          refine wpAnyH_ready (rs := [11]) (by kernel_rfl) (by simp) ?_
          refine (AllReadyH.cons rfl (fun K hK => ?_) AllReadyH.nil)
          · skip
            go_simp
            refine hK.out _ _ trivial (fun hHeld => ?_)
            (try simp only [Act.put, List.setIfInBounds_toArray, List.set_cons_zero, List.set_cons_succ])
            obtain ⟨W4, hW4⟩ : ∃ W4, W4 = W3.alloc (.cells #[.slice (some ⟨(w.heap.size + 1), 0, none⟩) n n, .slice (some ⟨(w.heap.size + 1 + 1), 0, none⟩) n n, .map (some w.heap.size), .bool true, .bool false] 67) := ⟨_, rfl⟩
            have hb4 : Below w.heap.size w W4 := by have hz3 := HZ3.out; rw [hW4]; (repeat' (first | (with_reducible exact Below.refl _ _) | (with_reducible assumption) | (with_reducible refine Below.setCell ?_ ?_ _) | (with_reducible refine Below.alloc ?_ ?_ _) | (with_reducible refine Below.drew ?_) | (with_reducible refine below_drewN ?_ _) | (with_reducible refine below_next ?_ (by with_reducible assumption)) | omega | (dsimp only; omega) | (simp only [World.size_alloc, World.size_setCell, World.size_drew, World.heap_drewN]; omega)))
            have hb34 : Below W3.heap.size W3 W4 := by rw [hW4]; (repeat' (first | (with_reducible exact Below.refl _ _) | (with_reducible assumption) | (with_reducible refine Below.setCell ?_ ?_ _) | (with_reducible refine Below.alloc ?_ ?_ _) | (with_reducible refine Below.drew ?_) | (with_reducible refine below_drewN ?_ _) | (with_reducible refine below_next ?_ (by with_reducible assumption)) | omega | (dsimp only; omega) | (simp only [World.size_alloc, World.size_setCell, World.size_drew, World.heap_drewN]; omega)))
            have hz4 : W4.heap.size = w.heap.size + 3 + 1 := by rw [hW4, World.size_alloc, HZ3.out]
            have hblk := blk_at W3 n (w.heap.size + 1) (w.heap.size + 1 + 1) w.heap.size
            rw [← hW4] at hblk ⊢
            clear hW4
            have u4 : W4.cell? ⟨rm, 0, none⟩ = some s := (hb4.cell (p := ⟨rm, 0, none⟩) hrm).trans t0
            refine wpAnyH_ready (rs := [12]) (by kernel_rfl) (by simp) ?_
            refine AllReadyH.cons rfl (fun K hK => ?_) AllReadyH.nil
            refine step_append_one (w := W4.drew) base rfl (.tmp 15) (.tmp 22) 27 rfl 67 ib _ 5 64 Try.underlying27 HI.out.1 HI.out.2.1 HI.out.2.2.1 HI.out.2.2.2 rfl (by decide) s R.length (R.flatMap RB.cells) rfl (row_keep HH.out.row (fun i hi => hb4.block i (HH.out.row.lt i hi).2)).drew ⟨W3.heap.size, 0, none⟩ 1 1 (newRB (w.heap.size + 1) (w.heap.size + 1 + 1) w.heap.size n).cells rfl rfl hblk (newRB_one _ _ _ _) (by unfold maxLen; omega) hlen (by show base ≤ W4.heap.size; omega) ?_
            intro v' W5 hrow hgr hnew
            have hz3 := HZ3.out
            have e7 : W4.heap[(w.heap.size + 1)]? = some (.cells ((List.replicate n (0 : Int)).map (Value.int .u8)).toArray 5 (0, 0)) := by rw [hb34.block (w.heap.size + 1) (by omega), ← made8]; exact HA.out.2.1
            have e8 : W4.heap[(w.heap.size + 1 + 1)]? = some (.cells ((List.replicate n (0 : Int)).map (Value.int .u8)).toArray 5 (0, 0)) := by rw [hb34.block (w.heap.size + 1 + 1) (by omega), ← made8]; exact HA.out.2.2.1
            have e9 : W4.heap[w.heap.size]? = some (.map #[] 0) := by rw [hb34.block w.heap.size (by omega)]; exact HA.out.1
            have hgw := Lib.hid (HH.out.grow (W4 := W4.drew) (W5 := W5) (v' := v') hcap n hn (w.heap.size + 1) (w.heap.size + 1 + 1) w.heap.size hb4.drew e7 e8 e9 ⟨by omega, by omega, by omega, by omega⟩ hrow hgr hnew)
            obtain ⟨A', c', hv'⟩ := row_form hrow
            have hcr := (hgr.block rm (by show rm < W4.heap.size; omega) HH.out.rm_ne).trans (hb4.block rm hrm)
            have u5 : W5.cell? ⟨rm, 0, none⟩ = some s := (World.cell?_of_block (a := ⟨rm, 0, none⟩) hcr).trans t0
            have v5 : W5.frozen? ⟨rm, 0, none⟩ = false := (World.frozen?_of_block (a := ⟨rm, 0, none⟩) hcr).trans f0
            have hA3 := cell_set_if
            subst hv'
            clear hz3 hrow hgr hnew e7 e8 e9 hblk hcr hms hmm hc1 hc2 hc3
            refine hK.out _ _ trivial (fun hHeld => ?_)
            (try simp only [Act.put, List.setIfInBounds_toArray, List.set_cons_zero, List.set_cons_succ])
            refine takeAt' (i := 13) (some 24) (v := ?_) rfl rfl (by kernel_rfl) (by kernel_rfl) (by kernel_rfl) (fun _ _ _ h => h) (Or.inl ⟨by rfl, ?_⟩) (by assumption) ?_
            rotate_left
            (focus (intro w hSw; (try dsimp only at hSw); go_simp; (try with_reducible rfl)))
            (try simp only [Act.put, List.setIfInBounds_toArray, List.set_cons_zero, List.set_cons_succ])
            refine takeAt' (i := 14) (some 25) (v := ?_) rfl rfl (by kernel_rfl) (by kernel_rfl) (by kernel_rfl) (fun _ _ _ h => h) (Or.inl ⟨by rfl, ?_⟩) (by assumption) ?_
            rotate_left
            (focus (intro w hSw; (try dsimp only at hSw); go_simp; (try with_reducible rfl)))
            (try simp only [Act.put, List.setIfInBounds_toArray, List.set_cons_zero, List.set_cons_succ])
            refine wpAnyH_ready (rs := [15]) (by kernel_rfl) (by simp) ?_
            refine AllReadyH.cons rfl (fun K hK => ?_) AllReadyH.nil
            go_simp
            refine hK.out _ _ trivial (fun hHeld => ?_)
            (try simp only [Act.put, List.setIfInBounds_toArray, List.set_cons_zero, List.set_cons_succ])
            refine wpAnyH_done (by kernel_rfl) ?_ _
            go_wp2
            go_returns
            exact ⟨rfl, _, (w.heap.size + 1), (w.heap.size + 1 + 1), w.heap.size, hgw.out⟩
        · skip
          go_simp
          refine hK.out _ _ trivial (fun hHeld => ?_)
          (try simp only [Act.put, List.setIfInBounds_toArray, List.set_cons_zero, List.set_cons_succ])
          obtain ⟨W4, hW4⟩ : ∃ W4, W4 = W3.alloc (.cells #[.slice (some ⟨(w.heap.size + 1), 0, none⟩) n n, .slice (some ⟨(w.heap.size + 1 + 1), 0, none⟩) n n, .map (some w.heap.size), .bool true, .bool false] 67) := ⟨_, rfl⟩
          have hb4 : Below w.heap.size w W4 := by have hz3 := HZ3.out; rw [hW4]; (repeat' (first | (with_reducible exact Below.refl _ _) | (with_reducible assumption) | (with_reducible refine Below.setCell ?_ ?_ _) | (with_reducible refine Below.alloc ?_ ?_ _) | (with_reducible refine Below.drew ?_) | (with_reducible refine below_drewN ?_ _) | (with_reducible refine below_next ?_ (by with_reducible assumption)) | omega | (dsimp only; omega) | (simp only [World.size_alloc, World.size_setCell, World.size_drew, World.heap_drewN]; omega)))
          have hb34 : Below W3.heap.size W3 W4 := by rw [hW4]; (repeat' (first | (with_reducible exact Below.refl _ _) | (with_reducible assumption) | (with_reducible refine Below.setCell ?_ ?_ _) | (with_reducible refine Below.alloc ?_ ?_ _) | (with_reducible refine Below.drew ?_) | (with_reducible refine below_drewN ?_ _) | (with_reducible refine below_next ?_ (by with_reducible assumption)) | omega | (dsimp only; omega) | (simp only [World.size_alloc, World.size_setCell, World.size_drew, World.heap_drewN]; omega)))
          have hz4 : W4.heap.size = w.heap.size + 3 + 1 := by rw [hW4, World.size_alloc, HZ3.out]
          have hblk := blk_at W3 n (w.heap.size + 1) (w.heap.size + 1 + 1) w.heap.size
          rw [← hW4] at hblk ⊢
          clear hW4
          have u4 : W4.cell? ⟨rm, 0, none⟩ = some s := (hb4.cell (p := ⟨rm, 0, none⟩) hrm).trans t0
          refine wpAnyH_ready (rs := [4]) (by kernel_rfl) (by simp) ?_
          refine (AllReadyH.cons rfl (fun K hK => ?_) AllReadyH.nil)
          · skip
            go_simp
            refine hK.out _ _ trivial (fun hHeld => ?_)
            (try simp only [Act.put, List.setIfInBounds_toArray, List.set_cons_zero, List.set_cons_succ])
            refine wpAnyH_ready (rs := [12]) (by kernel_rfl) (by simp) ?_
            refine AllReadyH.cons rfl (fun K hK => ?_) AllReadyH.nil
            refine step_append_one (w := W4.drew) base rfl (.tmp 15) (.tmp 22) 27 rfl 67 ib _ 5 64 Try.underlying27 HI.out.1 HI.out.2.1 HI.out.2.2.1 HI.out.2.2.2 rfl (by decide) s R.length (R.flatMap RB.cells) rfl (row_keep HH.out.row (fun i hi => hb4.block i (HH.out.row.lt i hi).2)).drew ⟨W3.heap.size, 0, none⟩ 1 1 (newRB (w.heap.size + 1) (w.heap.size + 1 + 1) w.heap.size n).cells rfl rfl hblk (newRB_one _ _ _ _) (by unfold maxLen; omega) hlen (by show base ≤ W4.heap.size; omega) ?_
            intro v' W5 hrow hgr hnew
            have hz3 := HZ3.out
            have e7 : W4.heap[(w.heap.size + 1)]? = some (.cells ((List.replicate n (0 : Int)).map (Value.int .u8)).toArray 5 (0, 0)) := by rw [hb34.block (w.heap.size + 1) (by omega), ← made8]; exact HA.out.2.1
            have e8 : W4.heap[(w.heap.size + 1 + 1)]? = some (.cells ((List.replicate n (0 : Int)).map (Value.int .u8)).toArray 5 (0, 0)) := by rw [hb34.block (w.heap.size + 1 + 1) (by omega), ← made8]; exact HA.out.2.2.1
            have e9 : W4.heap[w.heap.size]? = some (.map #[] 0) := by rw [hb34.block w.heap.size (by omega)]; exact HA.out.1
            have hgw := Lib.hid (HH.out.grow (W4 := W4.drew) (W5 := W5) (v' := v') hcap n hn (w.heap.size + 1) (w.heap.size + 1 + 1) w.heap.size hb4.drew e7 e8 e9 ⟨by omega, by omega, by omega, by omega⟩ hrow hgr hnew)
            obtain ⟨A', c', hv'⟩ := row_form hrow
            have hcr := (hgr.block rm (by show rm < W4.heap.size; omega) HH.out.rm_ne).trans (hb4.block rm hrm)
            have u5 : W5.cell? ⟨rm, 0, none⟩ = some s := (World.cell?_of_block (a := ⟨rm, 0, none⟩) hcr).trans t0
            have v5 : W5.frozen? ⟨rm, 0, none⟩ = false := (World.frozen?_of_block (a := ⟨rm, 0, none⟩) hcr).trans f0
            have hA3 := cell_set_if
            subst hv'
            clear hz3 hrow hgr hnew e7 e8 e9 hblk hcr hms hmm hc1 hc2 hc3
            refine hK.out _ _ trivial (fun hHeld => ?_)
            (try simp only [Act.put, List.setIfInBounds_toArray, List.set_cons_zero, List.set_cons_succ])
            refine takeAt' (i := 13) (some 24) (v := ?_) rfl rfl (by kernel_rfl) (by kernel_rfl) (by kernel_rfl) (fun _ _ _ h => h) (Or.inl ⟨by rfl, ?_⟩) (by assumption) ?_
            rotate_left
            (focus (intro w hSw; (try dsimp only at hSw); go_simp; (try with_reducible rfl)))
            (try simp only [Act.put, List.setIfInBounds_toArray, List.set_cons_zero, List.set_cons_succ])
            refine takeAt' (i := 14) (some 25) (v := ?_) rfl rfl (by kernel_rfl) (by kernel_rfl) (by kernel_rfl) (fun _ _ _ h => h) (Or.inl ⟨by rfl, ?_⟩) (by assumption) ?_
            rotate_left
            (focus (intro w hSw; (try dsimp only at hSw); go_simp; (try with_reducible rfl)))
            (try simp only [Act.put, List.setIfInBounds_toArray, List.set_cons_zero, List.set_cons_succ])
            refine wpAnyH_ready (rs := [15]) (by kernel_rfl) (by simp) ?_
            refine AllReadyH.cons rfl (fun K hK => ?_) AllReadyH.nil
            go_simp
            refine hK.out _ _ trivial (fun hHeld => ?_)
            (try simp only [Act.put, List.setIfInBounds_toArray, List.set_cons_zero, List.set_cons_succ])
            refine wpAnyH_done (by kernel_rfl) ?_ _
            go_wp2
            go_returns
            exact ⟨rfl, _, (w.heap.size + 1), (w.heap.size + 1 + 1), w.heap.size, hgw.out⟩
    · skip
      go_simp
      refine hK.out _ _ trivial (fun hHeld => ?_)
      (try simp only [Act.put, List.setIfInBounds_toArray, List.set_cons_zero, List.set_cons_succ])
      refine wpAnyH_ready (rs := [4, 6]) (by kernel_rfl) (by simp) ?_
      refine (AllReadyH.cons rfl (fun K hK => ?_) (AllReadyH.cons rfl (fun K hK => ?_) AllReadyH.nil))
      · skip
        go_simp
        refine hK.out _ _ trivial (fun hHeld => ?_)
        (try simp only [Act.put, List.setIfInBounds_toArray, List.set_cons_zero, List.set_cons_succ])
        refine wpAnyH_ready (rs := [6]) (by kernel_rfl) (by simp) ?_
        refine (AllReadyH.cons rfl (fun K hK => ?_) AllReadyH.nil)
        · skip
          go_simp
          refine hK.out _ _ trivial (fun hHeld => ?_)
          (try simp only [Act.put, List.setIfInBounds_toArray, List.set_cons_zero, List.set_cons_succ])
          obtain ⟨W3, hW3⟩ : ∃ W3, W3 = ((w.alloc (.map #[] 0)).alloc (.cells (madeCells #[.int .u8 0] n) 5)).alloc (.cells (madeCells #[.int .u8 0] n) 5) := ⟨_, rfl⟩
          have hb3 : Below w.heap.size w W3 := by rw [hW3]; (repeat' (first | (with_reducible exact Below.refl _ _) | (with_reducible assumption) | (with_reducible refine Below.setCell ?_ ?_ _) | (with_reducible refine Below.alloc ?_ ?_ _) | (with_reducible refine Below.drew ?_) | (with_reducible refine below_drewN ?_ _) | (with_reducible refine below_next ?_ (by with_reducible assumption)) | omega | (dsimp only; omega) | (simp only [World.size_alloc, World.size_setCell, World.size_drew, World.heap_drewN]; omega)))
          have ha3 := alloc3 w (.map #[] 0) (.cells (madeCells #[.int .u8 0] n) 5) (.cells (madeCells #[.int .u8 0] n) 5)
          rw [← hW3] at ha3 ⊢
          have HA := Lib.hid ha3
          have HZ3 := Lib.hid ha3.2.2.2
          clear ha3 hW3
          have u3 : W3.cell? ⟨rm, 0, none⟩ = some s := (hb3.cell (p := ⟨rm, 0, none⟩) hrm).trans t0
          refine takeAt' (i := 10) (some 21) (v := ?_) rfl rfl (by kernel_rfl) (by kernel_rfl) (by kernel_rfl) (fun _ _ _ h => h) (Or.inl ⟨by rfl, ?_⟩) (by assumption) ?_
          rotate_left
          (focus (intro w hSw; (try dsimp only at hSw); go_simp; (try with_reducible rfl)))
          (try simp only [Act.put, List.setIfInBounds_toArray, List.set_cons_zero, List.set_cons_succ])
          refine wpAnyH_ready (rs := [11]) (by kernel_rfl) (by simp) ?_
          refine (AllReadyH.cons rfl (fun K hK => ?_) AllReadyH.nil)
          · skip
            go_simp
            refine hK.out _ _ trivial (fun hHeld => ?_)
            (try simp only [Act.put, List.setIfInBounds_toArray, List.set_cons_zero, List.set_cons_succ])
            obtain ⟨W4, hW4⟩ : ∃ W4, W4 = W3.alloc (.cells #[.slice (some ⟨(w.heap.size + 1 + 1), 0, none⟩) n n, .slice (some ⟨(w.heap.size + 1), 0, none⟩) n n, .map (some w.heap.size), .bool true, .bool false] 67) := ⟨_, rfl⟩
            have hb4 : Below w.heap.size w W4 := by have hz3 := HZ3.out; rw [hW4]; (repeat' (first | (with_reducible exact Below.refl _ _) | (with_reducible assumption) | (with_reducible refine Below.setCell ?_ ?_ _) | (with_reducible refine Below.alloc ?_ ?_ _) | (with_reducible refine Below.drew ?_) | (with_reducible refine below_drewN ?_ _) | (with_reducible refine below_next ?_ (by with_reducible assumption)) | omega | (dsimp only; omega) | (simp only [World.size_alloc, World.size_setCell, World.size_drew, World.heap_drewN]; omega)))
            have hb34 : Below W3.heap.size W3 W4 := by rw [hW4]; (repeat' (first | (with_reducible exact Below.refl _ _) | (with_reducible assumption) | (with_reducible refine Below.setCell ?_ ?_ _) | (with_reducible refine Below.alloc ?_ ?_ _) | (with_reducible refine Below.drew ?_) | (with_reducible refine below_drewN ?_ _) | (with_reducible refine below_next ?_ (by with_reducible assumption)) | omega | (dsimp only; omega) | (simp only [World.size_alloc, World.size_setCell, World.size_drew, World.heap_drewN]; omega)))
            have hz4 : W4.heap.size = w.heap.size + 3 + 1 := by rw [hW4, World.size_alloc, HZ3.out]
            have hblk := blk_at W3 n (w.heap.size + 1 + 1) (w.heap.size + 1) w.heap.size
            rw [← hW4] at hblk ⊢
            clear hW4
            have u4 : W4.cell? ⟨rm, 0, none⟩ = some s := (hb4.cell (p := ⟨rm, 0, none⟩) hrm).trans t0
            refine wpAnyH_ready (rs := [12]) (by kernel_rfl) (by simp) ?_
            refine AllReadyH.cons rfl (fun K hK => ?_) AllReadyH.nil
            refine step_append_one (w := W4.drew) base rfl (.tmp 15) (.tmp 22) 27 rfl 67 ib _ 5 64 Try.underlying27 HI.out.1 HI.out.2.1 HI.out.2.2.1 HI.out.2.2.2 rfl (by decide) s R.length (R.flatMap RB.cells) rfl (row_keep HH.out.row (fun i hi => hb4.block i (HH.out.row.lt i hi).2)).drew ⟨W3.heap.size, 0, none⟩ 1 1 (newRB (w.heap.size + 1 + 1) (w.heap.size + 1) w.heap.size n).cells rfl rfl hblk (newRB_one _ _ _ _) (by unfold maxLen; omega) hlen (by show base ≤ W4.heap.size; omega) ?_
            intro v' W5 hrow hgr hnew
            have hz3 := HZ3.out
            have e7 : W4.heap[(w.heap.size + 1 + 1)]? = some (.cells ((List.replicate n (0 : Int)).map (Value.int .u8)).toArray 5 (0, 0)) := by rw [hb34.block (w.heap.size + 1 + 1) (by omega), ← made8]; exact HA.out.2.2.1
            have e8 : W4.heap[(w.heap.size + 1)]? = some (.cells ((List.replicate n (0 : Int)).map (Value.int .u8)).toArray 5 (0, 0)) := by rw [hb34.block (w.heap.size + 1) (by omega), ← made8]; exact HA.out.2.1
            have e9 : W4.heap[w.heap.size]? = some (.map #[] 0) := by rw [hb34.block w.heap.size (by omega)]; exact HA.out.1
            have hgw := Lib.hid (HH.out.grow (W4 := W4.drew) (W5 := W5) (v' := v') hcap n hn (w.heap.size + 1 + 1) (w.heap.size + 1) w.heap.size hb4.drew e7 e8 e9 ⟨by omega, by omega, by omega, by omega⟩ hrow hgr hnew)
            obtain ⟨A', c', hv'⟩ := row_form hrow
            have hcr := (hgr.block rm (by show rm < W4.heap.size; omega) HH.out.rm_ne).trans (hb4.block rm hrm)
            have u5 : W5.cell? ⟨rm, 0, none⟩ = some s := (World.cell?_of_block (a := ⟨rm, 0, none⟩) hcr).trans t0
            have v5 : W5.frozen? ⟨rm, 0, none⟩ = false := (World.frozen?_of_block (a := ⟨rm, 0, none⟩) hcr).trans f0
            have hA3 := cell_set_if
            subst hv'
            clear hz3 hrow hgr hnew e7 e8 e9 hblk hcr hms hmm hc1 hc2 hc3
            refine hK.out _ _ trivial (fun hHeld => ?_)
            (try simp only [Act.put, List.setIfInBounds_toArray, List.set_cons_zero, List.set_cons_succ])
            refine takeAt' (i := 13) (some 24) (v := ?_) rfl rfl (by kernel_rfl) (by kernel_rfl) (by kernel_rfl) (fun _ _ _ h => h) (Or.inl ⟨by rfl, ?_⟩) (by assumption) ?_
            rotate_left
            (focus (intro w hSw; (try dsimp only at hSw); go_simp; (try with_reducible rfl)))
            (try simp only [Act.put, List.setIfInBounds_toArray, List.set_cons_zero, List.set_cons_succ])
            refine takeAt' (i := 14) (some 25) (v := ?_) rfl rfl (by kernel_rfl) (by kernel_rfl) (by kernel_rfl) (fun _ _ _ h => h) (Or.inl ⟨by rfl, ?_⟩) (by assumption) ?_
            rotate_left
            (focus (intro w hSw; (try dsimp only at hSw); go_simp; (try with_reducible rfl)))
            (try simp only [Act.put, List.setIfInBounds_toArray, List.set_cons_zero, List.set_cons_succ])
            refine wpAnyH_ready (rs := [15]) (by kernel_rfl) (by simp) ?_
            refine AllReadyH.cons rfl (fun K hK => ?_) AllReadyH.nil
            go_simp
            refine hK.out _ _ trivial (fun hHeld => ?_)
            (try simp only [Act.put, List.setIfInBounds_toArray, List.set_cons_zero, List.set_cons_succ])
            refine wpAnyH_done (by kernel_rfl) ?_ _
            go_wp2
            go_returns
            exact ⟨rfl, _, (w.heap.size + 1 + 1), (w.heap.size + 1), w.heap.size, hgw.out⟩
      · skip
        go_simp
        refine hK.out _ _ trivial (fun hHeld => ?_)
        (try simp only [Act.put, List.setIfInBounds_toArray, List.set_cons_zero, List.set_cons_succ])
        obtain ⟨W3, hW3⟩ : ∃ W3, W3 = ((w.alloc (.map #[] 0)).alloc (.cells (madeCells #[.int .u8 0] n) 5)).alloc (.cells (madeCells #[.int .u8 0] n) 5) := ⟨_, rfl⟩
        have hb3 : Below w.heap.size w W3 := by rw [hW3]; (repeat' (first | (with_reducible exact Below.refl _ _) | (with_reducible assumption) | (with_reducible refine Below.setCell ?_ ?_ _) | (with_reducible refine Below.alloc ?_ ?_ _) | (with_reducible refine Below.drew ?_) | (with_reducible refine below_drewN ?_ _) | (with_reducible refine below_next ?_ (by with_reducible assumption)) | omega | (dsimp only; omega) | (simp only [World.size_alloc, World.size_setCell, World.size_drew, World.heap_drewN]; omega)))
        have ha3 := alloc3 w (.map #[] 0) (.cells (madeCells #[.int .u8 0] n) 5) (.cells (madeCells #[.int .u8 0] n) 5)
        rw [← hW3] at ha3 ⊢
        have HA := Lib.hid ha3
        have HZ3 := Lib.hid ha3.2.2.2
        clear ha3 hW3
        have u3 : W3.cell? ⟨rm, 0, none⟩ = some s := (hb3.cell (p := ⟨rm, 0, none⟩) hrm).trans t0
        refine takeAt' (i := 10) (some 21) (v := ?_) rfl rfl (by kernel_rfl) (by kernel_rfl) (by kernel_rfl) (fun _ _ _ h => h) (Or.inl ⟨by rfl, ?_⟩) (by assumption) ?_
        rotate_left
        (focus (intro w hSw; (try dsimp only at hSw); go_simp; (try with_reducible rfl)))
        (try simp only [Act.put, List.setIfInBounds_toArray, List.set_cons_zero, List.set_cons_succ])
        refine wpAnyH_ready (rs := [4, 11]) (by kernel_rfl) (by simp) ?_
        refine (AllReadyH.cons rfl (fun K hK => ?_) (AllReadyH.cons rfl (fun K hK => ?_) AllReadyH.nil))
        · skip
          go_simp
          refine hK.out _ _ trivial (fun hHeld => ?_)
          (try simp only [Act.put, List.setIfInBounds_toArray, List.set_cons_zero, List.set_cons_succ])
          refine wpAnyH_ready (rs := [11]) (by kernel_rfl) (by simp) ?_
          refine (AllReadyH.cons rfl (fun K hK => ?_) AllReadyH.nil)
          · skip
            go_simp
            refine hK.out _ _ trivial (fun hHeld => ?_)
            (try simp only [Act.put, List.setIfInBounds_toArray, List.set_cons_zero, List.set_cons_succ])
            obtain ⟨W4, hW4⟩ : ∃ W4, W4 = W3.alloc (.cells #[.slice (some ⟨(w.heap.size + 1 + 1), 0, none⟩) n n, .slice (some ⟨(w.heap.size + 1), 0, none⟩) n n, .map (some w.heap.size), .bool true, .bool false] 67) := ⟨_, rfl⟩
            have hb4 : Below w.heap.size w W4 := by have hz3 := HZ3.out; rw [hW4]; (repeat' (first | (with_reducible exact Below.refl _ _) | (with_reducible assumption) | (with_reducible refine Below.setCell ?_ ?_ _) | (with_reducible refine Below.alloc ?_ ?_ _) | (with_reducible refine Below.drew ?_) | (with_reducible refine below_drewN ?_ _) | (with_reducible refine below_next ?_ (by with_reducible assumption)) | omega | (dsimp only; omega) | (simp only [World.size_alloc, World.size_setCell, World.size_drew, World.heap_drewN]; omega)))
            have hb34 : Below W3.heap.size W3 W4 := by rw [hW4]; (repeat' (first | (with_reducible exact Below.refl _ _) | (with_reducible assumption) | (with_reducible refine Below.setCell ?_ ?_ _) | (with_reducible refine Below.alloc ?_ ?_ _) | (with_reducible refine Below.drew ?_) | (with_reducible refine below_drewN ?_ _) | (with_reducible refine below_next ?_ (by with_reducible assumption)) | omega | (dsimp only; omega) | (simp only [World.size_alloc, World.size_setCell, World.size_drew, World.heap_drewN]; omega)))
            have hz4 : W4.heap.size = w.heap.size + 3 + 1 := by rw [hW4, World.size_alloc, HZ3.out]
            have hblk := blk_at W3 n (w.heap.size + 1 + 1) (w.heap.size + 1) w.heap.size
            rw [← hW4] at hblk ⊢
            clear hW4
            have u4 : W4.cell? ⟨rm, 0, none⟩ = some s := (hb4.cell (p := ⟨rm, 0, none⟩) hrm).trans t0
            refine wpAnyH_ready (rs := [12]) (by kernel_rfl) (by simp) ?_
            refine AllReadyH.cons rfl (fun K hK => ?_) AllReadyH.nil
            refine step_append_one (w := W4.drew) base rfl (.tmp 15) (.tmp 22) 27 rfl 67 ib _ 5 64 Try.underlying27 HI.out.1 HI.out.2.1 HI.out.2.2.1 HI.out.2.2.2 rfl (by decide) s R.length (R.flatMap RB.cells) rfl (row_keep HH.out.row (fun i hi => hb4.block i (HH.out.row.lt i hi).2)).drew ⟨W3.heap.size, 0, none⟩ 1 1 (newRB (w.heap.size + 1 + 1) (w.heap.size + 1) w.heap.size n).cells rfl rfl hblk (newRB_one _ _ _ _) (by unfold maxLen; omega) hlen (by show base ≤ W4.heap.size; omega) ?_
            intro v' W5 hrow hgr hnew
            have hz3 := HZ3.out
            have e7 : W4.heap[(w.heap.size + 1 + 1)]? = some (.cells ((List.replicate n (0 : Int)).map (Value.int .u8)).toArray 5 (0, 0)) := by rw [hb34.block (w.heap.size + 1 + 1) (by omega), ← made8]; exact HA.out.2.2.1
            have e8 : W4.heap[(w.heap.size + 1)]? = some (.cells ((List.replicate n (0 : Int)).map (Value.int .u8)).toArray 5 (0, 0)) := by rw [hb34.block (w.heap.size + 1) (by omega), ← made8]; exact HA.out.2.1
            have e9 : W4.heap[w.heap.size]? = some (.map #[] 0) := by rw [hb34.block w.heap.size (by omega)]; exact HA.out.1
            have hgw := Lib.hid (HH.out.grow (W4 := W4.drew) (W5 := W5) (v' := v') hcap n hn (w.heap.size + 1 + 1) (w.heap.size + 1) w.heap.size hb4.drew e7 e8 e9 ⟨by omega, by omega, by omega, by omega⟩ hrow hgr hnew)
            obtain ⟨A', c', hv'⟩ := row_form hrow
            have hcr := (hgr.block rm (by show rm < W4.heap.size; omega) HH.out.rm_ne).trans (hb4.block rm hrm)
            have u5 : W5.cell? ⟨rm, 0, none⟩ = some s := (World.cell?_of_block (a := ⟨rm, 0, none⟩) hcr).trans t0
            have v5 : W5.frozen? ⟨rm, 0, none⟩ = false := (World.frozen?_of_block (a := ⟨rm, 0, none⟩) hcr).trans f0
            have hA3 := cell_set_if
            subst hv'
            clear hz3 hrow hgr hnew e7 e8 e9 hblk hcr hms hmm hc1 hc2 hc3
            refine hK.out _ _ trivial (fun hHeld => ?_)
            (try simp only [Act.put, List.setIfInBounds_toArray, List.set_cons_zero, List.set_cons_succ])
            refine takeAt' (i := 13) (some 24) (v := ?_) rfl rfl (by kernel_rfl) (by kernel_rfl) (by kernel_rfl) (fun _ _ _ h => h) (Or.inl ⟨by rfl, ?_⟩) (by assumption) ?_
            rotate_left
            (focus (intro w hSw; (try dsimp only at hSw); go_simp; (try with_reducible rfl)))
            (try simp only [Act.put, List.setIfInBounds_toArray, List.set_cons_zero, List.set_cons_succ])
            refine takeAt' (i := 14) (some 25) (v := ?_) rfl rfl (by kernel_rfl) (by kernel_rfl) (by kernel_rfl) (fun _ _ _ h => h) (Or.inl ⟨by rfl, ?_⟩) (by assumption) ?_
            rotate_left
            (focus (intro w hSw; (try dsimp only at hSw); go_simp; (try with_reducible rfl)))
            (try simp only [Act.put, List.setIfInBounds_toArray, List.set_cons_zero, List.set_cons_succ])
            refine wpAnyH_ready (rs := [15]) (by kernel_rfl) (by simp) ?_
            refine AllReadyH.cons rfl (fun K hK => ?_) AllReadyH.nil
            go_simp
            refine hK.out _ _ trivial (fun hHeld => ?_)
            (try simp only [Act.put, List.setIfInBounds_toArray, List.set_cons_zero, List.set_cons_succ])
            refine wpAnyH_done (by kernel_rfl) ?_ _
            go_wp2
            go_returns
            exact ⟨rfl, _, (w.heap.size + 1 + 1), (w.heap.size + 1), w.heap.size, hgw.out⟩
        · skip
          go_simp
          refine hK.out _ _ trivial (fun hHeld => ?_)
          (try simp only [Act.put, List.setIfInBounds_toArray, List.set_cons_zero, List.set_cons_succ])
          obtain ⟨W4, hW4⟩ : ∃ W4, W4 = W3.alloc (.cells #[.slice (some ⟨(w.heap.size + 1 + 1), 0, none⟩) n n, .slice (some ⟨(w.heap.size + 1), 0, none⟩) n n, .map (some w.heap.size), .bool true, .bool false] 67) := ⟨_, rfl⟩
          have hb4 : Below w.heap.size w W4 := by have hz3 := HZ3.out; rw [hW4]; (repeat' (first | (with_reducible exact Below.refl _ _) | (with_reducible assumption) | (with_reducible refine Below.setCell ?_ ?_ _) | (with_reducible refine Below.alloc ?_ ?_ _) | (with_reducible refine Below.drew ?_) | (with_reducible refine below_drewN ?_ _) | (with_reducible refine below_next ?_ (by with_reducible assumption)) | omega | (dsimp only; omega) | (simp only [World.size_alloc, World.size_setCell, World.size_drew, World.heap_drewN]; omega)))
          have hb34 : Below W3.heap.size W3 W4 := by rw [hW4]; (repeat' (first | (with_reducible exact Below.refl _ _) | (with_reducible assumption) | (with_reducible refine Below.setCell ?_ ?_ _) | (with_reducible refine Below.alloc ?_ ?_ _) | (with_reducible refine Below.drew ?_) | (with_reducible refine below_drewN ?_ _) | (with_reducible refine below_next ?_ (by with_reducible assumption)) | omega | (dsimp only; omega) | (simp only [World.size_alloc, World.size_setCell, World.size_drew, World.heap_drewN]; omega)))
          have hz4 : W4.heap.size = w.heap.size + 3 + 1 := by rw [hW4, World.size_alloc, HZ3.out]
          have hblk := blk_at W3 n (w.heap.size + 1 + 1) (w.heap.size + 1) w.heap.size
          rw [← hW4] at hblk ⊢
          clear hW4
          have u4 : W4.cell? ⟨rm, 0, none⟩ = some s := (hb4.cell (p := ⟨rm, 0, none⟩) hrm).trans t0
          refine wpAnyH_ready (rs := [4]) (by kernel_rfl) (by simp) ?_
          refine (AllReadyH.cons rfl (fun K hK => ?_) AllReadyH.nil)
          · skip
            go_simp
            refine hK.out _ _ trivial (fun hHeld => ?_)
            (try simp only [Act.put, List.setIfInBounds_toArray, List.set_cons_zero, List.set_cons_succ])
            refine wpAnyH_ready (rs := [12]) (by kernel_rfl) (by simp) ?_
            refine AllReadyH.cons rfl (fun K hK => ?_) AllReadyH.nil
            refine step_append_one (w := W4.drew) base rfl (.tmp 15) (.tmp 22) 27 rfl 67 ib _ 5 64 Try.underlying27 HI.out.1 HI.out.2.1 HI.out.2.2.1 HI.out.2.2.2 rfl (by decide) s R.length (R.flatMap RB.cells) rfl (row_keep HH.out.row (fun i hi => hb4.block i (HH.out.row.lt i hi).2)).drew ⟨W3.heap.size, 0, none⟩ 1 1 (newRB (w.heap.size + 1 + 1) (w.heap.size + 1) w.heap.size n).cells rfl rfl hblk (newRB_one _ _ _ _) (by unfold maxLen; omega) hlen (by show base ≤ W4.heap.size; omega) ?_
            intro v' W5 hrow hgr hnew
            have hz3 := HZ3.out
            have e7 : W4.heap[(w.heap.size + 1 + 1)]? = some (.cells ((List.replicate n (0 : Int)).map (Value.int .u8)).toArray 5 (0, 0)) := by rw [hb34.block (w.heap.size + 1 + 1) (by omega), ← made8]; exact HA.out.2.2.1
            have e8 : W4.heap[(w.heap.size + 1)]? = some (.cells ((List.replicate n (0 : Int)).map (Value.int .u8)).toArray 5 (0, 0)) := by rw [hb34.block (w.heap.size + 1) (by omega), ← made8]; exact HA.out.2.1
            have e9 : W4.heap[w.heap.size]? = some (.map #[] 0) := by rw [hb34.block w.heap.size (by omega)]; exact HA.out.1
            have hgw := Lib.hid (HH.out.grow (W4 := W4.drew) (W5 := W5) (v' := v') hcap n hn (w.heap.size + 1 + 1) (w.heap.size + 1) w.heap.size hb4.drew e7 e8 e9 ⟨by omega, by omega, by omega, by omega⟩ hrow hgr hnew)
            obtain ⟨A', c', hv'⟩ := row_form hrow
            have hcr := (hgr.block rm (by show rm < W4.heap.size; omega) HH.out.rm_ne).trans (hb4.block rm hrm)
            have u5 : W5.cell? ⟨rm, 0, none⟩ = some s := (World.cell?_of_block (a := ⟨rm, 0, none⟩) hcr).trans t0
            have v5 : W5.frozen? ⟨rm, 0, none⟩ = false := (World.frozen?_of_block (a := ⟨rm, 0, none⟩) hcr).trans f0
            have hA3 := cell_set_if
            subst hv'
            clear hz3 hrow hgr hnew e7 e8 e9 hblk hcr hms hmm hc1 hc2 hc3
            refine hK.out _ _ trivial (fun hHeld => ?_)
            (try simp only [Act.put, List.setIfInBounds_toArray, List.set_cons_zero, List.set_cons_succ])
            refine takeAt' (i := 13) (some 24) (v := ?_) rfl rfl (by kernel_rfl) (by kernel_rfl) (by kernel_rfl) (fun _ _ _ h => h) (Or.inl ⟨by rfl, ?_⟩) (by assumption) ?_
            rotate_left
            (focus (intro w hSw; (try dsimp only at hSw); go_simp; (try with_reducible rfl)))
            (try simp only [Act.put, List.setIfInBounds_toArray, List.set_cons_zero, List.set_cons_succ])
            refine takeAt' (i := 14) (some 25) (v := ?_) rfl rfl (by kernel_rfl) (by kernel_rfl) (by kernel_rfl) (fun _ _ _ h => h) (Or.inl ⟨by rfl, ?_⟩) (by assumption) ?_
            rotate_left
            (focus (intro w hSw; (try dsimp only at hSw); go_simp; (try with_reducible rfl)))
            (try simp only [Act.put, List.setIfInBounds_toArray, List.set_cons_zero, List.set_cons_succ])
            refine wpAnyH_ready (rs := [15]) (by kernel_rfl) (by simp) ?_
            refine AllReadyH.cons rfl (fun K hK => ?_) AllReadyH.nil
            go_simp
            refine hK.out _ _ trivial (fun hHeld => ?_)
            (try simp only [Act.put, List.setIfInBounds_toArray, List.set_cons_zero, List.set_cons_succ])
            refine wpAnyH_done (by kernel_rfl) ?_ _
            go_wp2
            go_returns
            exact ⟨rfl, _, (w.heap.size + 1 + 1), (w.heap.size + 1), w.heap.size, hgw.out⟩

end Go.Proofs.Ytddipbpllogbaaa
