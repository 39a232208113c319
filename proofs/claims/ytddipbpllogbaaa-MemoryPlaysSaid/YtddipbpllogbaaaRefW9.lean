/-
  The reference's memory: a block's cell, set.
-/
import Derived.Test.YtddipbpllogbaaaRefW8
import Derived.Deep.DeepCutAuto
namespace Go.Proofs.Ytddipbpllogbaaa
open Go.RowKit
set_option linter.unusedVariables false
set_option linter.unusedSimpArgs false

/-- The block behind a set. -/
def rput (B : RB) (off : Nat) (c : PC) : RB :=
  { B with kinds := B.kinds.set off c.k, bytes := B.bytes.set off c.b, np := B.np + 1
           pcs := if c.k = 2 then setK B.pcs off (some c) else if B.kinds.getD off 0 = 2 then setK B.pcs off none else B.pcs }
/-- What a set leaves. -/
structure RPut (w w' : World) (base : Nat) (B B' : RB) : Prop where
  at_ : RBAt w' B'
  low : Below base w w'
  rest : ∀ i, i < w.heap.size → i ≠ B.g → i ≠ B.b → i ≠ B.p → w'.heap[i]? = w.heap[i]?
theorem map_set8 (l : List Int) (i : Nat) (x : Int) : ((l.map (Value.int .u8)).toArray).setIfInBounds i (.int .u8 x) = ((l.set i x).map (Value.int .u8)).toArray := by
  simp [List.map_set]
theorem setK_setK {α : Type} (f : Int → Option α) (j : Int) (x y : Option α) : setK (setK f j x) j y = setK f j y := by
  funext i; unfold setK; split <;> rfl

/-- Ahead of the stores: the block's value and the cell lie in boxes of their own. -/
structure SetW (w W : World) (base : Nat) (B : RB) (pc : Int → Option PC) (c : PC) : Prop where
  bx : W.heap[w.heap.size]? = some (.cells #[.slice (some ⟨B.g, 0, none⟩) B.kinds.length B.kinds.length, .slice (some ⟨B.b, 0, none⟩) B.kinds.length B.kinds.length, .map (some B.p), .bool true, .bool B.fixed] 67 (0, 0))
  cx : W.heap[w.heap.size + 1]? = some (.cells #[.int .i64 c.k, .int .u8 c.b, .int .i64 c.p.k, .int .u64 c.p.b, .int .i64 c.p.l, .int .i64 c.i] 78 (0, 0))
  mp : MapF Try.prog 3 pR pD W B.p B.np pc
  low : Below base w W
  rest : ∀ i, i < w.heap.size → i ≠ B.p → W.heap[i]? = w.heap[i]?
  size : w.heap.size + 2 ≤ W.heap.size
theorem SetW.put {w W w5 : World} {base : Nat} {B : RB} {pc pc' : Int → Option PC} {c : PC} (h : SetW w W base B pc c) (hB : RBAt w B) (off : Nat) (hb : base ≤ B.g ∧ base ≤ B.b ∧ base ≤ B.p ∧ B.g ≠ B.b)
    (hne : ∀ i, i < W.heap.size → i ≠ B.p → w5.heap[i]? = (((W.setCell ⟨B.g, off, none⟩ (.int .u8 c.k)).setCell ⟨B.b, off, none⟩ (.int .u8 c.b)).drew).heap[i]?) (hl5 : Below base W w5)
    (hm : MapF Try.prog 3 pR pD w5 B.p (B.np + 1) pc') (n' : B.np + 1 < 9223372036854775807) :
    RPut w w5 base B { B with kinds := B.kinds.set off c.k, bytes := B.bytes.set off c.b, np := B.np + 1, pcs := pc' } := by
  have hlt := hB.lt
  obtain ⟨es, cl, ho⟩ := hB.pcs.obj
  have hgp : B.g ≠ B.p := (map_ne ho hB.kinds).symm
  have hbp : B.b ≠ B.p := (map_ne ho hB.bytes).symm
  have hsz := h.size
  refine ⟨⟨?_, ?_, hm⟩, h.low.trans hl5, fun i hi h1 h2 h3 => ?_⟩
  · rw [hne _ (by omega) hgp]
    refine (heap_set_ne _ _ _ hb.2.2.2).trans ?_
    rw [heap_set_at ((h.rest _ hlt.1 hgp).trans hB.kinds), map_set8]
  · rw [hne _ (by omega) hbp]
    refine (heap_set_at (((heap_set_ne _ _ _ hb.2.2.2.symm).trans (h.rest _ hlt.2.1 hbp)).trans hB.bytes) _ _).trans ?_
    rw [map_set8]
  · rw [hne i (by omega) h3]
    exact (heap_set_ne _ _ _ h2).trans ((heap_set_ne _ _ _ h1).trans (h.rest i hi h3))

theorem SetW.made {w : World} {base : Nat} {B : RB} (h : RBAt w B) (c : PC) (hb : base ≤ w.heap.size) :
    SetW w ((w.alloc (.cells #[.slice (some ⟨B.g, 0, none⟩) B.kinds.length B.kinds.length, .slice (some ⟨B.b, 0, none⟩) B.kinds.length B.kinds.length, .map (some B.p), .bool true, .bool B.fixed] 67)).alloc (.cells #[.int .i64 c.k, .int .u8 c.b, .int .i64 c.p.k, .int .u64 c.p.b, .int .i64 c.p.l, .int .i64 c.i] 78)) base B B.pcs c where
  bx := by rw [Below.heap_alloc _ _ _ (by simp)]; exact heap_alloc_new _ _
  cx := by
    have h1 := fun o1 o2 => heap_alloc_new (w.alloc o1) o2
    simp only [World.size_alloc] at h1
    exact h1 _ _
  mp := (h.next (by (repeat' (first | (with_reducible exact Below.refl _ _) | (with_reducible assumption) | (with_reducible refine Below.setCell ?_ ?_ _) | (with_reducible refine Below.alloc ?_ ?_ _) | (with_reducible refine Below.drew ?_) | (with_reducible refine below_drewN ?_ _) | (with_reducible refine below_next ?_ (by with_reducible assumption)) | omega | (dsimp only; omega) | (simp only [World.size_alloc, World.size_setCell, World.size_drew, World.heap_drewN]; omega))))).pcs
  low := by (repeat' (first | (with_reducible exact Below.refl _ _) | (with_reducible assumption) | (with_reducible refine Below.setCell ?_ ?_ _) | (with_reducible refine Below.alloc ?_ ?_ _) | (with_reducible refine Below.drew ?_) | (with_reducible refine below_drewN ?_ _) | (with_reducible refine below_next ?_ (by with_reducible assumption)) | omega | (dsimp only; omega) | (simp only [World.size_alloc, World.size_setCell, World.size_drew, World.heap_drewN]; omega)))
  rest i hi _ := by rw [Below.heap_alloc _ _ _ (by simp; omega), Below.heap_alloc _ _ _ hi]
  size := by simp
theorem SetW.grown {w W w1 : World} {base : Nat} {B : RB} {pc pc' : Int → Option PC} {c : PC} (h : SetW w W base B pc c) (hp : B.p < w.heap.size) (hbp : base ≤ B.p) (hbw : base ≤ w.heap.size) (hm : MapF Try.prog 3 pR pD w1 B.p B.np pc') (hg : W.grownBy w1 (some B.p)) : SetW w w1 base B pc' c := by
  have hsz := h.size
  refine ⟨(hg.block _ (by omega) (by simp; omega)).trans h.bx, (hg.block _ (by omega) (by simp; omega)).trans h.cx, hm, h.low.grown hg (by omega) (fun k hk => by injection hk with hk; omega), fun i hi hne => (hg.block i (by omega) (by simpa using hne)).trans (h.rest i hi hne), by have := hg.size; omega⟩

set_option maxRecDepth 100000 in
set_option maxHeartbeats 4000000 in
theorem set_any {w : World} {base : Nat} (B : RB) (h : RBAt w B) (off : Nat) (c : PC) (ho : off < B.kinds.length) (hl : B.bytes.length = B.kinds.length) (hm : B.kinds.length ≤ 16777216) (hk : ∀ x ∈ B.kinds, 0 ≤ x ∧ x < 3) (hc : 0 ≤ c.k ∧ c.k < 3) (hn : B.np + 1 < 9223372036854775807)
    (hb : base ≤ B.g ∧ base ≤ B.b ∧ base ≤ B.p ∧ B.g ≠ B.b) (hbw : base ≤ w.heap.size) :
    Calls Try.prog 41 #[.agg #[.slice (some ⟨B.g, 0, none⟩) B.kinds.length B.kinds.length, .slice (some ⟨B.b, 0, none⟩) B.kinds.length B.kinds.length, .map (some B.p), .bool true, .bool B.fixed], .int .i64 off, .agg #[.int .i64 c.k, .int .u8 c.b, .int .i64 c.p.k, .int .u64 c.p.b, .int .i64 c.p.l, .int .i64 c.i]] w fun e w' =>
      e = .returned (.tuple #[]) ∧ RPut w w' base B (rput B off c) := by
  have r1 := row8 h.kinds off ho
  have r2 := row8 h.bytes off (by omega)
  have f1 := fun o => Lib.frozen_of_heap h.kinds o
  have f2 := fun o => Lib.frozen_of_heap h.bytes o
  have hlt := h.lt
  have hkk := hk (B.kinds.getD off 0) (by rw [List.getD_eq_getElem?_getD, List.getElem?_eq_getElem ho]; exact List.getElem_mem ho)
  have HH := Lib.hid h
  have hmw : IntKind.u8.wrap c.k = c.k := by rw [IntKind.wrap_u8]; omega
  have HP := Lib.hid (fun W (hb : Below w.heap.size w W) => (h.next hb).pcs)
  obtain ⟨kd, hkd⟩ : ∃ kd, B.kinds.getD off 0 = kd := ⟨_, rfl⟩
  rw [hkd] at r1 hkk
  have HKD := Lib.hid hkd
  obtain ⟨pc, hpc⟩ : ∃ pc, (if kd = 2 then setK B.pcs off none else B.pcs) = pc := ⟨_, rfl⟩
  have HPC := Lib.hid hpc
  clear h hk hkd hpc
  obtain ⟨ck, cb, ⟨pk, pb, pl⟩, ci⟩ := c
  dsimp only at hc hmw ⊢
  have hA1 := cell_alloc_if
  have hA2 := frozen_alloc_if
  have hA3 := cell_set_if
  go_enter Try.func41, Try.ntmps41
  go_upto_if 11 with (fail)
  go_cut [] (fun wx => Hid (SetW w wx base B pc ⟨ck, cb, ⟨pk, pb, pl⟩, ci⟩))
  case first =>
    by_cases c1 : kd = 2
    · subst c1
      go_wp2_with (at_delete; refine wpList_del rfl (.tmp 13) (.tmp 14) 65 rfl 78 Try.underlying3 Try.underlying65 (HP.out _ (by (repeat' (first | (with_reducible exact Below.refl _ _) | (with_reducible assumption) | (with_reducible refine Below.setCell ?_ ?_ _) | (with_reducible refine Below.alloc ?_ ?_ _) | (with_reducible refine Below.drew ?_) | (with_reducible refine below_drewN ?_ _) | (with_reducible refine below_next ?_ (by with_reducible assumption)) | omega | (dsimp only; omega) | (simp only [World.size_alloc, World.size_setCell, World.size_drew, World.heap_drewN]; omega))))) off (i64wf (by unfold I64; omega)) rfl rfl ?_; intro w1 hf1 hg1)
      go_meet
      have hpc := HPC.out
      simp only [if_true] at hpc
      rw [← hpc]
      exact Lib.hid ((SetW.made HH.out ⟨ck, cb, ⟨pk, pb, pl⟩, ci⟩ hbw).grown hlt.2.2 hb.2.2.1 hbw hf1 hg1)
    · have d1 : (kd == 2) = false := by simpa using c1
      go_wp2
      go_meet
      have hpc := HPC.out
      rw [if_neg c1] at hpc
      rw [← hpc]
      exact Lib.hid (SetW.made HH.out ⟨ck, cb, ⟨pk, pb, pl⟩, ci⟩ hbw)
  case rest =>
    have HX := hcut
    have hbx := cells_of_block hcut.out.bx
    have hcx := cells_of_block hcut.out.cx
    have b0 := hbx.1 0
    have b1 := hbx.1 1
    have b2 := hbx.1 2
    have x0 := hcx.1 0
    have x1 := hcx.1 1
    have x2 := hcx.1 2
    have x3 := hcx.1 3
    have x4 := hcx.1 4
    have x5 := hcx.1 5
    simp at b0 b1 b2 x0 x1 x2 x3 x4 x5
    have hR : RBAt w B := HH.out
    obtain ⟨es, cl, ho'⟩ := hR.pcs.obj
    have hgp : B.g ≠ B.p := (map_ne ho' hR.kinds).symm
    have hbp : B.b ≠ B.p := (map_ne ho' hR.bytes).symm
    have k1 : wc.cell? ⟨B.g, off, none⟩ = some (.int .u8 kd) := by rw [Lib.cell_of_heap ((hcut.out.rest _ hlt.1 hgp).trans hR.kinds), ← Lib.cell_of_heap hR.kinds]; exact r1
    have k2 : wc.cell? ⟨B.b, off, none⟩ = some (.int .u8 (B.bytes.getD off 0)) := by rw [Lib.cell_of_heap ((hcut.out.rest _ hlt.2.1 hbp).trans hR.bytes), ← Lib.cell_of_heap hR.bytes]; exact r2
    have k3 := fun o => Lib.frozen_of_heap ((hcut.out.rest _ hlt.1 hgp).trans hR.kinds) o
    have k4 := fun o => Lib.frozen_of_heap ((hcut.out.rest _ hlt.2.1 hbp).trans hR.bytes) o
    have hne : ∀ o, B.b ≠ w.heap.size + o ∧ B.g ≠ w.heap.size + o := fun o => by omega
    have hsz := hcut.out.size
    have n1 : (w.heap.size = B.g) = False := by simp; omega
    have n2 : (w.heap.size = B.b) = False := by simp; omega
    have n3 : (w.heap.size + 1 = B.g) = False := by simp; omega
    have n4 : (w.heap.size + 1 = B.b) = False := by simp; omega
    clear hbx hcx hcut r1 r2 f1 f2 hR es cl ho'
    have HPM := Lib.hid (fun v1 v2 => HX.out.mp.block (w' := ((wc.setCell ⟨B.g, off, none⟩ v1).setCell ⟨B.b, off, none⟩ v2).drew) ((heap_set_ne _ _ _ hbp.symm).trans (heap_set_ne _ _ _ hgp.symm)))
    by_cases c2 : ck = 2
    · subst c2
      go_wp2
      go_region
      go_wp2_with (at_mapUpdate; refine wpList_put rfl (.tmp 32) (.tmp 33) (.tmp 34) 65 rfl 78 pE Try.underlying3 Try.underlying65 (HPM.out _ _) (by unfold maxLen; omega) off (i64wf (by unfold I64; omega)) ⟨2, cb, ⟨pk, pb, pl⟩, ci⟩ rfl rfl rfl ?_; intro w5 hf5 hg5)
      go_returns
      have hpc := HPC.out
      have hn5 : ∀ i, i < wc.heap.size → i ≠ B.p → w5.heap[i]? = (((wc.setCell ⟨B.g, off, none⟩ (.int .u8 2)).setCell ⟨B.b, off, none⟩ (.int .u8 cb)).drew).heap[i]? := fun i hi hne => hg5.block i (by simp [World.size_setCell]; omega) (by simpa using hne)
      have hl5 : Below base wc w5 := ((((Below.refl _ _).setCell hb.1 _).setCell hb.2.1 _).drew).grown hg5 (by simp [World.size_setCell]; omega) (fun k hk => by injection hk with hk; omega)
      have hput := SetW.put HX.out HH.out off hb hn5 hl5 hf5 hn
      refine ⟨rfl, ?_⟩
      have e : setK pc off (some ⟨2, cb, ⟨pk, pb, pl⟩, ci⟩) = setK B.pcs off (some ⟨2, cb, ⟨pk, pb, pl⟩, ci⟩) := by
        rw [← hpc]
        split
        · exact setK_setK _ _ _ _
        · rfl
      rw [e] at hput
      exact hput
    · have d2 : (ck == 2) = false := by simpa using c2
      go_wp2
      go_region
      go_wp2
      go_returns
      have hpc := HPC.out
      have hput := SetW.put HX.out HH.out off (w5 := ((wc.setCell ⟨B.g, off, none⟩ (.int .u8 ck)).setCell ⟨B.b, off, none⟩ (.int .u8 cb)).drew) hb (fun _ _ _ => rfl) ((((Below.refl _ _).setCell hb.1 _).setCell hb.2.1 _).drew) ((HPM.out (.int .u8 ck) (.int .u8 cb)).more (by omega)) hn
      refine ⟨rfl, ?_⟩
      have e : rput B off ⟨ck, cb, ⟨pk, pb, pl⟩, ci⟩ = { B with kinds := B.kinds.set off ck, bytes := B.bytes.set off cb, np := B.np + 1, pcs := pc } := by
        unfold rput
        rw [HKD.out]
        dsimp only
        rw [if_neg c2, hpc]
      rw [e]
      exact hput

end Go.Proofs.Ytddipbpllogbaaa
