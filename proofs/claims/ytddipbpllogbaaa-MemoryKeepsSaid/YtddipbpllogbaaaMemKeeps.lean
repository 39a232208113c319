/-
  MemoryKeeps: the walk.
-/
import Derived.Test.YtddipbpllogbaaaMemBox
import Derived.Test.YtddipbpllogbaaaMemM
namespace Go.Proofs.Ytddipbpllogbaaa
open Go.RowKit
set_option linter.unusedVariables false
set_option linter.unusedSimpArgs false

/-- An operation that yields is taken first; its slot is named. -/
theorem takeAt {P : Program} {md : Region.Mode} {ops : Array Oper} {Q : Exit → Act → World → Prop} {S : World → Prop} {i : Nat} (d : Option Tmp) {oi : Oper} {v : Value} {fuel : Nat} {listed : Array Bool} {a : Act} {w : World} (hi : ops[i]? = some oi) (hd : oi.dst = d)
    (hs : Region.noSelect ops = true) (hf : Region.free md ops listed i = true) (hr : (Region.ready md ops listed).contains i = true)
    (hQ : ∀ c a w, Q (.panic c) (a.put d v) w → Q (.panic c) a w) (hy : YieldsIf P ops S oi v a) (hS : S w)
    (h : wpAnyH P md ops Q S fuel (listed.setIfInBounds i true) (a.put d v) w) : wpAnyH P md ops Q S (fuel + 1) listed a w := by
  subst hd
  exact wpAnyH_take hi hs hf hr hQ hy hS h

def byteCells (n : Int) : List Value := [.int .u8 n]
theorem v_info : (Try.prog.info? 32).map (fun i => (i.zero, i.size, i.bytes)) = some (some (.agg #[.int .i64 0, .int .u64 0, .int .i64 0]), 3, 24) := by kernel_rfl

/-- The row of what was read: the first k are known. -/
def RowB (wr : World) (gw sz k : Nat) (cells : List Int) : Prop :=
  ∃ cs : Array Value, wr.heap[gw]? = some (.cells cs 32 (0, 0)) ∧ cs.size = sz * 3 ∧ ∀ j : Nat, j < k → cs[j * 3]? = some (.int .i64 (b8 (cells.getD j 0)).k) ∧ cs[j * 3 + 1]? = some (.int .u64 (b8 (cells.getD j 0)).b) ∧ cs[j * 3 + 2]? = some (.int .i64 (b8 (cells.getD j 0)).l)
theorem RowB.kept {W W' : World} {gw sz k : Nat} {cells : List Int} (h : RowB W gw sz k cells) (hk : KeptT W W') : RowB W' gw sz k cells := by
  obtain ⟨cs, h1, h2, h3⟩ := h
  exact ⟨cs, hk.cells h1 (by decide), h2, h3⟩
theorem RowB.cells {W : World} {gw sz k : Nat} {cells cells' : List Int} (h : RowB W gw sz k cells) (e : ∀ j : Nat, j < k → cells'.getD j 0 = cells.getD j 0) : RowB W gw sz k cells' := by
  obtain ⟨cs, h1, h2, h3⟩ := h
  exact ⟨cs, h1, h2, fun j hj => by rw [e j hj]; exact h3 j hj⟩
theorem RowB.lt {W : World} {gw sz k : Nat} {cells : List Int} (h : RowB W gw sz k cells) : gw < W.heap.size := by
  obtain ⟨cs, h1, _, _⟩ := h
  exact lt_of_block h1
/-- Behind k rounds of filling: the memory's one block; what was read of it; the value to be stored, where it lies. -/
structure Filled (w wr : World) (pm bm gw sz cap k : Nat) (vk vb vl : Int) (B : Bk) : Prop where
  mem : ∃ M, MemS wr w.heap.size pm bm 1 1 cap M ∧ M 1 = some B
  len : B.cells.length = sz
  free : B.fixed = false
  low : Below w.heap.size w wr
  box : Box3 wr w.heap.size vk vb vl
  row : RowB wr gw sz k B.cells
  gt : w.heap.size < gw
theorem store8 {M : Int → Option Bk} {B : Bk} (h : M 1 = some B) (hf : B.fixed = false) (i : Nat) (hi : i < B.cells.length) (hl : B.cells.length ≤ 16777216) (s : Int) : storeA M 2 ⟨4, i, 1⟩ ⟨1, s, 0⟩ = some (setK M 1 (some { B with cells := setN B.cells i ⟨1, s, 0⟩ 1 })) := by
  unfold storeA
  rw [find8 h i hi hl]
  have ht : takesA 2 1 = true := by decide
  have hs : (sizeV 2).toNat = 1 := by decide
  simp [hf, ht, putB, hs]

/-- A store beside the memory. -/
theorem MemS.beside {w w' : World} {base pm bm nb last cap g : Nat} {M : Int → Option Bk} {cs : Array Value} {fr : Nat × Nat} (h : MemS w base pm bm nb last cap M) (hg : w.heap[g]? = some (.cells cs 32 fr)) (hne : ∀ i, i ≠ g → w'.heap[i]? = w.heap[i]?) : MemS w' base pm bm nb last cap M where
  top := (hne pm (fun e => by have := h.top; rw [e, hg] at this; simp at this)).trans h.top
  blocks := by
    obtain ⟨es, cl, ho⟩ := h.blocks.obj
    exact h.blocks.block (hne bm (map_ne ho hg))
  lo := h.lo
  nbc := h.nbc
  keys := h.keys
  at_ k B e := by
    have hB := h.at_ k B e
    refine hB.block fun i hi => hne i ?_
    rcases hi with rfl | rfl | rfl
    · intro e; have := hB.own; rw [e, hg] at this; simp at this
    · intro e; have := hB.row; rw [e, hg] at this; simp at this
    · obtain ⟨es, cl, ho⟩ := hB.ptrs.obj
      exact map_ne ho hg
  apart := h.apart
theorem set3_ne {W : World} {g o1 o2 o3 : Nat} {v1 v2 v3 : Value} (i : Nat) (h : i ≠ g) : (((W.setCell ⟨g, o1, none⟩ v1).setCell ⟨g, o2, none⟩ v2).setCell ⟨g, o3, none⟩ v3).heap[i]? = W.heap[i]? :=
  (heap_set_ne _ _ _ h).trans ((heap_set_ne _ _ _ h).trans (heap_set_ne _ _ _ h))
theorem low3 {w W : World} {g o1 o2 o3 : Nat} {v1 v2 v3 : Value} (h : Below w.heap.size w W) (hg : w.heap.size < g) : Below w.heap.size w (((W.setCell ⟨g, o1, none⟩ v1).setCell ⟨g, o2, none⟩ v2).setCell ⟨g, o3, none⟩ v3) :=
  Below.setCell (Below.setCell (Below.setCell h (by dsimp only; omega) _) (by dsimp only; omega) _) (by dsimp only; omega) _
/-- One more value is read. -/
theorem Filled.read {w W W' : World} {pm bm gw sz cap k : Nat} {vk vb vl x1 x2 x3 : Int} {B : Bk} (h : Filled w W pm bm gw sz cap k vk vb vl B) (hb : Below W.heap.size W W') (hk : k < sz) (hx : b8 (B.cells.getD k 0) = ⟨x1, x2, x3⟩) :
    Filled w (((W'.setCell ⟨gw, k * 3, none⟩ (.int .i64 x1)).setCell ⟨gw, k * 3 + 1, none⟩ (.int .u64 x2)).setCell ⟨gw, k * 3 + 2, none⟩ (.int .i64 x3)) pm bm gw sz cap (k + 1) vk vb vl B := by
  obtain ⟨M, hM, hM1⟩ := h.mem
  obtain ⟨cs, hc1, hc2, hc3⟩ := h.row
  have hc1' := (hb.block _ (lt_of_block hc1)).trans hc1
  have hgt := h.gt
  refine ⟨⟨M, (hM.next hb).beside hc1' (fun i hi => set3_ne i hi), hM1⟩, h.len, h.free, low3 (below_step h.low hb) hgt, ?_, ?_, hgt⟩
  · exact (set3_ne _ (by omega)).trans (h.box.next hb)
  · refine ⟨_, heap_set_at (heap_set_at (heap_set_at hc1' _ _) _ _) _ _, by simpa using hc2, fun j hj => ?_⟩
    by_cases c : j = k
    · subst c
      rw [hx]
      refine ⟨?_, ?_, ?_⟩ <;> (simp only [Array.getElem?_setIfInBounds, Array.size_setIfInBounds]; simp; omega)
    · obtain ⟨a1, a2, a3⟩ := hc3 j (by omega)
      refine ⟨?_, ?_, ?_⟩ <;> (rw [Array.getElem?_setIfInBounds_ne (by omega), Array.getElem?_setIfInBounds_ne (by omega), Array.getElem?_setIfInBounds_ne (by omega)]; assumption)

/-- The cell that is read stays, and all that was there. -/
theorem fillNext {w W W' : World} {b o : Nat} {v : Value} (hp : b < w.heap.size) (hb : Below W.heap.size W W') (h : W.cell? ⟨b, o, none⟩ = some v ∧ Below w.heap.size w W) : W'.cell? ⟨b, o, none⟩ = some v ∧ Below w.heap.size w W' :=
  ⟨(hb.cell (p := ⟨b, o, none⟩) (Nat.lt_of_lt_of_le hp h.2.size)).trans h.1, below_step h.2 hb⟩
theorem fillLeft {w W W' : World} {b o : Nat} {v : Value} (hp : b < w.heap.size) (hb : Below w.heap.size W W') (h : W.cell? ⟨b, o, none⟩ = some v ∧ Below w.heap.size w W) : W'.cell? ⟨b, o, none⟩ = some v ∧ Below w.heap.size w W' :=
  ⟨(hb.cell (p := ⟨b, o, none⟩) hp).trans h.1, h.2.trans hb⟩

/-- What the memory holds behind the store: st tells whether it was done. -/
def MemDone (w W : World) (pm bm sz cap : Nat) (chunk off ob vk vb vl : Int) (cells : List Int) (st : Bool) : Prop :=
  ∃ M B2, MemS W w.heap.size pm bm 1 1 cap M ∧ M 1 = some B2 ∧ B2.cells.length = sz ∧
    (∀ j : Nat, j < sz → (st = false ∨ (j : Int) < off ∨ sizeV chunk ≤ (j : Int) - off) → B2.cells.getD j 0 = cells.getD j 0) ∧
    (st = true → rightV vk vb vl = true → loadA M chunk ⟨4, ob, 1⟩ = some (backV chunk ⟨vk, vb, vl⟩)) ∧ (st = true → 0 ≤ off ∧ off ≤ 64)
theorem MemDone.next {w W W' : World} {pm bm sz cap : Nat} {chunk off ob vk vb vl : Int} {cells : List Int} {st : Bool} (h : MemDone w W pm bm sz cap chunk off ob vk vb vl cells st) (hb : Below W.heap.size W W') : MemDone w W' pm bm sz cap chunk off ob vk vb vl cells st := by
  obtain ⟨M, B2, h1, h2⟩ := h
  exact ⟨M, B2, h1.next hb, h2⟩
structure Done (w W : World) (pm bm gw g15 sz cap : Nat) (chunk off ob vk vb vl : Int) (cells : List Int) (st : Bool) : Prop where
  mem : MemDone w W pm bm sz cap chunk off ob vk vb vl cells st
  low : Below w.heap.size w W
  box : Box3 W w.heap.size vk vb vl
  at_ : Box3 W g15 4 ob 1
  row : RowB W gw sz sz cells
theorem Done.next {w W W' : World} {pm bm gw g15 sz cap : Nat} {chunk off ob vk vb vl : Int} {cells : List Int} {st : Bool} (h : Done w W pm bm gw g15 sz cap chunk off ob vk vb vl cells st) (hb : Below W.heap.size W W') : Done w W' pm bm gw g15 sz cap chunk off ob vk vb vl cells st :=
  ⟨h.mem.next hb, below_step h.low hb, h.box.next hb, h.at_.next hb, h.row.kept (KeptT.of_below hb)⟩

/-- The value's box and the pointer's. -/
def TwoB (W : World) (g g15 : Nat) (vk vb vl ob : Int) : Prop := Box3 W g vk vb vl ∧ Box3 W g15 4 ob 1
theorem TwoB.cells {W : World} {g g15 : Nat} {vk vb vl ob : Int} (h : TwoB W g g15 vk vb vl ob) : W.cell? ⟨g, 0, none⟩ = some (.int .i64 vk) ∧ W.cell? ⟨g, 1, none⟩ = some (.int .u64 vb) ∧ W.cell? ⟨g, 2, none⟩ = some (.int .i64 vl) ∧ W.cell? ⟨g15, 0, none⟩ = some (.int .i64 4) ∧ W.cell? ⟨g15, 1, none⟩ = some (.int .u64 ob) ∧ W.cell? ⟨g15, 2, none⟩ = some (.int .i64 1) ∧ TwoB W g g15 vk vb vl ob :=
  ⟨h.1.cells.1, h.1.cells.2.1, h.1.cells.2.2.1, h.2.cells.1, h.2.cells.2.1, h.2.cells.2.2.1, h⟩
theorem TwoB.keptC {W W' : World} {g g15 : Nat} {vk vb vl ob : Int} (k : KeptT W W') (h : W.cell? ⟨g, 0, none⟩ = some (.int .i64 vk) ∧ W.cell? ⟨g, 1, none⟩ = some (.int .u64 vb) ∧ W.cell? ⟨g, 2, none⟩ = some (.int .i64 vl) ∧ W.cell? ⟨g15, 0, none⟩ = some (.int .i64 4) ∧ W.cell? ⟨g15, 1, none⟩ = some (.int .u64 ob) ∧ W.cell? ⟨g15, 2, none⟩ = some (.int .i64 1) ∧ TwoB W g g15 vk vb vl ob) : TwoB W' g g15 vk vb vl ob := ⟨h.2.2.2.2.2.2.1.kept k, h.2.2.2.2.2.2.2.kept k⟩
theorem TwoB.drew {W : World} {g g15 : Nat} {vk vb vl ob : Int} (h : TwoB W g g15 vk vb vl ob) : TwoB W.drew g g15 vk vb vl ob := h

theorem keep_store {w W : World} {pm bm sz cap : Nat} {M : Int → Option Bk} {B : Bk} {chunk off ob vk vb vl : Int} {st : Bool} (hM : MemS W w.heap.size pm bm 1 1 cap M) (hM1 : M 1 = some B) (hf : B.fixed = false) (hlen : B.cells.length = sz) (hsz : sz < 64) (hcap : cap + 1 < 9223372036854775807)
    (ho : I64 off) (hob : off % 18446744073709551616 = ob) (hvb : U64 vb) (hst : ((loadA M chunk ⟨4, ob, 1⟩).isSome && takesA chunk vk) = st) :
    Calls Try.prog 17 #[.pointer (some ⟨pm, 0, none⟩), .int .i64 chunk, .agg #[.int .i64 4, .int .u64 ob, .int .i64 1], .agg #[.int .i64 vk, .int .u64 vb, .int .i64 vl]] W fun e w' => e = .returned (.bool st) ∧ KeptT W w' ∧ Below w.heap.size W w' ∧ MemDone w w' pm bm sz (cap + 1) chunk off ob vk vb vl B.cells st := by
  have h := store_any hM chunk 4 ob 1 vk vb vl (by unfold I64; omega) hvb hcap
  rw [store_when hM1 hf chunk 4 ob ⟨vk, vb, vl⟩, hst] at h
  refine h.mono fun e w' ⟨he, hL⟩ => ⟨he, hL.kept, hL.low, ?_⟩
  have hs := store_when hM1 hf chunk 4 ob ⟨vk, vb, vl⟩
  cases st with
  | false =>
    rw [hst] at hs
    have hs' : storeA M chunk ⟨4, ob, 1⟩ ⟨vk, vb, vl⟩ = none := by simpa using hs
    rw [hs'] at hL
    exact ⟨M, B, hL.mem, hM1, hlen, fun _ _ _ => rfl, (fun h => by cases h), (fun h => by cases h)⟩
  | true =>
    simp only [Bool.and_eq_true] at hst
    obtain ⟨h1, h2⟩ := hst
    unfold loadA at h1
    cases hfi : findA M chunk ⟨4, ob, 1⟩ with
    | none => rw [hfi] at h1; cases h1
    | some Bo =>
      obtain ⟨C, o⟩ := Bo
      obtain ⟨_, hC, hn, ho1, ho2, ho3⟩ := findA_some hfi
      dsimp only at hC ho1
      rw [hM1] at hC
      injection hC with hC
      subst hC
      have hst' : storeA M chunk ⟨4, ob, 1⟩ ⟨vk, vb, vl⟩ = some (setK M 1 (some (putB B chunk o ⟨vk, vb, vl⟩))) := by
        unfold storeA
        rw [hfi]
        simp [hf, h2]
      rw [hst'] at hL
      have hoo : off = o := by
        obtain ⟨o1, o2⟩ := ho
        have : wrap64 ob = off := by rw [← hob]; unfold wrap64; omega
        omega
      refine ⟨_, putB B chunk o ⟨vk, vb, vl⟩, hL.mem, by simp [setK], (putB_len _ _ _ _).trans hlen, fun j hj hc => ?_, fun _ hr => load_back hfi h2 hvb hr, fun _ => by omega⟩
      have hc' : (j : Int) < off ∨ sizeV chunk ≤ (j : Int) - off := by
        rcases hc with hc | hc
        · cases hc
        · exact hc
      unfold putB
      have hn8 := sizeV_cases chunk
      split
      · rename_i c4
        have hk6 : chunk = 6 := by
          have hkv : kindV chunk ≠ 4 := by unfold kindV; grind
          unfold takesA at h2
          dsimp only at c4 h2
          simp only [decide_eq_true_eq] at h2
          omega
        have h8 : sizeV chunk = 8 := by rw [hk6]; decide
        exact setN_out _ _ _ _ _ (by omega)
      · exact setN_out _ _ _ _ _ (by omega)

set_option maxRecDepth 100000 in
set_option maxHeartbeats 16000000 in
theorem keeps_core (A : Option Addr) (c : Nat) (l : List Int) (size chunk off vk vb vl : Int) (w : World) (h1 : RdL byteCells 1 w (.slice A l.length c) l) (hl : ∀ x ∈ l, 0 ≤ x ∧ x < 256) (hi : I64 size) (ho : I64 off) (hvb : U64 vb) :
    Calls Try.prog 6 #[.int .i64 size, .slice A l.length c, .int .i64 chunk, .int .i64 off, .agg #[.int .i64 vk, .int .u64 vb, .int .i64 vl]] w fun e w' => e = .returned (.bool true) ∧ Below w.heap.size w w' := by
  obtain ⟨i0, hi0, hz0, hz1, hz2⟩ := info_parts v_info
  have m1 := h1.len
  unfold maxLen at m1
  have H1 := Lib.hid h1
  have HL := Lib.hid hl
  obtain ⟨sz, hsz1, hsz2⟩ : ∃ sz : Nat, wrap64 ((IntKind.u64.wrap size).tmod 64) = (sz : Int) ∧ sz < 64 := by
    have h0 : IntKind.u64.wrap size = size % 18446744073709551616 := IntKind.wrap_u64 size
    have h2 : (IntKind.u64.wrap size).tmod 64 = (size % 18446744073709551616) % 64 := by rw [h0]; exact Int.tmod_eq_emod_of_nonneg (by omega)
    refine ⟨(size % 18446744073709551616 % 64).toNat, ?_, by omega⟩
    rw [h2]; unfold wrap64; omega
  have hms := fun W : World => run_makeSlice (P := Try.prog) W 53 32 i0 (.agg #[.int .i64 0, .int .u64 0, .int .i64 0]) Try.underlying53 hi0 hz0 .i64 .i64 sz sz (by omega) (Int.le_refl _) (by rw [hz1]; omega) (by rw [hz2]; omega) (by omega)
  rw [hz1] at hms
  simp only [Int.toNat_natCast] at hms
  clear h1 hl
  have hA1 := cell_alloc_if
  have hA2 := frozen_alloc_if
  have hA3 := cell_set_if
  go_enter Try.func6, Try.ntmps6
  go_wp2_with (first
    | (go_at_call 7; (with_reducible refine (fixed_any _).mono ?_); rintro e wF ⟨rfl, hbF⟩; have hzF := hbF.size; (try simp only [World.size_alloc, World.size_setCell, World.size_drew, World.heap_drewN] at hzF))
    | (go_at_call 8; refine (new_any _ w.heap.size (by omega)).mono ?_; rintro e w1 ⟨pm, bm, rfl, hm1, hb1⟩; have HM1 := Lib.hid (show MemS _ _ _ _ _ _ _ M0 from hm1); have hzN := hb1.size; (try simp only [World.size_alloc, World.size_setCell, World.size_drew, World.heap_drewN] at hzN); clear hm1)
    | (go_at_call 9; (with_reducible refine (alloc_lit HM1.out sz sz 1 rfl (by decide) (by omega) (by omega)).mono ?_); rintro e w2 ⟨rfl, hL⟩; have HM2 := Lib.hid hL.mem; have hlow2 : Below w.heap.size w w2 := Below.trans (by (repeat' (first | (with_reducible exact Below.refl _ _) | (with_reducible assumption) | (with_reducible refine Below.setCell ?_ ?_ _) | (with_reducible refine Below.alloc ?_ ?_ _) | (with_reducible refine Below.drew ?_) | (with_reducible refine below_drewN ?_ _) | (with_reducible refine below_next ?_ (by with_reducible assumption)) | omega | (dsimp only; omega) | (simp only [World.size_alloc, World.size_setCell, World.size_drew, World.heap_drewN]; omega)))) hL.low; have hz2' := hL.kept.1; have HK2 := Lib.hid hL.kept; clear hL))
  obtain ⟨gw, hgw⟩ : ∃ gw, gw = w2.heap.size := ⟨_, rfl⟩
  have HF : Hid (Filled w (w2.alloc (.cells (madeCells #[.int .i64 0, .int .u64 0, .int .i64 0] (sz * 3)) 32)) pm bm gw sz 1 0 vk vb vl (newB w1.heap.size sz)) := Lib.hid {
    mem := ⟨_, HM2.out.next (by (repeat' (first | (with_reducible exact Below.refl _ _) | (with_reducible assumption) | (with_reducible refine Below.setCell ?_ ?_ _) | (with_reducible refine Below.alloc ?_ ?_ _) | (with_reducible refine Below.drew ?_) | (with_reducible refine below_drewN ?_ _) | (with_reducible refine below_next ?_ (by with_reducible assumption)) | omega | (dsimp only; omega) | (simp only [World.size_alloc, World.size_setCell, World.size_drew, World.heap_drewN]; omega)))), by simp [setK]⟩
    len := by simp [newB]
    free := rfl
    low := by (repeat' (first | (with_reducible exact Below.refl _ _) | (with_reducible assumption) | (with_reducible refine Below.setCell ?_ ?_ _) | (with_reducible refine Below.alloc ?_ ?_ _) | (with_reducible refine Below.drew ?_) | (with_reducible refine below_drewN ?_ _) | (with_reducible refine below_next ?_ (by with_reducible assumption)) | omega | (dsimp only; omega) | (simp only [World.size_alloc, World.size_setCell, World.size_drew, World.heap_drewN]; omega)))
    box := Box3.next (W := w2) ((Box3.made w vk vb vl).next (by (repeat' (first | (with_reducible exact Below.refl _ _) | (with_reducible assumption) | (with_reducible refine Below.setCell ?_ ?_ _) | (with_reducible refine Below.alloc ?_ ?_ _) | (with_reducible refine Below.drew ?_) | (with_reducible refine below_drewN ?_ _) | (with_reducible refine below_next ?_ (by with_reducible assumption)) | omega | (dsimp only; omega) | (simp only [World.size_alloc, World.size_setCell, World.size_drew, World.heap_drewN]; omega)))) |>.next hb1 |>.kept HK2.out) (by (repeat' (first | (with_reducible exact Below.refl _ _) | (with_reducible assumption) | (with_reducible refine Below.setCell ?_ ?_ _) | (with_reducible refine Below.alloc ?_ ?_ _) | (with_reducible refine Below.drew ?_) | (with_reducible refine below_drewN ?_ _) | (with_reducible refine below_next ?_ (by with_reducible assumption)) | omega | (dsimp only; omega) | (simp only [World.size_alloc, World.size_setCell, World.size_drew, World.heap_drewN]; omega))))
    row := ⟨_, by rw [hgw]; exact heap_alloc_new _ _, by simp [madeCells], fun j hj => by omega⟩
    gt := by omega }
  rw [← hgw]
  clear hgw HM1 HM2 HK2 hms hb1 hbF hA1 hA2 hA3 hi0 hz0 hz1 hz2
  go_loopw [14, 38] (fun a i wr => ∃ (k : Nat) (B : Bk), k ≤ sz ∧ i = .int .i64 k ∧ Hid (Filled w wr pm bm gw sz (1 + k) k vk vb vl B)) (fun _ i _ => sz - (intOf i).toNat)
  case atStart => exact ⟨0, _, by omega, rfl, HF⟩
  case round =>
    obtain ⟨k, B, hk, rfl, HK⟩ := hrel
    by_cases hlt : k < sz
    · have HPK := Lib.hid (fun w => ptr_at (b := 1) (off := (k : Int)) (by omega) w)
      rw [show (k : Int) % 18446744073709551616 = k from by omega] at HPK
      have hlowK := HK.out.low
      go_upto_if 44 with (fail)
      go_cut [14] (fun s14 wx => s14 = .int .i64 k ∧ ∃ B', Hid (Filled w wx pm bm gw sz (1 + k + 1) k vk vb vl B'))
      case first =>
        by_cases hl2 : k < l.length
        · have d : decide ((k : Int) < (l.length : Int)) = true := by simp; omega
          obtain ⟨s, es⟩ : ∃ s, l[k]? = some s := ⟨_, List.getElem?_eq_getElem (by omega)⟩
          obtain ⟨b1, o1, d1, f1, _, _, hb1', hc1'⟩ := H1.out.some_ (by omega)
          injection f1 with f1 f1' f1''
          subst f1
          have p1 := hc1' k s es 0 _ rfl
          rw [Nat.mul_one, Nat.add_zero] at p1
          have HS0 := Lib.hid (And.intro ((hlowK.cell (p := ⟨b1, _, none⟩) hb1').trans p1) hlowK)
          have hs := HL.out s (List.mem_of_getElem? es)
          clear hc1' p1 f1' f1'' es
          obtain ⟨M, hM, hM1⟩ := HK.out.mem
          have HM := Lib.hid hM
          have HMS := Lib.hid (store8 hM1 HK.out.free k (by rw [HK.out.len]; omega) (by rw [HK.out.len]; omega) s)
          have HIS := Lib.hid (intOf_any s)
          rw [show s % 4294967296 = s from by omega] at HIS
          have hsw : IntKind.i32.wrap s = s := by rw [IntKind.wrap_i32]; omega
          clear hM hM1
          go_wp2
          go_region_held3 (fun w' => w'.cell? ⟨b1, o1 + k, none⟩ = some (.int .u8 s) ∧ Below w.heap.size w w') (first | exact hSX | exact HS0.out | exact ⟨HS0.out.1, Below.drew HS0.out.2⟩)
            (first
              | (go_at_call 23; (with_reducible refine (HPK.out _).mono ?_); rintro e wP ⟨rfl, hbP⟩; have hzP := hbP.size; (try simp only [World.size_alloc, World.size_setCell, World.size_drew, World.heap_drewN] at hzP); have hSX := fillNext hb1' hbP (by assumption))
              | (go_at_call 25; (with_reducible refine (HIS.out _).mono ?_); rintro e wI ⟨rfl, hbI⟩; have hzI := hbI.size; (try simp only [World.size_alloc, World.size_setCell, World.size_drew, World.heap_drewN] at hzI); have hSX := fillNext hb1' hbI (by assumption))
              | (go_at_call 17; (with_reducible refine (store_lit (HM.out.next (by (repeat' (first | (with_reducible exact Below.refl _ _) | (with_reducible assumption) | (with_reducible refine Below.setCell ?_ ?_ _) | (with_reducible refine Below.alloc ?_ ?_ _) | (with_reducible refine Below.drew ?_) | (with_reducible refine below_drewN ?_ _) | (with_reducible refine below_next ?_ (by with_reducible assumption)) | omega | (dsimp only; omega) | (simp only [World.size_alloc, World.size_setCell, World.size_drew, World.heap_drewN]; omega))))) 2 k 1 1 s 0 (by unfold I64; omega) (by unfold U64; omega) (by omega) HMS.out).mono ?_); rintro e wS ⟨rfl, hL⟩; have HMT := Lib.hid hL.mem; have HKT := Lib.hid hL.kept; have hzS := hL.kept.1; (try simp only [World.size_alloc, World.size_setCell, World.size_drew, World.heap_drewN] at hzS); have hSX := fillLeft hb1' hL.low (by assumption); clear hL))
          have hkept : KeptT wr wS := (KeptT.of_below (show Below wr.heap.size wr wI by (repeat' (first | (with_reducible exact Below.refl _ _) | (with_reducible assumption) | (with_reducible refine Below.setCell ?_ ?_ _) | (with_reducible refine Below.alloc ?_ ?_ _) | (with_reducible refine Below.drew ?_) | (with_reducible refine below_drewN ?_ _) | (with_reducible refine below_next ?_ (by with_reducible assumption)) | omega | (dsimp only; omega) | (simp only [World.size_alloc, World.size_setCell, World.size_drew, World.heap_drewN]; omega))))).trans HKT.out
          go_wp2
          go_meet
          exact ⟨rfl, { B with cells := setN B.cells k ⟨1, s, 0⟩ 1 }, Lib.hid {
            mem := ⟨_, HMT.out, by simp [setK]⟩
            len := (setN_len _ _ _ _).trans HK.out.len
            free := HK.out.free
            low := hSX.2
            box := HK.out.box.kept hkept
            row := (HK.out.row.kept hkept).cells (fun j hj => setN_out _ _ _ _ _ (by omega))
            gt := HK.out.gt }⟩
        · have d : decide ((k : Int) < (l.length : Int)) = false := by simp; omega
          go_wp2
          go_meet
          obtain ⟨M, hM, hM1⟩ := HK.out.mem
          exact ⟨rfl, B, Lib.hid { HK.out with mem := ⟨M, hM.more (by omega) (by omega), hM1⟩ }⟩
      case rest =>
        obtain ⟨rfl, B', HC⟩ := hcut
        obtain ⟨M, hM, hM1⟩ := HC.out.mem
        have HM := Lib.hid hM
        have HLD := Lib.hid (load8 hM1 k (by rw [HC.out.len]; omega) (by rw [HC.out.len]; omega))
        obtain ⟨x, hx⟩ : ∃ x, b8 (B'.cells.getD k 0) = x := ⟨_, rfl⟩
        rw [hx] at HLD
        obtain ⟨x1, x2, x3⟩ := x
        obtain ⟨cs, hc1, hc2, hc3⟩ := HC.out.row
        obtain ⟨q1, q2⟩ := else_of_block hc1
        have hgwl := lt_of_block hc1
        have e1 : ∃ y, cs[k * 3]? = some y := ⟨_, Array.getElem?_eq_getElem (by omega)⟩
        have e2 : ∃ y, cs[k * 3 + 1]? = some y := ⟨_, Array.getElem?_eq_getElem (by omega)⟩
        have e3 : ∃ y, cs[k * 3 + 2]? = some y := ⟨_, Array.getElem?_eq_getElem (by omega)⟩
        obtain ⟨y1, e1⟩ := e1
        obtain ⟨y2, e2⟩ := e2
        obtain ⟨y3, e3⟩ := e3
        have c1 := (cells_of_block hc1).1 (k * 3)
        have c2 := (cells_of_block hc1).1 (k * 3 + 1)
        have c3 := (cells_of_block hc1).1 (k * 3 + 2)
        rw [e1] at c1
        rw [e2] at c2
        rw [e3] at c3
        have f0 := (cells_of_block hc1).2
        have HR := Lib.hid (And.intro hc1 (And.intro hc2 hc3))
        have hlowC := HC.out.low
        clear hM hM1 hc1 hc2 hc3 q1 q2 e1 e2 e3
        go_wp2_with (first
          | (go_at_call 23; (with_reducible refine (HPK.out _).mono ?_); rintro e wP ⟨rfl, hbP⟩; obtain ⟨hcP, hfP, hzP⟩ := cif hbP; (try simp only [World.size_alloc, World.size_setCell, World.size_drew, World.heap_drewN] at hzP))
          | (go_at_call 15; (with_reducible refine (load_some (HM.out.next (by (repeat' (first | (with_reducible exact Below.refl _ _) | (with_reducible assumption) | (with_reducible refine Below.setCell ?_ ?_ _) | (with_reducible refine Below.alloc ?_ ?_ _) | (with_reducible refine Below.drew ?_) | (with_reducible refine below_drewN ?_ _) | (with_reducible refine below_next ?_ (by with_reducible assumption)) | omega | (dsimp only; omega) | (simp only [World.size_alloc, World.size_setCell, World.size_drew, World.heap_drewN]; omega))))) 2 k 1 x1 x2 x3 (by unfold I64; omega) HLD.out).mono ?_); rintro e wL ⟨rfl, hbL⟩; obtain ⟨hcL, hfL, hzL⟩ := cif hbL; (try simp only [World.size_alloc, World.size_setCell, World.size_drew, World.heap_drewN] at hzL)))
        go_roundw
        case rel =>
          refine ⟨k + 1, B', by omega, by go_num, ?_⟩
          rw [show 1 + (k + 1) = 1 + k + 1 from by omega]
          exact Lib.hid (HC.out.read (by (repeat' (first | (with_reducible exact Below.refl _ _) | (with_reducible assumption) | (with_reducible refine Below.setCell ?_ ?_ _) | (with_reducible refine Below.alloc ?_ ?_ _) | (with_reducible refine Below.drew ?_) | (with_reducible refine below_drewN ?_ _) | (with_reducible refine below_next ?_ (by with_reducible assumption)) | omega | (dsimp only; omega) | (simp only [World.size_alloc, World.size_setCell, World.size_drew, World.heap_drewN]; omega)))) hlt hx)
        case measure => simp [intOf]; omega
    · have hkn : k = sz := by omega
      subst hkn
      obtain ⟨M, hM, hM1⟩ := HK.out.mem
      obtain ⟨ob, hob⟩ : ∃ ob, off % 18446744073709551616 = ob := ⟨_, rfl⟩
      have HPO := Lib.hid (fun w => ptr_at (b := 1) (off := off) (by omega) w)
      rw [hob] at HPO
      obtain ⟨x, hx⟩ : ∃ x, ptrV_ (loadA M chunk ⟨4, ob, 1⟩) = x := ⟨_, rfl⟩
      obtain ⟨can, hcan⟩ : ∃ can, (loadA M chunk ⟨4, ob, 1⟩).isSome = can := ⟨_, rfl⟩
      obtain ⟨st, hst⟩ : ∃ st, (can && takesA chunk vk) = st := ⟨_, rfl⟩
      obtain ⟨x1, x2, x3⟩ := x
      have HM := Lib.hid hM
      have HLD := Lib.hid (fun W h => load_v (w := W) (h : MemS W w.heap.size pm bm 1 1 (1 + k) M) chunk ob 1 x1 x2 x3 can (by unfold I64; omega) hx hcan)
      have HSTO := Lib.hid (fun W h => keep_store (w := w) (W := W) (pm := pm) (bm := bm) (cap := 1 + k) (M := M) (vl := vl) (st := st) h hM1 HK.out.free HK.out.len hsz2 (by omega) ho hob hvb (by rw [hcan]; exact hst))
      have hlowK := HK.out.low
      clear hM hM1 hx hcan
      go_upto_region 16 with (first
          | (go_at_call 23; (with_reducible refine (HPO.out _).mono ?_); rintro e wP ⟨rfl, hbP⟩; obtain ⟨hcP, hfP, hzP⟩ := cif hbP; (try simp only [World.size_alloc, World.size_setCell, World.size_drew, World.heap_drewN] at hzP))
          | (go_at_call 15; (with_reducible refine (HLD.out _ (HM.out.next (by (repeat' (first | (with_reducible exact Below.refl _ _) | (with_reducible assumption) | (with_reducible refine Below.setCell ?_ ?_ _) | (with_reducible refine Below.alloc ?_ ?_ _) | (with_reducible refine Below.drew ?_) | (with_reducible refine below_drewN ?_ _) | (with_reducible refine below_next ?_ (by with_reducible assumption)) | omega | (dsimp only; omega) | (simp only [World.size_alloc, World.size_setCell, World.size_drew, World.heap_drewN]; omega)))))).mono ?_); rintro e wL ⟨rfl, hbL⟩; obtain ⟨hcL, hfL, hzL⟩ := cif hbL; (try simp only [World.size_alloc, World.size_setCell, World.size_drew, World.heap_drewN] at hzL)))
      obtain ⟨W0, hW0⟩ : ∃ W0, W0 = wL.alloc (.cells #[.int .i64 x1, .int .u64 x2, .int .i64 x3] 32) := ⟨_, rfl⟩
      have hr0 : Below wr.heap.size wr W0 := by rw [hW0]; (repeat' (first | (with_reducible exact Below.refl _ _) | (with_reducible assumption) | (with_reducible refine Below.setCell ?_ ?_ _) | (with_reducible refine Below.alloc ?_ ?_ _) | (with_reducible refine Below.drew ?_) | (with_reducible refine below_drewN ?_ _) | (with_reducible refine below_next ?_ (by with_reducible assumption)) | omega | (dsimp only; omega) | (simp only [World.size_alloc, World.size_setCell, World.size_drew, World.heap_drewN]; omega)))
      have hp0 : Below (wP.alloc (.cells #[.int .i64 4, .int .u64 ob, .int .i64 1] 32)).heap.size (wP.alloc (.cells #[.int .i64 4, .int .u64 ob, .int .i64 1] 32)) W0 := by rw [hW0]; (repeat' (first | (with_reducible exact Below.refl _ _) | (with_reducible assumption) | (with_reducible refine Below.setCell ?_ ?_ _) | (with_reducible refine Below.alloc ?_ ?_ _) | (with_reducible refine Below.drew ?_) | (with_reducible refine below_drewN ?_ _) | (with_reducible refine below_next ?_ (by with_reducible assumption)) | omega | (dsimp only; omega) | (simp only [World.size_alloc, World.size_setCell, World.size_drew, World.heap_drewN]; omega)))
      obtain ⟨g15, hg15⟩ : ∃ g, g = wP.heap.size := ⟨_, rfl⟩
      have hTB : TwoB W0 w.heap.size g15 vk vb vl ob := ⟨HK.out.box.next hr0, by rw [hg15]; exact (Box3.made wP 4 ob 1).next hp0⟩
      have HTB := Lib.hid hTB
      have HM0 := Lib.hid (HM.out.next hr0)
      have HRW := Lib.hid (HK.out.row.kept (KeptT.of_below hr0))
      have hlow0 := below_step hlowK hr0
      rw [← hW0, ← hg15]
      clear hW0 hg15 hr0 hp0 hTB HM hlowK hbP hcP hfP hzP hbL hcL hfL hzL HLD HPO
      obtain ⟨kv, hkv⟩ : ∃ kv, kindV chunk = kv := ⟨_, rfl⟩
      have HKV := Lib.hid (kind_any chunk)
      rw [hkv] at HKV
      go_cut [105] (fun s105 wx => s105 = .bool false ∧ Hid (Done w wx pm bm gw g15 k (1 + k + 1) chunk off ob vk vb vl B.cells st))
      case first =>
        cases can with
        | false =>
          have hs0 : st = false := by rw [← hst]; rfl
          subst hs0
          clear hst
          as_aux_lemma =>
            refine wp_region_held_drew (S := fun w' => w'.cell? ⟨w.heap.size, 0, none⟩ = some (.int .i64 vk) ∧ w'.cell? ⟨w.heap.size, 1, none⟩ = some (.int .u64 vb) ∧ w'.cell? ⟨w.heap.size, 2, none⟩ = some (.int .i64 vl) ∧ w'.cell? ⟨g15, 0, none⟩ = some (.int .i64 4) ∧ w'.cell? ⟨g15, 1, none⟩ = some (.int .u64 ob) ∧ w'.cell? ⟨g15, 2, none⟩ = some (.int .i64 1) ∧ TwoB w' w.heap.size g15 vk vb vl ob) (by kernel_rfl) HTB.out.drew.cells (fun hHeld => ?_)
            first
              | (refine takeAt (i := 0) (some 78) (v := undef) rfl rfl (by kernel_rfl) (by kernel_rfl) (by kernel_rfl) (fun _ _ _ h => h) (Or.inr ⟨by rfl, rfl⟩) (by assumption) ?_; (try simp only [Act.put, List.setIfInBounds_toArray, List.set_cons_zero, List.set_cons_succ]))
              | (refine takeAt (i := 0) (some 78) (v := ?_) rfl rfl (by kernel_rfl) (by kernel_rfl) (by kernel_rfl) (fun _ _ _ h => h) (Or.inl ⟨by rfl, ?_⟩) (by assumption) ?_; rotate_left; (focus (intro w hSw; (try dsimp only at hSw); go_simp; (try with_reducible rfl))); (try simp only [Act.put, List.setIfInBounds_toArray, List.set_cons_zero, List.set_cons_succ]))
            first
              | (refine takeAt (i := 1) (some 79) (v := undef) rfl rfl (by kernel_rfl) (by kernel_rfl) (by kernel_rfl) (fun _ _ _ h => h) (Or.inr ⟨by rfl, rfl⟩) (by assumption) ?_; (try simp only [Act.put, List.setIfInBounds_toArray, List.set_cons_zero, List.set_cons_succ]))
              | (refine takeAt (i := 1) (some 79) (v := ?_) rfl rfl (by kernel_rfl) (by kernel_rfl) (by kernel_rfl) (fun _ _ _ h => h) (Or.inl ⟨by rfl, ?_⟩) (by assumption) ?_; rotate_left; (focus (intro w hSw; (try dsimp only at hSw); go_simp; (try with_reducible rfl))); (try simp only [Act.put, List.setIfInBounds_toArray, List.set_cons_zero, List.set_cons_succ]))
            first
              | (refine takeAt (i := 2) (some 80) (v := undef) rfl rfl (by kernel_rfl) (by kernel_rfl) (by kernel_rfl) (fun _ _ _ h => h) (Or.inr ⟨by rfl, rfl⟩) (by assumption) ?_; (try simp only [Act.put, List.setIfInBounds_toArray, List.set_cons_zero, List.set_cons_succ]))
              | (refine takeAt (i := 2) (some 80) (v := ?_) rfl rfl (by kernel_rfl) (by kernel_rfl) (by kernel_rfl) (fun _ _ _ h => h) (Or.inl ⟨by rfl, ?_⟩) (by assumption) ?_; rotate_left; (focus (intro w hSw; (try dsimp only at hSw); go_simp; (try with_reducible rfl))); (try simp only [Act.put, List.setIfInBounds_toArray, List.set_cons_zero, List.set_cons_succ]))
            first
              | (refine takeAt (i := 3) (some 81) (v := undef) rfl rfl (by kernel_rfl) (by kernel_rfl) (by kernel_rfl) (fun _ _ _ h => h) (Or.inr ⟨by rfl, rfl⟩) (by assumption) ?_; (try simp only [Act.put, List.setIfInBounds_toArray, List.set_cons_zero, List.set_cons_succ]))
              | (refine takeAt (i := 3) (some 81) (v := ?_) rfl rfl (by kernel_rfl) (by kernel_rfl) (by kernel_rfl) (fun _ _ _ h => h) (Or.inl ⟨by rfl, ?_⟩) (by assumption) ?_; rotate_left; (focus (intro w hSw; (try dsimp only at hSw); go_simp; (try with_reducible rfl))); (try simp only [Act.put, List.setIfInBounds_toArray, List.set_cons_zero, List.set_cons_succ]))
            first
              | (refine takeAt (i := 5) (some 83) (v := undef) rfl rfl (by kernel_rfl) (by kernel_rfl) (by kernel_rfl) (fun _ _ _ h => h) (Or.inr ⟨by rfl, rfl⟩) (by assumption) ?_; (try simp only [Act.put, List.setIfInBounds_toArray, List.set_cons_zero, List.set_cons_succ]))
              | (refine takeAt (i := 5) (some 83) (v := ?_) rfl rfl (by kernel_rfl) (by kernel_rfl) (by kernel_rfl) (fun _ _ _ h => h) (Or.inl ⟨by rfl, ?_⟩) (by assumption) ?_; rotate_left; (focus (intro w hSw; (try dsimp only at hSw); go_simp; (try with_reducible rfl))); (try simp only [Act.put, List.setIfInBounds_toArray, List.set_cons_zero, List.set_cons_succ]))
            refine wpAnyH_ready (rs := [4]) (by kernel_rfl) (by simp) ?_
            refine AllReadyH.cons rfl (fun K hK => ?_) AllReadyH.nil
            go_simp
            (go_at_call 17; (with_reducible refine (HSTO.out _ (HM0.out.next (by (repeat' (first | (with_reducible exact Below.refl _ _) | (with_reducible assumption) | (with_reducible refine Below.setCell ?_ ?_ _) | (with_reducible refine Below.alloc ?_ ?_ _) | (with_reducible refine Below.drew ?_) | (with_reducible refine below_drewN ?_ _) | (with_reducible refine below_next ?_ (by with_reducible assumption)) | omega | (dsimp only; omega) | (simp only [World.size_alloc, World.size_setCell, World.size_drew, World.heap_drewN]; omega)))))).mono ?_); rintro e wS ⟨rfl, hkS, hlS, hdS⟩; have HKS := Lib.hid hkS; have HDS := Lib.hid hdS; have hzS := hkS.1; (try simp only [World.size_alloc, World.size_setCell, World.size_drew, World.heap_drewN] at hzS); have hTX := TwoB.keptC hkS (by assumption); clear hkS hdS)
            refine hK.out _ _ hTX.cells (fun hHeld => ?_)
            (try simp only [Act.put, List.setIfInBounds_toArray, List.set_cons_zero, List.set_cons_succ])
            first
              | (refine takeAt (i := 6) (some 84) (v := undef) rfl rfl (by kernel_rfl) (by kernel_rfl) (by kernel_rfl) (fun _ _ _ h => h) (Or.inr ⟨by rfl, rfl⟩) (by assumption) ?_; (try simp only [Act.put, List.setIfInBounds_toArray, List.set_cons_zero, List.set_cons_succ]))
              | (refine takeAt (i := 6) (some 84) (v := ?_) rfl rfl (by kernel_rfl) (by kernel_rfl) (by kernel_rfl) (fun _ _ _ h => h) (Or.inl ⟨by rfl, ?_⟩) (by assumption) ?_; rotate_left; (focus (intro w hSw; (try dsimp only at hSw); go_simp; (try with_reducible rfl))); (try simp only [Act.put, List.setIfInBounds_toArray, List.set_cons_zero, List.set_cons_succ]))
            first
              | (refine takeAt (i := 7) (some 85) (v := undef) rfl rfl (by kernel_rfl) (by kernel_rfl) (by kernel_rfl) (fun _ _ _ h => h) (Or.inr ⟨by rfl, rfl⟩) (by assumption) ?_; (try simp only [Act.put, List.setIfInBounds_toArray, List.set_cons_zero, List.set_cons_succ]))
              | (refine takeAt (i := 7) (some 85) (v := ?_) rfl rfl (by kernel_rfl) (by kernel_rfl) (by kernel_rfl) (fun _ _ _ h => h) (Or.inl ⟨by rfl, ?_⟩) (by assumption) ?_; rotate_left; (focus (intro w hSw; (try dsimp only at hSw); go_simp; (try with_reducible rfl))); (try simp only [Act.put, List.setIfInBounds_toArray, List.set_cons_zero, List.set_cons_succ]))
            first
              | (refine takeAt (i := 8) (some 86) (v := undef) rfl rfl (by kernel_rfl) (by kernel_rfl) (by kernel_rfl) (fun _ _ _ h => h) (Or.inr ⟨by rfl, rfl⟩) (by assumption) ?_; (try simp only [Act.put, List.setIfInBounds_toArray, List.set_cons_zero, List.set_cons_succ]))
              | (refine takeAt (i := 8) (some 86) (v := ?_) rfl rfl (by kernel_rfl) (by kernel_rfl) (by kernel_rfl) (fun _ _ _ h => h) (Or.inl ⟨by rfl, ?_⟩) (by assumption) ?_; rotate_left; (focus (intro w hSw; (try dsimp only at hSw); go_simp; (try with_reducible rfl))); (try simp only [Act.put, List.setIfInBounds_toArray, List.set_cons_zero, List.set_cons_succ]))
            first
              | (refine takeAt (i := 9) (some 87) (v := undef) rfl rfl (by kernel_rfl) (by kernel_rfl) (by kernel_rfl) (fun _ _ _ h => h) (Or.inr ⟨by rfl, rfl⟩) (by assumption) ?_; (try simp only [Act.put, List.setIfInBounds_toArray, List.set_cons_zero, List.set_cons_succ]))
              | (refine takeAt (i := 9) (some 87) (v := ?_) rfl rfl (by kernel_rfl) (by kernel_rfl) (by kernel_rfl) (fun _ _ _ h => h) (Or.inl ⟨by rfl, ?_⟩) (by assumption) ?_; rotate_left; (focus (intro w hSw; (try dsimp only at hSw); go_simp; (try with_reducible rfl))); (try simp only [Act.put, List.setIfInBounds_toArray, List.set_cons_zero, List.set_cons_succ]))
            first
              | (refine takeAt (i := 10) (some 88) (v := undef) rfl rfl (by kernel_rfl) (by kernel_rfl) (by kernel_rfl) (fun _ _ _ h => h) (Or.inr ⟨by rfl, rfl⟩) (by assumption) ?_; (try simp only [Act.put, List.setIfInBounds_toArray, List.set_cons_zero, List.set_cons_succ]))
              | (refine takeAt (i := 10) (some 88) (v := ?_) rfl rfl (by kernel_rfl) (by kernel_rfl) (by kernel_rfl) (fun _ _ _ h => h) (Or.inl ⟨by rfl, ?_⟩) (by assumption) ?_; rotate_left; (focus (intro w hSw; (try dsimp only at hSw); go_simp; (try with_reducible rfl))); (try simp only [Act.put, List.setIfInBounds_toArray, List.set_cons_zero, List.set_cons_succ]))
            first
              | (refine takeAt (i := 11) (some 89) (v := undef) rfl rfl (by kernel_rfl) (by kernel_rfl) (by kernel_rfl) (fun _ _ _ h => h) (Or.inr ⟨by rfl, rfl⟩) (by assumption) ?_; (try simp only [Act.put, List.setIfInBounds_toArray, List.set_cons_zero, List.set_cons_succ]))
              | (refine takeAt (i := 11) (some 89) (v := ?_) rfl rfl (by kernel_rfl) (by kernel_rfl) (by kernel_rfl) (fun _ _ _ h => h) (Or.inl ⟨by rfl, ?_⟩) (by assumption) ?_; rotate_left; (focus (intro w hSw; (try dsimp only at hSw); go_simp; (try with_reducible rfl))); (try simp only [Act.put, List.setIfInBounds_toArray, List.set_cons_zero, List.set_cons_succ]))
            first
              | (refine takeAt (i := 12) (some 90) (v := undef) rfl rfl (by kernel_rfl) (by kernel_rfl) (by kernel_rfl) (fun _ _ _ h => h) (Or.inr ⟨by rfl, rfl⟩) (by assumption) ?_; (try simp only [Act.put, List.setIfInBounds_toArray, List.set_cons_zero, List.set_cons_succ]))
              | (refine takeAt (i := 12) (some 90) (v := ?_) rfl rfl (by kernel_rfl) (by kernel_rfl) (by kernel_rfl) (fun _ _ _ h => h) (Or.inl ⟨by rfl, ?_⟩) (by assumption) ?_; rotate_left; (focus (intro w hSw; (try dsimp only at hSw); go_simp; (try with_reducible rfl))); (try simp only [Act.put, List.setIfInBounds_toArray, List.set_cons_zero, List.set_cons_succ]))
            first
              | (refine takeAt (i := 13) (some 91) (v := undef) rfl rfl (by kernel_rfl) (by kernel_rfl) (by kernel_rfl) (fun _ _ _ h => h) (Or.inr ⟨by rfl, rfl⟩) (by assumption) ?_; (try simp only [Act.put, List.setIfInBounds_toArray, List.set_cons_zero, List.set_cons_succ]))
              | (refine takeAt (i := 13) (some 91) (v := ?_) rfl rfl (by kernel_rfl) (by kernel_rfl) (by kernel_rfl) (fun _ _ _ h => h) (Or.inl ⟨by rfl, ?_⟩) (by assumption) ?_; rotate_left; (focus (intro w hSw; (try dsimp only at hSw); go_simp; (try with_reducible rfl))); (try simp only [Act.put, List.setIfInBounds_toArray, List.set_cons_zero, List.set_cons_succ]))
            first
              | (refine takeAt (i := 14) (some 92) (v := undef) rfl rfl (by kernel_rfl) (by kernel_rfl) (by kernel_rfl) (fun _ _ _ h => h) (Or.inr ⟨by rfl, rfl⟩) (by assumption) ?_; (try simp only [Act.put, List.setIfInBounds_toArray, List.set_cons_zero, List.set_cons_succ]))
              | (refine wpAnyH_ready (rs := [14]) (by kernel_rfl) (by simp) ?_; refine AllReadyH.cons rfl (fun K hK => ?_) AllReadyH.nil; (try go_simp); (go_at_call 26; (with_reducible refine (HKV.out _).mono ?_); rintro e wq ⟨rfl, rfl⟩); refine hK.out _ _ hTX.cells (fun hHeld => ?_); (try simp only [Act.put, List.setIfInBounds_toArray, List.set_cons_zero, List.set_cons_succ]))
            first
              | (refine takeAt (i := 15) (some 93) (v := undef) rfl rfl (by kernel_rfl) (by kernel_rfl) (by kernel_rfl) (fun _ _ _ h => h) (Or.inr ⟨by rfl, rfl⟩) (by assumption) ?_; (try simp only [Act.put, List.setIfInBounds_toArray, List.set_cons_zero, List.set_cons_succ]))
              | (refine takeAt (i := 15) (some 93) (v := ?_) rfl rfl (by kernel_rfl) (by kernel_rfl) (by kernel_rfl) (fun _ _ _ h => h) (Or.inl ⟨by rfl, ?_⟩) (by assumption) ?_; rotate_left; (focus (intro w hSw; (try dsimp only at hSw); go_simp; (try with_reducible rfl))); (try simp only [Act.put, List.setIfInBounds_toArray, List.set_cons_zero, List.set_cons_succ]))
            first
              | (refine takeAt (i := 16) (some 94) (v := undef) rfl rfl (by kernel_rfl) (by kernel_rfl) (by kernel_rfl) (fun _ _ _ h => h) (Or.inr ⟨by rfl, rfl⟩) (by assumption) ?_; (try simp only [Act.put, List.setIfInBounds_toArray, List.set_cons_zero, List.set_cons_succ]))
              | (refine takeAt (i := 16) (some 94) (v := ?_) rfl rfl (by kernel_rfl) (by kernel_rfl) (by kernel_rfl) (fun _ _ _ h => h) (Or.inl ⟨by rfl, ?_⟩) (by assumption) ?_; rotate_left; (focus (intro w hSw; (try dsimp only at hSw); go_simp; (try with_reducible rfl))); (try simp only [Act.put, List.setIfInBounds_toArray, List.set_cons_zero, List.set_cons_succ]))
            first
              | (refine takeAt (i := 17) (some 95) (v := undef) rfl rfl (by kernel_rfl) (by kernel_rfl) (by kernel_rfl) (fun _ _ _ h => h) (Or.inr ⟨by rfl, rfl⟩) (by assumption) ?_; (try simp only [Act.put, List.setIfInBounds_toArray, List.set_cons_zero, List.set_cons_succ]))
              | (refine takeAt (i := 17) (some 95) (v := ?_) rfl rfl (by kernel_rfl) (by kernel_rfl) (by kernel_rfl) (fun _ _ _ h => h) (Or.inl ⟨by rfl, ?_⟩) (by assumption) ?_; rotate_left; (focus (intro w hSw; (try dsimp only at hSw); go_simp; (try with_reducible rfl))); (try simp only [Act.put, List.setIfInBounds_toArray, List.set_cons_zero, List.set_cons_succ]))
            first
              | (refine takeAt (i := 18) (some 96) (v := undef) rfl rfl (by kernel_rfl) (by kernel_rfl) (by kernel_rfl) (fun _ _ _ h => h) (Or.inr ⟨by rfl, rfl⟩) (by assumption) ?_; (try simp only [Act.put, List.setIfInBounds_toArray, List.set_cons_zero, List.set_cons_succ]))
              | (refine takeAt (i := 18) (some 96) (v := ?_) rfl rfl (by kernel_rfl) (by kernel_rfl) (by kernel_rfl) (fun _ _ _ h => h) (Or.inl ⟨by rfl, ?_⟩) (by assumption) ?_; rotate_left; (focus (intro w hSw; (try dsimp only at hSw); go_simp; (try with_reducible rfl))); (try simp only [Act.put, List.setIfInBounds_toArray, List.set_cons_zero, List.set_cons_succ]))
            first
              | (refine takeAt (i := 19) (some 97) (v := undef) rfl rfl (by kernel_rfl) (by kernel_rfl) (by kernel_rfl) (fun _ _ _ h => h) (Or.inr ⟨by rfl, rfl⟩) (by assumption) ?_; (try simp only [Act.put, List.setIfInBounds_toArray, List.set_cons_zero, List.set_cons_succ]))
              | (refine takeAt (i := 19) (some 97) (v := ?_) rfl rfl (by kernel_rfl) (by kernel_rfl) (by kernel_rfl) (fun _ _ _ h => h) (Or.inl ⟨by rfl, ?_⟩) (by assumption) ?_; rotate_left; (focus (intro w hSw; (try dsimp only at hSw); go_simp; (try with_reducible rfl))); (try simp only [Act.put, List.setIfInBounds_toArray, List.set_cons_zero, List.set_cons_succ]))
            first
              | (refine takeAt (i := 20) (some 98) (v := undef) rfl rfl (by kernel_rfl) (by kernel_rfl) (by kernel_rfl) (fun _ _ _ h => h) (Or.inr ⟨by rfl, rfl⟩) (by assumption) ?_; (try simp only [Act.put, List.setIfInBounds_toArray, List.set_cons_zero, List.set_cons_succ]))
              | (refine takeAt (i := 20) (some 98) (v := ?_) rfl rfl (by kernel_rfl) (by kernel_rfl) (by kernel_rfl) (fun _ _ _ h => h) (Or.inl ⟨by rfl, ?_⟩) (by assumption) ?_; rotate_left; (focus (intro w hSw; (try dsimp only at hSw); go_simp; (try with_reducible rfl))); (try simp only [Act.put, List.setIfInBounds_toArray, List.set_cons_zero, List.set_cons_succ]))
            first
              | (refine takeAt (i := 21) (some 99) (v := undef) rfl rfl (by kernel_rfl) (by kernel_rfl) (by kernel_rfl) (fun _ _ _ h => h) (Or.inr ⟨by rfl, rfl⟩) (by assumption) ?_; (try simp only [Act.put, List.setIfInBounds_toArray, List.set_cons_zero, List.set_cons_succ]))
              | (refine takeAt (i := 21) (some 99) (v := ?_) rfl rfl (by kernel_rfl) (by kernel_rfl) (by kernel_rfl) (fun _ _ _ h => h) (Or.inl ⟨by rfl, ?_⟩) (by assumption) ?_; rotate_left; (focus (intro w hSw; (try dsimp only at hSw); go_simp; (try with_reducible rfl))); (try simp only [Act.put, List.setIfInBounds_toArray, List.set_cons_zero, List.set_cons_succ]))
            first
              | (refine takeAt (i := 22) (some 100) (v := undef) rfl rfl (by kernel_rfl) (by kernel_rfl) (by kernel_rfl) (fun _ _ _ h => h) (Or.inr ⟨by rfl, rfl⟩) (by assumption) ?_; (try simp only [Act.put, List.setIfInBounds_toArray, List.set_cons_zero, List.set_cons_succ]))
              | (refine takeAt (i := 22) (some 100) (v := ?_) rfl rfl (by kernel_rfl) (by kernel_rfl) (by kernel_rfl) (fun _ _ _ h => h) (Or.inl ⟨by rfl, ?_⟩) (by assumption) ?_; rotate_left; (focus (intro w hSw; (try dsimp only at hSw); go_simp; (try with_reducible rfl))); (try simp only [Act.put, List.setIfInBounds_toArray, List.set_cons_zero, List.set_cons_succ]))
            first
              | (refine takeAt (i := 23) (some 101) (v := undef) rfl rfl (by kernel_rfl) (by kernel_rfl) (by kernel_rfl) (fun _ _ _ h => h) (Or.inr ⟨by rfl, rfl⟩) (by assumption) ?_; (try simp only [Act.put, List.setIfInBounds_toArray, List.set_cons_zero, List.set_cons_succ]))
              | (refine takeAt (i := 23) (some 101) (v := ?_) rfl rfl (by kernel_rfl) (by kernel_rfl) (by kernel_rfl) (fun _ _ _ h => h) (Or.inl ⟨by rfl, ?_⟩) (by assumption) ?_; rotate_left; (focus (intro w hSw; (try dsimp only at hSw); go_simp; (try with_reducible rfl))); (try simp only [Act.put, List.setIfInBounds_toArray, List.set_cons_zero, List.set_cons_succ]))
            first
              | (refine takeAt (i := 24) (some 102) (v := undef) rfl rfl (by kernel_rfl) (by kernel_rfl) (by kernel_rfl) (fun _ _ _ h => h) (Or.inr ⟨by rfl, rfl⟩) (by assumption) ?_; (try simp only [Act.put, List.setIfInBounds_toArray, List.set_cons_zero, List.set_cons_succ]))
              | (refine takeAt (i := 24) (some 102) (v := ?_) rfl rfl (by kernel_rfl) (by kernel_rfl) (by kernel_rfl) (fun _ _ _ h => h) (Or.inl ⟨by rfl, ?_⟩) (by assumption) ?_; rotate_left; (focus (intro w hSw; (try dsimp only at hSw); go_simp; (try with_reducible rfl))); (try simp only [Act.put, List.setIfInBounds_toArray, List.set_cons_zero, List.set_cons_succ]))
            first
              | (refine takeAt (i := 25) (some 103) (v := undef) rfl rfl (by kernel_rfl) (by kernel_rfl) (by kernel_rfl) (fun _ _ _ h => h) (Or.inr ⟨by rfl, rfl⟩) (by assumption) ?_; (try simp only [Act.put, List.setIfInBounds_toArray, List.set_cons_zero, List.set_cons_succ]))
              | (refine takeAt (i := 25) (some 103) (v := ?_) rfl rfl (by kernel_rfl) (by kernel_rfl) (by kernel_rfl) (fun _ _ _ h => h) (Or.inl ⟨by rfl, ?_⟩) (by assumption) ?_; rotate_left; (focus (intro w hSw; (try dsimp only at hSw); go_simp; (try with_reducible rfl))); (try simp only [Act.put, List.setIfInBounds_toArray, List.set_cons_zero, List.set_cons_succ]))
            first
              | (refine takeAt (i := 26) (some 104) (v := undef) rfl rfl (by kernel_rfl) (by kernel_rfl) (by kernel_rfl) (fun _ _ _ h => h) (Or.inr ⟨by rfl, rfl⟩) (by assumption) ?_; (try simp only [Act.put, List.setIfInBounds_toArray, List.set_cons_zero, List.set_cons_succ]))
              | (refine takeAt (i := 26) (some 104) (v := ?_) rfl rfl (by kernel_rfl) (by kernel_rfl) (by kernel_rfl) (fun _ _ _ h => h) (Or.inl ⟨by rfl, ?_⟩) (by assumption) ?_; rotate_left; (focus (intro w hSw; (try dsimp only at hSw); go_simp; (try with_reducible rfl))); (try simp only [Act.put, List.setIfInBounds_toArray, List.set_cons_zero, List.set_cons_succ]))
            first
              | (refine takeAt (i := 27) (some 105) (v := undef) rfl rfl (by kernel_rfl) (by kernel_rfl) (by kernel_rfl) (fun _ _ _ h => h) (Or.inr ⟨by rfl, rfl⟩) (by assumption) ?_; (try simp only [Act.put, List.setIfInBounds_toArray, List.set_cons_zero, List.set_cons_succ]))
              | (refine takeAt (i := 27) (some 105) (v := ?_) rfl rfl (by kernel_rfl) (by kernel_rfl) (by kernel_rfl) (fun _ _ _ h => h) (Or.inl ⟨by rfl, ?_⟩) (by assumption) ?_; rotate_left; (focus (intro w hSw; (try dsimp only at hSw); go_simp; (try with_reducible rfl))); (try simp only [Act.put, List.setIfInBounds_toArray, List.set_cons_zero, List.set_cons_succ]))
            refine wpAnyH_done (by kernel_rfl) ?_ _
            go_wp2
            go_meet
            exact ⟨rfl, Lib.hid ⟨HDS.out, (Below.drew hlow0).trans hlS, hTX.1, hTX.2, HRW.out.kept HKS.out⟩⟩
        | true =>
          unfold takesA at hst
          rw [hkv, Bool.true_and] at hst
          by_cases c0 : vk = 0
          · have d0 : (vk == 0) = true := by simpa using c0
            have hs0 : st = true := by rw [← hst]; simp [c0]
            subst hs0
            clear hst c0
            as_aux_lemma =>
              refine wp_region_held_drew (S := fun w' => w'.cell? ⟨w.heap.size, 0, none⟩ = some (.int .i64 vk) ∧ w'.cell? ⟨w.heap.size, 1, none⟩ = some (.int .u64 vb) ∧ w'.cell? ⟨w.heap.size, 2, none⟩ = some (.int .i64 vl) ∧ w'.cell? ⟨g15, 0, none⟩ = some (.int .i64 4) ∧ w'.cell? ⟨g15, 1, none⟩ = some (.int .u64 ob) ∧ w'.cell? ⟨g15, 2, none⟩ = some (.int .i64 1) ∧ TwoB w' w.heap.size g15 vk vb vl ob) (by kernel_rfl) HTB.out.drew.cells (fun hHeld => ?_)
              first
                | (refine takeAt (i := 0) (some 78) (v := undef) rfl rfl (by kernel_rfl) (by kernel_rfl) (by kernel_rfl) (fun _ _ _ h => h) (Or.inr ⟨by rfl, rfl⟩) (by assumption) ?_; (try simp only [Act.put, List.setIfInBounds_toArray, List.set_cons_zero, List.set_cons_succ]))
                | (refine takeAt (i := 0) (some 78) (v := ?_) rfl rfl (by kernel_rfl) (by kernel_rfl) (by kernel_rfl) (fun _ _ _ h => h) (Or.inl ⟨by rfl, ?_⟩) (by assumption) ?_; rotate_left; (focus (intro w hSw; (try dsimp only at hSw); go_simp; (try with_reducible rfl))); (try simp only [Act.put, List.setIfInBounds_toArray, List.set_cons_zero, List.set_cons_succ]))
              first
                | (refine takeAt (i := 1) (some 79) (v := undef) rfl rfl (by kernel_rfl) (by kernel_rfl) (by kernel_rfl) (fun _ _ _ h => h) (Or.inr ⟨by rfl, rfl⟩) (by assumption) ?_; (try simp only [Act.put, List.setIfInBounds_toArray, List.set_cons_zero, List.set_cons_succ]))
                | (refine takeAt (i := 1) (some 79) (v := ?_) rfl rfl (by kernel_rfl) (by kernel_rfl) (by kernel_rfl) (fun _ _ _ h => h) (Or.inl ⟨by rfl, ?_⟩) (by assumption) ?_; rotate_left; (focus (intro w hSw; (try dsimp only at hSw); go_simp; (try with_reducible rfl))); (try simp only [Act.put, List.setIfInBounds_toArray, List.set_cons_zero, List.set_cons_succ]))
              first
                | (refine takeAt (i := 2) (some 80) (v := undef) rfl rfl (by kernel_rfl) (by kernel_rfl) (by kernel_rfl) (fun _ _ _ h => h) (Or.inr ⟨by rfl, rfl⟩) (by assumption) ?_; (try simp only [Act.put, List.setIfInBounds_toArray, List.set_cons_zero, List.set_cons_succ]))
                | (refine takeAt (i := 2) (some 80) (v := ?_) rfl rfl (by kernel_rfl) (by kernel_rfl) (by kernel_rfl) (fun _ _ _ h => h) (Or.inl ⟨by rfl, ?_⟩) (by assumption) ?_; rotate_left; (focus (intro w hSw; (try dsimp only at hSw); go_simp; (try with_reducible rfl))); (try simp only [Act.put, List.setIfInBounds_toArray, List.set_cons_zero, List.set_cons_succ]))
              first
                | (refine takeAt (i := 3) (some 81) (v := undef) rfl rfl (by kernel_rfl) (by kernel_rfl) (by kernel_rfl) (fun _ _ _ h => h) (Or.inr ⟨by rfl, rfl⟩) (by assumption) ?_; (try simp only [Act.put, List.setIfInBounds_toArray, List.set_cons_zero, List.set_cons_succ]))
                | (refine takeAt (i := 3) (some 81) (v := ?_) rfl rfl (by kernel_rfl) (by kernel_rfl) (by kernel_rfl) (fun _ _ _ h => h) (Or.inl ⟨by rfl, ?_⟩) (by assumption) ?_; rotate_left; (focus (intro w hSw; (try dsimp only at hSw); go_simp; (try with_reducible rfl))); (try simp only [Act.put, List.setIfInBounds_toArray, List.set_cons_zero, List.set_cons_succ]))
              first
                | (refine takeAt (i := 5) (some 83) (v := undef) rfl rfl (by kernel_rfl) (by kernel_rfl) (by kernel_rfl) (fun _ _ _ h => h) (Or.inr ⟨by rfl, rfl⟩) (by assumption) ?_; (try simp only [Act.put, List.setIfInBounds_toArray, List.set_cons_zero, List.set_cons_succ]))
                | (refine takeAt (i := 5) (some 83) (v := ?_) rfl rfl (by kernel_rfl) (by kernel_rfl) (by kernel_rfl) (fun _ _ _ h => h) (Or.inl ⟨by rfl, ?_⟩) (by assumption) ?_; rotate_left; (focus (intro w hSw; (try dsimp only at hSw); go_simp; (try with_reducible rfl))); (try simp only [Act.put, List.setIfInBounds_toArray, List.set_cons_zero, List.set_cons_succ]))
              refine wpAnyH_ready (rs := [4]) (by kernel_rfl) (by simp) ?_
              refine AllReadyH.cons rfl (fun K hK => ?_) AllReadyH.nil
              go_simp
              (go_at_call 17; (with_reducible refine (HSTO.out _ (HM0.out.next (by (repeat' (first | (with_reducible exact Below.refl _ _) | (with_reducible assumption) | (with_reducible refine Below.setCell ?_ ?_ _) | (with_reducible refine Below.alloc ?_ ?_ _) | (with_reducible refine Below.drew ?_) | (with_reducible refine below_drewN ?_ _) | (with_reducible refine below_next ?_ (by with_reducible assumption)) | omega | (dsimp only; omega) | (simp only [World.size_alloc, World.size_setCell, World.size_drew, World.heap_drewN]; omega)))))).mono ?_); rintro e wS ⟨rfl, hkS, hlS, hdS⟩; have HKS := Lib.hid hkS; have HDS := Lib.hid hdS; have hzS := hkS.1; (try simp only [World.size_alloc, World.size_setCell, World.size_drew, World.heap_drewN] at hzS); have hTX := TwoB.keptC hkS (by assumption); clear hkS hdS)
              refine hK.out _ _ hTX.cells (fun hHeld => ?_)
              (try simp only [Act.put, List.setIfInBounds_toArray, List.set_cons_zero, List.set_cons_succ])
              first
                | (refine takeAt (i := 6) (some 84) (v := undef) rfl rfl (by kernel_rfl) (by kernel_rfl) (by kernel_rfl) (fun _ _ _ h => h) (Or.inr ⟨by rfl, rfl⟩) (by assumption) ?_; (try simp only [Act.put, List.setIfInBounds_toArray, List.set_cons_zero, List.set_cons_succ]))
                | (refine takeAt (i := 6) (some 84) (v := ?_) rfl rfl (by kernel_rfl) (by kernel_rfl) (by kernel_rfl) (fun _ _ _ h => h) (Or.inl ⟨by rfl, ?_⟩) (by assumption) ?_; rotate_left; (focus (intro w hSw; (try dsimp only at hSw); go_simp; (try with_reducible rfl))); (try simp only [Act.put, List.setIfInBounds_toArray, List.set_cons_zero, List.set_cons_succ]))
              first
                | (refine takeAt (i := 7) (some 85) (v := undef) rfl rfl (by kernel_rfl) (by kernel_rfl) (by kernel_rfl) (fun _ _ _ h => h) (Or.inr ⟨by rfl, rfl⟩) (by assumption) ?_; (try simp only [Act.put, List.setIfInBounds_toArray, List.set_cons_zero, List.set_cons_succ]))
                | (refine takeAt (i := 7) (some 85) (v := ?_) rfl rfl (by kernel_rfl) (by kernel_rfl) (by kernel_rfl) (fun _ _ _ h => h) (Or.inl ⟨by rfl, ?_⟩) (by assumption) ?_; rotate_left; (focus (intro w hSw; (try dsimp only at hSw); go_simp; (try with_reducible rfl))); (try simp only [Act.put, List.setIfInBounds_toArray, List.set_cons_zero, List.set_cons_succ]))
              first
                | (refine takeAt (i := 8) (some 86) (v := undef) rfl rfl (by kernel_rfl) (by kernel_rfl) (by kernel_rfl) (fun _ _ _ h => h) (Or.inr ⟨by rfl, rfl⟩) (by assumption) ?_; (try simp only [Act.put, List.setIfInBounds_toArray, List.set_cons_zero, List.set_cons_succ]))
                | (refine takeAt (i := 8) (some 86) (v := ?_) rfl rfl (by kernel_rfl) (by kernel_rfl) (by kernel_rfl) (fun _ _ _ h => h) (Or.inl ⟨by rfl, ?_⟩) (by assumption) ?_; rotate_left; (focus (intro w hSw; (try dsimp only at hSw); go_simp; (try with_reducible rfl))); (try simp only [Act.put, List.setIfInBounds_toArray, List.set_cons_zero, List.set_cons_succ]))
              first
                | (refine takeAt (i := 9) (some 87) (v := undef) rfl rfl (by kernel_rfl) (by kernel_rfl) (by kernel_rfl) (fun _ _ _ h => h) (Or.inr ⟨by rfl, rfl⟩) (by assumption) ?_; (try simp only [Act.put, List.setIfInBounds_toArray, List.set_cons_zero, List.set_cons_succ]))
                | (refine takeAt (i := 9) (some 87) (v := ?_) rfl rfl (by kernel_rfl) (by kernel_rfl) (by kernel_rfl) (fun _ _ _ h => h) (Or.inl ⟨by rfl, ?_⟩) (by assumption) ?_; rotate_left; (focus (intro w hSw; (try dsimp only at hSw); go_simp; (try with_reducible rfl))); (try simp only [Act.put, List.setIfInBounds_toArray, List.set_cons_zero, List.set_cons_succ]))
              first
                | (refine takeAt (i := 10) (some 88) (v := undef) rfl rfl (by kernel_rfl) (by kernel_rfl) (by kernel_rfl) (fun _ _ _ h => h) (Or.inr ⟨by rfl, rfl⟩) (by assumption) ?_; (try simp only [Act.put, List.setIfInBounds_toArray, List.set_cons_zero, List.set_cons_succ]))
                | (refine takeAt (i := 10) (some 88) (v := ?_) rfl rfl (by kernel_rfl) (by kernel_rfl) (by kernel_rfl) (fun _ _ _ h => h) (Or.inl ⟨by rfl, ?_⟩) (by assumption) ?_; rotate_left; (focus (intro w hSw; (try dsimp only at hSw); go_simp; (try with_reducible rfl))); (try simp only [Act.put, List.setIfInBounds_toArray, List.set_cons_zero, List.set_cons_succ]))
              first
                | (refine takeAt (i := 11) (some 89) (v := undef) rfl rfl (by kernel_rfl) (by kernel_rfl) (by kernel_rfl) (fun _ _ _ h => h) (Or.inr ⟨by rfl, rfl⟩) (by assumption) ?_; (try simp only [Act.put, List.setIfInBounds_toArray, List.set_cons_zero, List.set_cons_succ]))
                | (refine takeAt (i := 11) (some 89) (v := ?_) rfl rfl (by kernel_rfl) (by kernel_rfl) (by kernel_rfl) (fun _ _ _ h => h) (Or.inl ⟨by rfl, ?_⟩) (by assumption) ?_; rotate_left; (focus (intro w hSw; (try dsimp only at hSw); go_simp; (try with_reducible rfl))); (try simp only [Act.put, List.setIfInBounds_toArray, List.set_cons_zero, List.set_cons_succ]))
              first
                | (refine takeAt (i := 12) (some 90) (v := undef) rfl rfl (by kernel_rfl) (by kernel_rfl) (by kernel_rfl) (fun _ _ _ h => h) (Or.inr ⟨by rfl, rfl⟩) (by assumption) ?_; (try simp only [Act.put, List.setIfInBounds_toArray, List.set_cons_zero, List.set_cons_succ]))
                | (refine takeAt (i := 12) (some 90) (v := ?_) rfl rfl (by kernel_rfl) (by kernel_rfl) (by kernel_rfl) (fun _ _ _ h => h) (Or.inl ⟨by rfl, ?_⟩) (by assumption) ?_; rotate_left; (focus (intro w hSw; (try dsimp only at hSw); go_simp; (try with_reducible rfl))); (try simp only [Act.put, List.setIfInBounds_toArray, List.set_cons_zero, List.set_cons_succ]))
              first
                | (refine takeAt (i := 13) (some 91) (v := undef) rfl rfl (by kernel_rfl) (by kernel_rfl) (by kernel_rfl) (fun _ _ _ h => h) (Or.inr ⟨by rfl, rfl⟩) (by assumption) ?_; (try simp only [Act.put, List.setIfInBounds_toArray, List.set_cons_zero, List.set_cons_succ]))
                | (refine takeAt (i := 13) (some 91) (v := ?_) rfl rfl (by kernel_rfl) (by kernel_rfl) (by kernel_rfl) (fun _ _ _ h => h) (Or.inl ⟨by rfl, ?_⟩) (by assumption) ?_; rotate_left; (focus (intro w hSw; (try dsimp only at hSw); go_simp; (try with_reducible rfl))); (try simp only [Act.put, List.setIfInBounds_toArray, List.set_cons_zero, List.set_cons_succ]))
              first
                | (refine takeAt (i := 14) (some 92) (v := undef) rfl rfl (by kernel_rfl) (by kernel_rfl) (by kernel_rfl) (fun _ _ _ h => h) (Or.inr ⟨by rfl, rfl⟩) (by assumption) ?_; (try simp only [Act.put, List.setIfInBounds_toArray, List.set_cons_zero, List.set_cons_succ]))
                | (refine wpAnyH_ready (rs := [14]) (by kernel_rfl) (by simp) ?_; refine AllReadyH.cons rfl (fun K hK => ?_) AllReadyH.nil; (try go_simp); (go_at_call 26; (with_reducible refine (HKV.out _).mono ?_); rintro e wq ⟨rfl, rfl⟩); refine hK.out _ _ hTX.cells (fun hHeld => ?_); (try simp only [Act.put, List.setIfInBounds_toArray, List.set_cons_zero, List.set_cons_succ]))
              first
                | (refine takeAt (i := 15) (some 93) (v := undef) rfl rfl (by kernel_rfl) (by kernel_rfl) (by kernel_rfl) (fun _ _ _ h => h) (Or.inr ⟨by rfl, rfl⟩) (by assumption) ?_; (try simp only [Act.put, List.setIfInBounds_toArray, List.set_cons_zero, List.set_cons_succ]))
                | (refine takeAt (i := 15) (some 93) (v := ?_) rfl rfl (by kernel_rfl) (by kernel_rfl) (by kernel_rfl) (fun _ _ _ h => h) (Or.inl ⟨by rfl, ?_⟩) (by assumption) ?_; rotate_left; (focus (intro w hSw; (try dsimp only at hSw); go_simp; (try with_reducible rfl))); (try simp only [Act.put, List.setIfInBounds_toArray, List.set_cons_zero, List.set_cons_succ]))
              first
                | (refine takeAt (i := 16) (some 94) (v := undef) rfl rfl (by kernel_rfl) (by kernel_rfl) (by kernel_rfl) (fun _ _ _ h => h) (Or.inr ⟨by rfl, rfl⟩) (by assumption) ?_; (try simp only [Act.put, List.setIfInBounds_toArray, List.set_cons_zero, List.set_cons_succ]))
                | (refine takeAt (i := 16) (some 94) (v := ?_) rfl rfl (by kernel_rfl) (by kernel_rfl) (by kernel_rfl) (fun _ _ _ h => h) (Or.inl ⟨by rfl, ?_⟩) (by assumption) ?_; rotate_left; (focus (intro w hSw; (try dsimp only at hSw); go_simp; (try with_reducible rfl))); (try simp only [Act.put, List.setIfInBounds_toArray, List.set_cons_zero, List.set_cons_succ]))
              first
                | (refine takeAt (i := 17) (some 95) (v := undef) rfl rfl (by kernel_rfl) (by kernel_rfl) (by kernel_rfl) (fun _ _ _ h => h) (Or.inr ⟨by rfl, rfl⟩) (by assumption) ?_; (try simp only [Act.put, List.setIfInBounds_toArray, List.set_cons_zero, List.set_cons_succ]))
                | (refine takeAt (i := 17) (some 95) (v := ?_) rfl rfl (by kernel_rfl) (by kernel_rfl) (by kernel_rfl) (fun _ _ _ h => h) (Or.inl ⟨by rfl, ?_⟩) (by assumption) ?_; rotate_left; (focus (intro w hSw; (try dsimp only at hSw); go_simp; (try with_reducible rfl))); (try simp only [Act.put, List.setIfInBounds_toArray, List.set_cons_zero, List.set_cons_succ]))
              first
                | (refine takeAt (i := 18) (some 96) (v := undef) rfl rfl (by kernel_rfl) (by kernel_rfl) (by kernel_rfl) (fun _ _ _ h => h) (Or.inr ⟨by rfl, rfl⟩) (by assumption) ?_; (try simp only [Act.put, List.setIfInBounds_toArray, List.set_cons_zero, List.set_cons_succ]))
                | (refine takeAt (i := 18) (some 96) (v := ?_) rfl rfl (by kernel_rfl) (by kernel_rfl) (by kernel_rfl) (fun _ _ _ h => h) (Or.inl ⟨by rfl, ?_⟩) (by assumption) ?_; rotate_left; (focus (intro w hSw; (try dsimp only at hSw); go_simp; (try with_reducible rfl))); (try simp only [Act.put, List.setIfInBounds_toArray, List.set_cons_zero, List.set_cons_succ]))
              first
                | (refine takeAt (i := 19) (some 97) (v := undef) rfl rfl (by kernel_rfl) (by kernel_rfl) (by kernel_rfl) (fun _ _ _ h => h) (Or.inr ⟨by rfl, rfl⟩) (by assumption) ?_; (try simp only [Act.put, List.setIfInBounds_toArray, List.set_cons_zero, List.set_cons_succ]))
                | (refine takeAt (i := 19) (some 97) (v := ?_) rfl rfl (by kernel_rfl) (by kernel_rfl) (by kernel_rfl) (fun _ _ _ h => h) (Or.inl ⟨by rfl, ?_⟩) (by assumption) ?_; rotate_left; (focus (intro w hSw; (try dsimp only at hSw); go_simp; (try with_reducible rfl))); (try simp only [Act.put, List.setIfInBounds_toArray, List.set_cons_zero, List.set_cons_succ]))
              first
                | (refine takeAt (i := 20) (some 98) (v := undef) rfl rfl (by kernel_rfl) (by kernel_rfl) (by kernel_rfl) (fun _ _ _ h => h) (Or.inr ⟨by rfl, rfl⟩) (by assumption) ?_; (try simp only [Act.put, List.setIfInBounds_toArray, List.set_cons_zero, List.set_cons_succ]))
                | (refine takeAt (i := 20) (some 98) (v := ?_) rfl rfl (by kernel_rfl) (by kernel_rfl) (by kernel_rfl) (fun _ _ _ h => h) (Or.inl ⟨by rfl, ?_⟩) (by assumption) ?_; rotate_left; (focus (intro w hSw; (try dsimp only at hSw); go_simp; (try with_reducible rfl))); (try simp only [Act.put, List.setIfInBounds_toArray, List.set_cons_zero, List.set_cons_succ]))
              first
                | (refine takeAt (i := 21) (some 99) (v := undef) rfl rfl (by kernel_rfl) (by kernel_rfl) (by kernel_rfl) (fun _ _ _ h => h) (Or.inr ⟨by rfl, rfl⟩) (by assumption) ?_; (try simp only [Act.put, List.setIfInBounds_toArray, List.set_cons_zero, List.set_cons_succ]))
                | (refine takeAt (i := 21) (some 99) (v := ?_) rfl rfl (by kernel_rfl) (by kernel_rfl) (by kernel_rfl) (fun _ _ _ h => h) (Or.inl ⟨by rfl, ?_⟩) (by assumption) ?_; rotate_left; (focus (intro w hSw; (try dsimp only at hSw); go_simp; (try with_reducible rfl))); (try simp only [Act.put, List.setIfInBounds_toArray, List.set_cons_zero, List.set_cons_succ]))
              first
                | (refine takeAt (i := 22) (some 100) (v := undef) rfl rfl (by kernel_rfl) (by kernel_rfl) (by kernel_rfl) (fun _ _ _ h => h) (Or.inr ⟨by rfl, rfl⟩) (by assumption) ?_; (try simp only [Act.put, List.setIfInBounds_toArray, List.set_cons_zero, List.set_cons_succ]))
                | (refine takeAt (i := 22) (some 100) (v := ?_) rfl rfl (by kernel_rfl) (by kernel_rfl) (by kernel_rfl) (fun _ _ _ h => h) (Or.inl ⟨by rfl, ?_⟩) (by assumption) ?_; rotate_left; (focus (intro w hSw; (try dsimp only at hSw); go_simp; (try with_reducible rfl))); (try simp only [Act.put, List.setIfInBounds_toArray, List.set_cons_zero, List.set_cons_succ]))
              first
                | (refine takeAt (i := 23) (some 101) (v := undef) rfl rfl (by kernel_rfl) (by kernel_rfl) (by kernel_rfl) (fun _ _ _ h => h) (Or.inr ⟨by rfl, rfl⟩) (by assumption) ?_; (try simp only [Act.put, List.setIfInBounds_toArray, List.set_cons_zero, List.set_cons_succ]))
                | (refine takeAt (i := 23) (some 101) (v := ?_) rfl rfl (by kernel_rfl) (by kernel_rfl) (by kernel_rfl) (fun _ _ _ h => h) (Or.inl ⟨by rfl, ?_⟩) (by assumption) ?_; rotate_left; (focus (intro w hSw; (try dsimp only at hSw); go_simp; (try with_reducible rfl))); (try simp only [Act.put, List.setIfInBounds_toArray, List.set_cons_zero, List.set_cons_succ]))
              first
                | (refine takeAt (i := 24) (some 102) (v := undef) rfl rfl (by kernel_rfl) (by kernel_rfl) (by kernel_rfl) (fun _ _ _ h => h) (Or.inr ⟨by rfl, rfl⟩) (by assumption) ?_; (try simp only [Act.put, List.setIfInBounds_toArray, List.set_cons_zero, List.set_cons_succ]))
                | (refine takeAt (i := 24) (some 102) (v := ?_) rfl rfl (by kernel_rfl) (by kernel_rfl) (by kernel_rfl) (fun _ _ _ h => h) (Or.inl ⟨by rfl, ?_⟩) (by assumption) ?_; rotate_left; (focus (intro w hSw; (try dsimp only at hSw); go_simp; (try with_reducible rfl))); (try simp only [Act.put, List.setIfInBounds_toArray, List.set_cons_zero, List.set_cons_succ]))
              first
                | (refine takeAt (i := 25) (some 103) (v := undef) rfl rfl (by kernel_rfl) (by kernel_rfl) (by kernel_rfl) (fun _ _ _ h => h) (Or.inr ⟨by rfl, rfl⟩) (by assumption) ?_; (try simp only [Act.put, List.setIfInBounds_toArray, List.set_cons_zero, List.set_cons_succ]))
                | (refine takeAt (i := 25) (some 103) (v := ?_) rfl rfl (by kernel_rfl) (by kernel_rfl) (by kernel_rfl) (fun _ _ _ h => h) (Or.inl ⟨by rfl, ?_⟩) (by assumption) ?_; rotate_left; (focus (intro w hSw; (try dsimp only at hSw); go_simp; (try with_reducible rfl))); (try simp only [Act.put, List.setIfInBounds_toArray, List.set_cons_zero, List.set_cons_succ]))
              first
                | (refine takeAt (i := 26) (some 104) (v := undef) rfl rfl (by kernel_rfl) (by kernel_rfl) (by kernel_rfl) (fun _ _ _ h => h) (Or.inr ⟨by rfl, rfl⟩) (by assumption) ?_; (try simp only [Act.put, List.setIfInBounds_toArray, List.set_cons_zero, List.set_cons_succ]))
                | (refine takeAt (i := 26) (some 104) (v := ?_) rfl rfl (by kernel_rfl) (by kernel_rfl) (by kernel_rfl) (fun _ _ _ h => h) (Or.inl ⟨by rfl, ?_⟩) (by assumption) ?_; rotate_left; (focus (intro w hSw; (try dsimp only at hSw); go_simp; (try with_reducible rfl))); (try simp only [Act.put, List.setIfInBounds_toArray, List.set_cons_zero, List.set_cons_succ]))
              first
                | (refine takeAt (i := 27) (some 105) (v := undef) rfl rfl (by kernel_rfl) (by kernel_rfl) (by kernel_rfl) (fun _ _ _ h => h) (Or.inr ⟨by rfl, rfl⟩) (by assumption) ?_; (try simp only [Act.put, List.setIfInBounds_toArray, List.set_cons_zero, List.set_cons_succ]))
                | (refine takeAt (i := 27) (some 105) (v := ?_) rfl rfl (by kernel_rfl) (by kernel_rfl) (by kernel_rfl) (fun _ _ _ h => h) (Or.inl ⟨by rfl, ?_⟩) (by assumption) ?_; rotate_left; (focus (intro w hSw; (try dsimp only at hSw); go_simp; (try with_reducible rfl))); (try simp only [Act.put, List.setIfInBounds_toArray, List.set_cons_zero, List.set_cons_succ]))
              refine wpAnyH_done (by kernel_rfl) ?_ _
              go_wp2
              go_meet
              exact ⟨rfl, Lib.hid ⟨HDS.out, (Below.drew hlow0).trans hlS, hTX.1, hTX.2, HRW.out.kept HKS.out⟩⟩
          · have d0 : (vk == 0) = false := by simpa using c0
            by_cases c1 : vk = kv
            · have d1 : (vk == kv) = true := by simpa using c1
              have hs0 : st = true := by rw [← hst]; simp [c1]
              subst hs0
              clear hst c0 c1
              as_aux_lemma =>
                refine wp_region_held_drew (S := fun w' => w'.cell? ⟨w.heap.size, 0, none⟩ = some (.int .i64 vk) ∧ w'.cell? ⟨w.heap.size, 1, none⟩ = some (.int .u64 vb) ∧ w'.cell? ⟨w.heap.size, 2, none⟩ = some (.int .i64 vl) ∧ w'.cell? ⟨g15, 0, none⟩ = some (.int .i64 4) ∧ w'.cell? ⟨g15, 1, none⟩ = some (.int .u64 ob) ∧ w'.cell? ⟨g15, 2, none⟩ = some (.int .i64 1) ∧ TwoB w' w.heap.size g15 vk vb vl ob) (by kernel_rfl) HTB.out.drew.cells (fun hHeld => ?_)
                first
                  | (refine takeAt (i := 0) (some 78) (v := undef) rfl rfl (by kernel_rfl) (by kernel_rfl) (by kernel_rfl) (fun _ _ _ h => h) (Or.inr ⟨by rfl, rfl⟩) (by assumption) ?_; (try simp only [Act.put, List.setIfInBounds_toArray, List.set_cons_zero, List.set_cons_succ]))
                  | (refine takeAt (i := 0) (some 78) (v := ?_) rfl rfl (by kernel_rfl) (by kernel_rfl) (by kernel_rfl) (fun _ _ _ h => h) (Or.inl ⟨by rfl, ?_⟩) (by assumption) ?_; rotate_left; (focus (intro w hSw; (try dsimp only at hSw); go_simp; (try with_reducible rfl))); (try simp only [Act.put, List.setIfInBounds_toArray, List.set_cons_zero, List.set_cons_succ]))
                first
                  | (refine takeAt (i := 1) (some 79) (v := undef) rfl rfl (by kernel_rfl) (by kernel_rfl) (by kernel_rfl) (fun _ _ _ h => h) (Or.inr ⟨by rfl, rfl⟩) (by assumption) ?_; (try simp only [Act.put, List.setIfInBounds_toArray, List.set_cons_zero, List.set_cons_succ]))
                  | (refine takeAt (i := 1) (some 79) (v := ?_) rfl rfl (by kernel_rfl) (by kernel_rfl) (by kernel_rfl) (fun _ _ _ h => h) (Or.inl ⟨by rfl, ?_⟩) (by assumption) ?_; rotate_left; (focus (intro w hSw; (try dsimp only at hSw); go_simp; (try with_reducible rfl))); (try simp only [Act.put, List.setIfInBounds_toArray, List.set_cons_zero, List.set_cons_succ]))
                first
                  | (refine takeAt (i := 2) (some 80) (v := undef) rfl rfl (by kernel_rfl) (by kernel_rfl) (by kernel_rfl) (fun _ _ _ h => h) (Or.inr ⟨by rfl, rfl⟩) (by assumption) ?_; (try simp only [Act.put, List.setIfInBounds_toArray, List.set_cons_zero, List.set_cons_succ]))
                  | (refine takeAt (i := 2) (some 80) (v := ?_) rfl rfl (by kernel_rfl) (by kernel_rfl) (by kernel_rfl) (fun _ _ _ h => h) (Or.inl ⟨by rfl, ?_⟩) (by assumption) ?_; rotate_left; (focus (intro w hSw; (try dsimp only at hSw); go_simp; (try with_reducible rfl))); (try simp only [Act.put, List.setIfInBounds_toArray, List.set_cons_zero, List.set_cons_succ]))
                first
                  | (refine takeAt (i := 3) (some 81) (v := undef) rfl rfl (by kernel_rfl) (by kernel_rfl) (by kernel_rfl) (fun _ _ _ h => h) (Or.inr ⟨by rfl, rfl⟩) (by assumption) ?_; (try simp only [Act.put, List.setIfInBounds_toArray, List.set_cons_zero, List.set_cons_succ]))
                  | (refine takeAt (i := 3) (some 81) (v := ?_) rfl rfl (by kernel_rfl) (by kernel_rfl) (by kernel_rfl) (fun _ _ _ h => h) (Or.inl ⟨by rfl, ?_⟩) (by assumption) ?_; rotate_left; (focus (intro w hSw; (try dsimp only at hSw); go_simp; (try with_reducible rfl))); (try simp only [Act.put, List.setIfInBounds_toArray, List.set_cons_zero, List.set_cons_succ]))
                first
                  | (refine takeAt (i := 5) (some 83) (v := undef) rfl rfl (by kernel_rfl) (by kernel_rfl) (by kernel_rfl) (fun _ _ _ h => h) (Or.inr ⟨by rfl, rfl⟩) (by assumption) ?_; (try simp only [Act.put, List.setIfInBounds_toArray, List.set_cons_zero, List.set_cons_succ]))
                  | (refine takeAt (i := 5) (some 83) (v := ?_) rfl rfl (by kernel_rfl) (by kernel_rfl) (by kernel_rfl) (fun _ _ _ h => h) (Or.inl ⟨by rfl, ?_⟩) (by assumption) ?_; rotate_left; (focus (intro w hSw; (try dsimp only at hSw); go_simp; (try with_reducible rfl))); (try simp only [Act.put, List.setIfInBounds_toArray, List.set_cons_zero, List.set_cons_succ]))
                refine wpAnyH_ready (rs := [4]) (by kernel_rfl) (by simp) ?_
                refine AllReadyH.cons rfl (fun K hK => ?_) AllReadyH.nil
                go_simp
                (go_at_call 17; (with_reducible refine (HSTO.out _ (HM0.out.next (by (repeat' (first | (with_reducible exact Below.refl _ _) | (with_reducible assumption) | (with_reducible refine Below.setCell ?_ ?_ _) | (with_reducible refine Below.alloc ?_ ?_ _) | (with_reducible refine Below.drew ?_) | (with_reducible refine below_drewN ?_ _) | (with_reducible refine below_next ?_ (by with_reducible assumption)) | omega | (dsimp only; omega) | (simp only [World.size_alloc, World.size_setCell, World.size_drew, World.heap_drewN]; omega)))))).mono ?_); rintro e wS ⟨rfl, hkS, hlS, hdS⟩; have HKS := Lib.hid hkS; have HDS := Lib.hid hdS; have hzS := hkS.1; (try simp only [World.size_alloc, World.size_setCell, World.size_drew, World.heap_drewN] at hzS); have hTX := TwoB.keptC hkS (by assumption); clear hkS hdS)
                refine hK.out _ _ hTX.cells (fun hHeld => ?_)
                (try simp only [Act.put, List.setIfInBounds_toArray, List.set_cons_zero, List.set_cons_succ])
                first
                  | (refine takeAt (i := 6) (some 84) (v := undef) rfl rfl (by kernel_rfl) (by kernel_rfl) (by kernel_rfl) (fun _ _ _ h => h) (Or.inr ⟨by rfl, rfl⟩) (by assumption) ?_; (try simp only [Act.put, List.setIfInBounds_toArray, List.set_cons_zero, List.set_cons_succ]))
                  | (refine takeAt (i := 6) (some 84) (v := ?_) rfl rfl (by kernel_rfl) (by kernel_rfl) (by kernel_rfl) (fun _ _ _ h => h) (Or.inl ⟨by rfl, ?_⟩) (by assumption) ?_; rotate_left; (focus (intro w hSw; (try dsimp only at hSw); go_simp; (try with_reducible rfl))); (try simp only [Act.put, List.setIfInBounds_toArray, List.set_cons_zero, List.set_cons_succ]))
                first
                  | (refine takeAt (i := 7) (some 85) (v := undef) rfl rfl (by kernel_rfl) (by kernel_rfl) (by kernel_rfl) (fun _ _ _ h => h) (Or.inr ⟨by rfl, rfl⟩) (by assumption) ?_; (try simp only [Act.put, List.setIfInBounds_toArray, List.set_cons_zero, List.set_cons_succ]))
                  | (refine takeAt (i := 7) (some 85) (v := ?_) rfl rfl (by kernel_rfl) (by kernel_rfl) (by kernel_rfl) (fun _ _ _ h => h) (Or.inl ⟨by rfl, ?_⟩) (by assumption) ?_; rotate_left; (focus (intro w hSw; (try dsimp only at hSw); go_simp; (try with_reducible rfl))); (try simp only [Act.put, List.setIfInBounds_toArray, List.set_cons_zero, List.set_cons_succ]))
                first
                  | (refine takeAt (i := 8) (some 86) (v := undef) rfl rfl (by kernel_rfl) (by kernel_rfl) (by kernel_rfl) (fun _ _ _ h => h) (Or.inr ⟨by rfl, rfl⟩) (by assumption) ?_; (try simp only [Act.put, List.setIfInBounds_toArray, List.set_cons_zero, List.set_cons_succ]))
                  | (refine takeAt (i := 8) (some 86) (v := ?_) rfl rfl (by kernel_rfl) (by kernel_rfl) (by kernel_rfl) (fun _ _ _ h => h) (Or.inl ⟨by rfl, ?_⟩) (by assumption) ?_; rotate_left; (focus (intro w hSw; (try dsimp only at hSw); go_simp; (try with_reducible rfl))); (try simp only [Act.put, List.setIfInBounds_toArray, List.set_cons_zero, List.set_cons_succ]))
                first
                  | (refine takeAt (i := 9) (some 87) (v := undef) rfl rfl (by kernel_rfl) (by kernel_rfl) (by kernel_rfl) (fun _ _ _ h => h) (Or.inr ⟨by rfl, rfl⟩) (by assumption) ?_; (try simp only [Act.put, List.setIfInBounds_toArray, List.set_cons_zero, List.set_cons_succ]))
                  | (refine takeAt (i := 9) (some 87) (v := ?_) rfl rfl (by kernel_rfl) (by kernel_rfl) (by kernel_rfl) (fun _ _ _ h => h) (Or.inl ⟨by rfl, ?_⟩) (by assumption) ?_; rotate_left; (focus (intro w hSw; (try dsimp only at hSw); go_simp; (try with_reducible rfl))); (try simp only [Act.put, List.setIfInBounds_toArray, List.set_cons_zero, List.set_cons_succ]))
                first
                  | (refine takeAt (i := 10) (some 88) (v := undef) rfl rfl (by kernel_rfl) (by kernel_rfl) (by kernel_rfl) (fun _ _ _ h => h) (Or.inr ⟨by rfl, rfl⟩) (by assumption) ?_; (try simp only [Act.put, List.setIfInBounds_toArray, List.set_cons_zero, List.set_cons_succ]))
                  | (refine takeAt (i := 10) (some 88) (v := ?_) rfl rfl (by kernel_rfl) (by kernel_rfl) (by kernel_rfl) (fun _ _ _ h => h) (Or.inl ⟨by rfl, ?_⟩) (by assumption) ?_; rotate_left; (focus (intro w hSw; (try dsimp only at hSw); go_simp; (try with_reducible rfl))); (try simp only [Act.put, List.setIfInBounds_toArray, List.set_cons_zero, List.set_cons_succ]))
                first
                  | (refine takeAt (i := 11) (some 89) (v := undef) rfl rfl (by kernel_rfl) (by kernel_rfl) (by kernel_rfl) (fun _ _ _ h => h) (Or.inr ⟨by rfl, rfl⟩) (by assumption) ?_; (try simp only [Act.put, List.setIfInBounds_toArray, List.set_cons_zero, List.set_cons_succ]))
                  | (refine takeAt (i := 11) (some 89) (v := ?_) rfl rfl (by kernel_rfl) (by kernel_rfl) (by kernel_rfl) (fun _ _ _ h => h) (Or.inl ⟨by rfl, ?_⟩) (by assumption) ?_; rotate_left; (focus (intro w hSw; (try dsimp only at hSw); go_simp; (try with_reducible rfl))); (try simp only [Act.put, List.setIfInBounds_toArray, List.set_cons_zero, List.set_cons_succ]))
                first
                  | (refine takeAt (i := 12) (some 90) (v := undef) rfl rfl (by kernel_rfl) (by kernel_rfl) (by kernel_rfl) (fun _ _ _ h => h) (Or.inr ⟨by rfl, rfl⟩) (by assumption) ?_; (try simp only [Act.put, List.setIfInBounds_toArray, List.set_cons_zero, List.set_cons_succ]))
                  | (refine takeAt (i := 12) (some 90) (v := ?_) rfl rfl (by kernel_rfl) (by kernel_rfl) (by kernel_rfl) (fun _ _ _ h => h) (Or.inl ⟨by rfl, ?_⟩) (by assumption) ?_; rotate_left; (focus (intro w hSw; (try dsimp only at hSw); go_simp; (try with_reducible rfl))); (try simp only [Act.put, List.setIfInBounds_toArray, List.set_cons_zero, List.set_cons_succ]))
                first
                  | (refine takeAt (i := 13) (some 91) (v := undef) rfl rfl (by kernel_rfl) (by kernel_rfl) (by kernel_rfl) (fun _ _ _ h => h) (Or.inr ⟨by rfl, rfl⟩) (by assumption) ?_; (try simp only [Act.put, List.setIfInBounds_toArray, List.set_cons_zero, List.set_cons_succ]))
                  | (refine takeAt (i := 13) (some 91) (v := ?_) rfl rfl (by kernel_rfl) (by kernel_rfl) (by kernel_rfl) (fun _ _ _ h => h) (Or.inl ⟨by rfl, ?_⟩) (by assumption) ?_; rotate_left; (focus (intro w hSw; (try dsimp only at hSw); go_simp; (try with_reducible rfl))); (try simp only [Act.put, List.setIfInBounds_toArray, List.set_cons_zero, List.set_cons_succ]))
                first
                  | (refine takeAt (i := 14) (some 92) (v := undef) rfl rfl (by kernel_rfl) (by kernel_rfl) (by kernel_rfl) (fun _ _ _ h => h) (Or.inr ⟨by rfl, rfl⟩) (by assumption) ?_; (try simp only [Act.put, List.setIfInBounds_toArray, List.set_cons_zero, List.set_cons_succ]))
                  | (refine wpAnyH_ready (rs := [14]) (by kernel_rfl) (by simp) ?_; refine AllReadyH.cons rfl (fun K hK => ?_) AllReadyH.nil; (try go_simp); (go_at_call 26; (with_reducible refine (HKV.out _).mono ?_); rintro e wq ⟨rfl, rfl⟩); refine hK.out _ _ hTX.cells (fun hHeld => ?_); (try simp only [Act.put, List.setIfInBounds_toArray, List.set_cons_zero, List.set_cons_succ]))
                first
                  | (refine takeAt (i := 15) (some 93) (v := undef) rfl rfl (by kernel_rfl) (by kernel_rfl) (by kernel_rfl) (fun _ _ _ h => h) (Or.inr ⟨by rfl, rfl⟩) (by assumption) ?_; (try simp only [Act.put, List.setIfInBounds_toArray, List.set_cons_zero, List.set_cons_succ]))
                  | (refine takeAt (i := 15) (some 93) (v := ?_) rfl rfl (by kernel_rfl) (by kernel_rfl) (by kernel_rfl) (fun _ _ _ h => h) (Or.inl ⟨by rfl, ?_⟩) (by assumption) ?_; rotate_left; (focus (intro w hSw; (try dsimp only at hSw); go_simp; (try with_reducible rfl))); (try simp only [Act.put, List.setIfInBounds_toArray, List.set_cons_zero, List.set_cons_succ]))
                first
                  | (refine takeAt (i := 16) (some 94) (v := undef) rfl rfl (by kernel_rfl) (by kernel_rfl) (by kernel_rfl) (fun _ _ _ h => h) (Or.inr ⟨by rfl, rfl⟩) (by assumption) ?_; (try simp only [Act.put, List.setIfInBounds_toArray, List.set_cons_zero, List.set_cons_succ]))
                  | (refine takeAt (i := 16) (some 94) (v := ?_) rfl rfl (by kernel_rfl) (by kernel_rfl) (by kernel_rfl) (fun _ _ _ h => h) (Or.inl ⟨by rfl, ?_⟩) (by assumption) ?_; rotate_left; (focus (intro w hSw; (try dsimp only at hSw); go_simp; (try with_reducible rfl))); (try simp only [Act.put, List.setIfInBounds_toArray, List.set_cons_zero, List.set_cons_succ]))
                first
                  | (refine takeAt (i := 17) (some 95) (v := undef) rfl rfl (by kernel_rfl) (by kernel_rfl) (by kernel_rfl) (fun _ _ _ h => h) (Or.inr ⟨by rfl, rfl⟩) (by assumption) ?_; (try simp only [Act.put, List.setIfInBounds_toArray, List.set_cons_zero, List.set_cons_succ]))
                  | (refine takeAt (i := 17) (some 95) (v := ?_) rfl rfl (by kernel_rfl) (by kernel_rfl) (by kernel_rfl) (fun _ _ _ h => h) (Or.inl ⟨by rfl, ?_⟩) (by assumption) ?_; rotate_left; (focus (intro w hSw; (try dsimp only at hSw); go_simp; (try with_reducible rfl))); (try simp only [Act.put, List.setIfInBounds_toArray, List.set_cons_zero, List.set_cons_succ]))
                first
                  | (refine takeAt (i := 18) (some 96) (v := undef) rfl rfl (by kernel_rfl) (by kernel_rfl) (by kernel_rfl) (fun _ _ _ h => h) (Or.inr ⟨by rfl, rfl⟩) (by assumption) ?_; (try simp only [Act.put, List.setIfInBounds_toArray, List.set_cons_zero, List.set_cons_succ]))
                  | (refine takeAt (i := 18) (some 96) (v := ?_) rfl rfl (by kernel_rfl) (by kernel_rfl) (by kernel_rfl) (fun _ _ _ h => h) (Or.inl ⟨by rfl, ?_⟩) (by assumption) ?_; rotate_left; (focus (intro w hSw; (try dsimp only at hSw); go_simp; (try with_reducible rfl))); (try simp only [Act.put, List.setIfInBounds_toArray, List.set_cons_zero, List.set_cons_succ]))
                first
                  | (refine takeAt (i := 19) (some 97) (v := undef) rfl rfl (by kernel_rfl) (by kernel_rfl) (by kernel_rfl) (fun _ _ _ h => h) (Or.inr ⟨by rfl, rfl⟩) (by assumption) ?_; (try simp only [Act.put, List.setIfInBounds_toArray, List.set_cons_zero, List.set_cons_succ]))
                  | (refine takeAt (i := 19) (some 97) (v := ?_) rfl rfl (by kernel_rfl) (by kernel_rfl) (by kernel_rfl) (fun _ _ _ h => h) (Or.inl ⟨by rfl, ?_⟩) (by assumption) ?_; rotate_left; (focus (intro w hSw; (try dsimp only at hSw); go_simp; (try with_reducible rfl))); (try simp only [Act.put, List.setIfInBounds_toArray, List.set_cons_zero, List.set_cons_succ]))
                first
                  | (refine takeAt (i := 20) (some 98) (v := undef) rfl rfl (by kernel_rfl) (by kernel_rfl) (by kernel_rfl) (fun _ _ _ h => h) (Or.inr ⟨by rfl, rfl⟩) (by assumption) ?_; (try simp only [Act.put, List.setIfInBounds_toArray, List.set_cons_zero, List.set_cons_succ]))
                  | (refine takeAt (i := 20) (some 98) (v := ?_) rfl rfl (by kernel_rfl) (by kernel_rfl) (by kernel_rfl) (fun _ _ _ h => h) (Or.inl ⟨by rfl, ?_⟩) (by assumption) ?_; rotate_left; (focus (intro w hSw; (try dsimp only at hSw); go_simp; (try with_reducible rfl))); (try simp only [Act.put, List.setIfInBounds_toArray, List.set_cons_zero, List.set_cons_succ]))
                first
                  | (refine takeAt (i := 21) (some 99) (v := undef) rfl rfl (by kernel_rfl) (by kernel_rfl) (by kernel_rfl) (fun _ _ _ h => h) (Or.inr ⟨by rfl, rfl⟩) (by assumption) ?_; (try simp only [Act.put, List.setIfInBounds_toArray, List.set_cons_zero, List.set_cons_succ]))
                  | (refine takeAt (i := 21) (some 99) (v := ?_) rfl rfl (by kernel_rfl) (by kernel_rfl) (by kernel_rfl) (fun _ _ _ h => h) (Or.inl ⟨by rfl, ?_⟩) (by assumption) ?_; rotate_left; (focus (intro w hSw; (try dsimp only at hSw); go_simp; (try with_reducible rfl))); (try simp only [Act.put, List.setIfInBounds_toArray, List.set_cons_zero, List.set_cons_succ]))
                first
                  | (refine takeAt (i := 22) (some 100) (v := undef) rfl rfl (by kernel_rfl) (by kernel_rfl) (by kernel_rfl) (fun _ _ _ h => h) (Or.inr ⟨by rfl, rfl⟩) (by assumption) ?_; (try simp only [Act.put, List.setIfInBounds_toArray, List.set_cons_zero, List.set_cons_succ]))
                  | (refine takeAt (i := 22) (some 100) (v := ?_) rfl rfl (by kernel_rfl) (by kernel_rfl) (by kernel_rfl) (fun _ _ _ h => h) (Or.inl ⟨by rfl, ?_⟩) (by assumption) ?_; rotate_left; (focus (intro w hSw; (try dsimp only at hSw); go_simp; (try with_reducible rfl))); (try simp only [Act.put, List.setIfInBounds_toArray, List.set_cons_zero, List.set_cons_succ]))
                first
                  | (refine takeAt (i := 23) (some 101) (v := undef) rfl rfl (by kernel_rfl) (by kernel_rfl) (by kernel_rfl) (fun _ _ _ h => h) (Or.inr ⟨by rfl, rfl⟩) (by assumption) ?_; (try simp only [Act.put, List.setIfInBounds_toArray, List.set_cons_zero, List.set_cons_succ]))
                  | (refine takeAt (i := 23) (some 101) (v := ?_) rfl rfl (by kernel_rfl) (by kernel_rfl) (by kernel_rfl) (fun _ _ _ h => h) (Or.inl ⟨by rfl, ?_⟩) (by assumption) ?_; rotate_left; (focus (intro w hSw; (try dsimp only at hSw); go_simp; (try with_reducible rfl))); (try simp only [Act.put, List.setIfInBounds_toArray, List.set_cons_zero, List.set_cons_succ]))
                first
                  | (refine takeAt (i := 24) (some 102) (v := undef) rfl rfl (by kernel_rfl) (by kernel_rfl) (by kernel_rfl) (fun _ _ _ h => h) (Or.inr ⟨by rfl, rfl⟩) (by assumption) ?_; (try simp only [Act.put, List.setIfInBounds_toArray, List.set_cons_zero, List.set_cons_succ]))
                  | (refine takeAt (i := 24) (some 102) (v := ?_) rfl rfl (by kernel_rfl) (by kernel_rfl) (by kernel_rfl) (fun _ _ _ h => h) (Or.inl ⟨by rfl, ?_⟩) (by assumption) ?_; rotate_left; (focus (intro w hSw; (try dsimp only at hSw); go_simp; (try with_reducible rfl))); (try simp only [Act.put, List.setIfInBounds_toArray, List.set_cons_zero, List.set_cons_succ]))
                first
                  | (refine takeAt (i := 25) (some 103) (v := undef) rfl rfl (by kernel_rfl) (by kernel_rfl) (by kernel_rfl) (fun _ _ _ h => h) (Or.inr ⟨by rfl, rfl⟩) (by assumption) ?_; (try simp only [Act.put, List.setIfInBounds_toArray, List.set_cons_zero, List.set_cons_succ]))
                  | (refine takeAt (i := 25) (some 103) (v := ?_) rfl rfl (by kernel_rfl) (by kernel_rfl) (by kernel_rfl) (fun _ _ _ h => h) (Or.inl ⟨by rfl, ?_⟩) (by assumption) ?_; rotate_left; (focus (intro w hSw; (try dsimp only at hSw); go_simp; (try with_reducible rfl))); (try simp only [Act.put, List.setIfInBounds_toArray, List.set_cons_zero, List.set_cons_succ]))
                first
                  | (refine takeAt (i := 26) (some 104) (v := undef) rfl rfl (by kernel_rfl) (by kernel_rfl) (by kernel_rfl) (fun _ _ _ h => h) (Or.inr ⟨by rfl, rfl⟩) (by assumption) ?_; (try simp only [Act.put, List.setIfInBounds_toArray, List.set_cons_zero, List.set_cons_succ]))
                  | (refine takeAt (i := 26) (some 104) (v := ?_) rfl rfl (by kernel_rfl) (by kernel_rfl) (by kernel_rfl) (fun _ _ _ h => h) (Or.inl ⟨by rfl, ?_⟩) (by assumption) ?_; rotate_left; (focus (intro w hSw; (try dsimp only at hSw); go_simp; (try with_reducible rfl))); (try simp only [Act.put, List.setIfInBounds_toArray, List.set_cons_zero, List.set_cons_succ]))
                first
                  | (refine takeAt (i := 27) (some 105) (v := undef) rfl rfl (by kernel_rfl) (by kernel_rfl) (by kernel_rfl) (fun _ _ _ h => h) (Or.inr ⟨by rfl, rfl⟩) (by assumption) ?_; (try simp only [Act.put, List.setIfInBounds_toArray, List.set_cons_zero, List.set_cons_succ]))
                  | (refine takeAt (i := 27) (some 105) (v := ?_) rfl rfl (by kernel_rfl) (by kernel_rfl) (by kernel_rfl) (fun _ _ _ h => h) (Or.inl ⟨by rfl, ?_⟩) (by assumption) ?_; rotate_left; (focus (intro w hSw; (try dsimp only at hSw); go_simp; (try with_reducible rfl))); (try simp only [Act.put, List.setIfInBounds_toArray, List.set_cons_zero, List.set_cons_succ]))
                refine wpAnyH_done (by kernel_rfl) ?_ _
                go_wp2
                go_meet
                exact ⟨rfl, Lib.hid ⟨HDS.out, (Below.drew hlow0).trans hlS, hTX.1, hTX.2, HRW.out.kept HKS.out⟩⟩
            · have d1 : (vk == kv) = false := by simpa using c1
              by_cases c2 : vk = 4
              · have d2 : (vk == 4) = true := by simpa using c2
                by_cases c3 : chunk = 6
                · have d3 : (chunk == 6) = true := by simpa using c3
                  have hs0 : st = true := by rw [← hst]; simp [c2, c3]
                  subst hs0
                  clear hst c0 c1 c2 c3
                  as_aux_lemma =>
                    refine wp_region_held_drew (S := fun w' => w'.cell? ⟨w.heap.size, 0, none⟩ = some (.int .i64 vk) ∧ w'.cell? ⟨w.heap.size, 1, none⟩ = some (.int .u64 vb) ∧ w'.cell? ⟨w.heap.size, 2, none⟩ = some (.int .i64 vl) ∧ w'.cell? ⟨g15, 0, none⟩ = some (.int .i64 4) ∧ w'.cell? ⟨g15, 1, none⟩ = some (.int .u64 ob) ∧ w'.cell? ⟨g15, 2, none⟩ = some (.int .i64 1) ∧ TwoB w' w.heap.size g15 vk vb vl ob) (by kernel_rfl) HTB.out.drew.cells (fun hHeld => ?_)
                    first
                      | (refine takeAt (i := 0) (some 78) (v := undef) rfl rfl (by kernel_rfl) (by kernel_rfl) (by kernel_rfl) (fun _ _ _ h => h) (Or.inr ⟨by rfl, rfl⟩) (by assumption) ?_; (try simp only [Act.put, List.setIfInBounds_toArray, List.set_cons_zero, List.set_cons_succ]))
                      | (refine takeAt (i := 0) (some 78) (v := ?_) rfl rfl (by kernel_rfl) (by kernel_rfl) (by kernel_rfl) (fun _ _ _ h => h) (Or.inl ⟨by rfl, ?_⟩) (by assumption) ?_; rotate_left; (focus (intro w hSw; (try dsimp only at hSw); go_simp; (try with_reducible rfl))); (try simp only [Act.put, List.setIfInBounds_toArray, List.set_cons_zero, List.set_cons_succ]))
                    first
                      | (refine takeAt (i := 1) (some 79) (v := undef) rfl rfl (by kernel_rfl) (by kernel_rfl) (by kernel_rfl) (fun _ _ _ h => h) (Or.inr ⟨by rfl, rfl⟩) (by assumption) ?_; (try simp only [Act.put, List.setIfInBounds_toArray, List.set_cons_zero, List.set_cons_succ]))
                      | (refine takeAt (i := 1) (some 79) (v := ?_) rfl rfl (by kernel_rfl) (by kernel_rfl) (by kernel_rfl) (fun _ _ _ h => h) (Or.inl ⟨by rfl, ?_⟩) (by assumption) ?_; rotate_left; (focus (intro w hSw; (try dsimp only at hSw); go_simp; (try with_reducible rfl))); (try simp only [Act.put, List.setIfInBounds_toArray, List.set_cons_zero, List.set_cons_succ]))
                    first
                      | (refine takeAt (i := 2) (some 80) (v := undef) rfl rfl (by kernel_rfl) (by kernel_rfl) (by kernel_rfl) (fun _ _ _ h => h) (Or.inr ⟨by rfl, rfl⟩) (by assumption) ?_; (try simp only [Act.put, List.setIfInBounds_toArray, List.set_cons_zero, List.set_cons_succ]))
                      | (refine takeAt (i := 2) (some 80) (v := ?_) rfl rfl (by kernel_rfl) (by kernel_rfl) (by kernel_rfl) (fun _ _ _ h => h) (Or.inl ⟨by rfl, ?_⟩) (by assumption) ?_; rotate_left; (focus (intro w hSw; (try dsimp only at hSw); go_simp; (try with_reducible rfl))); (try simp only [Act.put, List.setIfInBounds_toArray, List.set_cons_zero, List.set_cons_succ]))
                    first
                      | (refine takeAt (i := 3) (some 81) (v := undef) rfl rfl (by kernel_rfl) (by kernel_rfl) (by kernel_rfl) (fun _ _ _ h => h) (Or.inr ⟨by rfl, rfl⟩) (by assumption) ?_; (try simp only [Act.put, List.setIfInBounds_toArray, List.set_cons_zero, List.set_cons_succ]))
                      | (refine takeAt (i := 3) (some 81) (v := ?_) rfl rfl (by kernel_rfl) (by kernel_rfl) (by kernel_rfl) (fun _ _ _ h => h) (Or.inl ⟨by rfl, ?_⟩) (by assumption) ?_; rotate_left; (focus (intro w hSw; (try dsimp only at hSw); go_simp; (try with_reducible rfl))); (try simp only [Act.put, List.setIfInBounds_toArray, List.set_cons_zero, List.set_cons_succ]))
                    first
                      | (refine takeAt (i := 5) (some 83) (v := undef) rfl rfl (by kernel_rfl) (by kernel_rfl) (by kernel_rfl) (fun _ _ _ h => h) (Or.inr ⟨by rfl, rfl⟩) (by assumption) ?_; (try simp only [Act.put, List.setIfInBounds_toArray, List.set_cons_zero, List.set_cons_succ]))
                      | (refine takeAt (i := 5) (some 83) (v := ?_) rfl rfl (by kernel_rfl) (by kernel_rfl) (by kernel_rfl) (fun _ _ _ h => h) (Or.inl ⟨by rfl, ?_⟩) (by assumption) ?_; rotate_left; (focus (intro w hSw; (try dsimp only at hSw); go_simp; (try with_reducible rfl))); (try simp only [Act.put, List.setIfInBounds_toArray, List.set_cons_zero, List.set_cons_succ]))
                    refine wpAnyH_ready (rs := [4]) (by kernel_rfl) (by simp) ?_
                    refine AllReadyH.cons rfl (fun K hK => ?_) AllReadyH.nil
                    go_simp
                    (go_at_call 17; (with_reducible refine (HSTO.out _ (HM0.out.next (by (repeat' (first | (with_reducible exact Below.refl _ _) | (with_reducible assumption) | (with_reducible refine Below.setCell ?_ ?_ _) | (with_reducible refine Below.alloc ?_ ?_ _) | (with_reducible refine Below.drew ?_) | (with_reducible refine below_drewN ?_ _) | (with_reducible refine below_next ?_ (by with_reducible assumption)) | omega | (dsimp only; omega) | (simp only [World.size_alloc, World.size_setCell, World.size_drew, World.heap_drewN]; omega)))))).mono ?_); rintro e wS ⟨rfl, hkS, hlS, hdS⟩; have HKS := Lib.hid hkS; have HDS := Lib.hid hdS; have hzS := hkS.1; (try simp only [World.size_alloc, World.size_setCell, World.size_drew, World.heap_drewN] at hzS); have hTX := TwoB.keptC hkS (by assumption); clear hkS hdS)
                    refine hK.out _ _ hTX.cells (fun hHeld => ?_)
                    (try simp only [Act.put, List.setIfInBounds_toArray, List.set_cons_zero, List.set_cons_succ])
                    first
                      | (refine takeAt (i := 6) (some 84) (v := undef) rfl rfl (by kernel_rfl) (by kernel_rfl) (by kernel_rfl) (fun _ _ _ h => h) (Or.inr ⟨by rfl, rfl⟩) (by assumption) ?_; (try simp only [Act.put, List.setIfInBounds_toArray, List.set_cons_zero, List.set_cons_succ]))
                      | (refine takeAt (i := 6) (some 84) (v := ?_) rfl rfl (by kernel_rfl) (by kernel_rfl) (by kernel_rfl) (fun _ _ _ h => h) (Or.inl ⟨by rfl, ?_⟩) (by assumption) ?_; rotate_left; (focus (intro w hSw; (try dsimp only at hSw); go_simp; (try with_reducible rfl))); (try simp only [Act.put, List.setIfInBounds_toArray, List.set_cons_zero, List.set_cons_succ]))
                    first
                      | (refine takeAt (i := 7) (some 85) (v := undef) rfl rfl (by kernel_rfl) (by kernel_rfl) (by kernel_rfl) (fun _ _ _ h => h) (Or.inr ⟨by rfl, rfl⟩) (by assumption) ?_; (try simp only [Act.put, List.setIfInBounds_toArray, List.set_cons_zero, List.set_cons_succ]))
                      | (refine takeAt (i := 7) (some 85) (v := ?_) rfl rfl (by kernel_rfl) (by kernel_rfl) (by kernel_rfl) (fun _ _ _ h => h) (Or.inl ⟨by rfl, ?_⟩) (by assumption) ?_; rotate_left; (focus (intro w hSw; (try dsimp only at hSw); go_simp; (try with_reducible rfl))); (try simp only [Act.put, List.setIfInBounds_toArray, List.set_cons_zero, List.set_cons_succ]))
                    first
                      | (refine takeAt (i := 8) (some 86) (v := undef) rfl rfl (by kernel_rfl) (by kernel_rfl) (by kernel_rfl) (fun _ _ _ h => h) (Or.inr ⟨by rfl, rfl⟩) (by assumption) ?_; (try simp only [Act.put, List.setIfInBounds_toArray, List.set_cons_zero, List.set_cons_succ]))
                      | (refine takeAt (i := 8) (some 86) (v := ?_) rfl rfl (by kernel_rfl) (by kernel_rfl) (by kernel_rfl) (fun _ _ _ h => h) (Or.inl ⟨by rfl, ?_⟩) (by assumption) ?_; rotate_left; (focus (intro w hSw; (try dsimp only at hSw); go_simp; (try with_reducible rfl))); (try simp only [Act.put, List.setIfInBounds_toArray, List.set_cons_zero, List.set_cons_succ]))
                    first
                      | (refine takeAt (i := 9) (some 87) (v := undef) rfl rfl (by kernel_rfl) (by kernel_rfl) (by kernel_rfl) (fun _ _ _ h => h) (Or.inr ⟨by rfl, rfl⟩) (by assumption) ?_; (try simp only [Act.put, List.setIfInBounds_toArray, List.set_cons_zero, List.set_cons_succ]))
                      | (refine takeAt (i := 9) (some 87) (v := ?_) rfl rfl (by kernel_rfl) (by kernel_rfl) (by kernel_rfl) (fun _ _ _ h => h) (Or.inl ⟨by rfl, ?_⟩) (by assumption) ?_; rotate_left; (focus (intro w hSw; (try dsimp only at hSw); go_simp; (try with_reducible rfl))); (try simp only [Act.put, List.setIfInBounds_toArray, List.set_cons_zero, List.set_cons_succ]))
                    first
                      | (refine takeAt (i := 10) (some 88) (v := undef) rfl rfl (by kernel_rfl) (by kernel_rfl) (by kernel_rfl) (fun _ _ _ h => h) (Or.inr ⟨by rfl, rfl⟩) (by assumption) ?_; (try simp only [Act.put, List.setIfInBounds_toArray, List.set_cons_zero, List.set_cons_succ]))
                      | (refine takeAt (i := 10) (some 88) (v := ?_) rfl rfl (by kernel_rfl) (by kernel_rfl) (by kernel_rfl) (fun _ _ _ h => h) (Or.inl ⟨by rfl, ?_⟩) (by assumption) ?_; rotate_left; (focus (intro w hSw; (try dsimp only at hSw); go_simp; (try with_reducible rfl))); (try simp only [Act.put, List.setIfInBounds_toArray, List.set_cons_zero, List.set_cons_succ]))
                    first
                      | (refine takeAt (i := 11) (some 89) (v := undef) rfl rfl (by kernel_rfl) (by kernel_rfl) (by kernel_rfl) (fun _ _ _ h => h) (Or.inr ⟨by rfl, rfl⟩) (by assumption) ?_; (try simp only [Act.put, List.setIfInBounds_toArray, List.set_cons_zero, List.set_cons_succ]))
                      | (refine takeAt (i := 11) (some 89) (v := ?_) rfl rfl (by kernel_rfl) (by kernel_rfl) (by kernel_rfl) (fun _ _ _ h => h) (Or.inl ⟨by rfl, ?_⟩) (by assumption) ?_; rotate_left; (focus (intro w hSw; (try dsimp only at hSw); go_simp; (try with_reducible rfl))); (try simp only [Act.put, List.setIfInBounds_toArray, List.set_cons_zero, List.set_cons_succ]))
                    first
                      | (refine takeAt (i := 12) (some 90) (v := undef) rfl rfl (by kernel_rfl) (by kernel_rfl) (by kernel_rfl) (fun _ _ _ h => h) (Or.inr ⟨by rfl, rfl⟩) (by assumption) ?_; (try simp only [Act.put, List.setIfInBounds_toArray, List.set_cons_zero, List.set_cons_succ]))
                      | (refine takeAt (i := 12) (some 90) (v := ?_) rfl rfl (by kernel_rfl) (by kernel_rfl) (by kernel_rfl) (fun _ _ _ h => h) (Or.inl ⟨by rfl, ?_⟩) (by assumption) ?_; rotate_left; (focus (intro w hSw; (try dsimp only at hSw); go_simp; (try with_reducible rfl))); (try simp only [Act.put, List.setIfInBounds_toArray, List.set_cons_zero, List.set_cons_succ]))
                    first
                      | (refine takeAt (i := 13) (some 91) (v := undef) rfl rfl (by kernel_rfl) (by kernel_rfl) (by kernel_rfl) (fun _ _ _ h => h) (Or.inr ⟨by rfl, rfl⟩) (by assumption) ?_; (try simp only [Act.put, List.setIfInBounds_toArray, List.set_cons_zero, List.set_cons_succ]))
                      | (refine takeAt (i := 13) (some 91) (v := ?_) rfl rfl (by kernel_rfl) (by kernel_rfl) (by kernel_rfl) (fun _ _ _ h => h) (Or.inl ⟨by rfl, ?_⟩) (by assumption) ?_; rotate_left; (focus (intro w hSw; (try dsimp only at hSw); go_simp; (try with_reducible rfl))); (try simp only [Act.put, List.setIfInBounds_toArray, List.set_cons_zero, List.set_cons_succ]))
                    first
                      | (refine takeAt (i := 14) (some 92) (v := undef) rfl rfl (by kernel_rfl) (by kernel_rfl) (by kernel_rfl) (fun _ _ _ h => h) (Or.inr ⟨by rfl, rfl⟩) (by assumption) ?_; (try simp only [Act.put, List.setIfInBounds_toArray, List.set_cons_zero, List.set_cons_succ]))
                      | (refine wpAnyH_ready (rs := [14]) (by kernel_rfl) (by simp) ?_; refine AllReadyH.cons rfl (fun K hK => ?_) AllReadyH.nil; (try go_simp); (go_at_call 26; (with_reducible refine (HKV.out _).mono ?_); rintro e wq ⟨rfl, rfl⟩); refine hK.out _ _ hTX.cells (fun hHeld => ?_); (try simp only [Act.put, List.setIfInBounds_toArray, List.set_cons_zero, List.set_cons_succ]))
                    first
                      | (refine takeAt (i := 15) (some 93) (v := undef) rfl rfl (by kernel_rfl) (by kernel_rfl) (by kernel_rfl) (fun _ _ _ h => h) (Or.inr ⟨by rfl, rfl⟩) (by assumption) ?_; (try simp only [Act.put, List.setIfInBounds_toArray, List.set_cons_zero, List.set_cons_succ]))
                      | (refine takeAt (i := 15) (some 93) (v := ?_) rfl rfl (by kernel_rfl) (by kernel_rfl) (by kernel_rfl) (fun _ _ _ h => h) (Or.inl ⟨by rfl, ?_⟩) (by assumption) ?_; rotate_left; (focus (intro w hSw; (try dsimp only at hSw); go_simp; (try with_reducible rfl))); (try simp only [Act.put, List.setIfInBounds_toArray, List.set_cons_zero, List.set_cons_succ]))
                    first
                      | (refine takeAt (i := 16) (some 94) (v := undef) rfl rfl (by kernel_rfl) (by kernel_rfl) (by kernel_rfl) (fun _ _ _ h => h) (Or.inr ⟨by rfl, rfl⟩) (by assumption) ?_; (try simp only [Act.put, List.setIfInBounds_toArray, List.set_cons_zero, List.set_cons_succ]))
                      | (refine takeAt (i := 16) (some 94) (v := ?_) rfl rfl (by kernel_rfl) (by kernel_rfl) (by kernel_rfl) (fun _ _ _ h => h) (Or.inl ⟨by rfl, ?_⟩) (by assumption) ?_; rotate_left; (focus (intro w hSw; (try dsimp only at hSw); go_simp; (try with_reducible rfl))); (try simp only [Act.put, List.setIfInBounds_toArray, List.set_cons_zero, List.set_cons_succ]))
                    first
                      | (refine takeAt (i := 17) (some 95) (v := undef) rfl rfl (by kernel_rfl) (by kernel_rfl) (by kernel_rfl) (fun _ _ _ h => h) (Or.inr ⟨by rfl, rfl⟩) (by assumption) ?_; (try simp only [Act.put, List.setIfInBounds_toArray, List.set_cons_zero, List.set_cons_succ]))
                      | (refine takeAt (i := 17) (some 95) (v := ?_) rfl rfl (by kernel_rfl) (by kernel_rfl) (by kernel_rfl) (fun _ _ _ h => h) (Or.inl ⟨by rfl, ?_⟩) (by assumption) ?_; rotate_left; (focus (intro w hSw; (try dsimp only at hSw); go_simp; (try with_reducible rfl))); (try simp only [Act.put, List.setIfInBounds_toArray, List.set_cons_zero, List.set_cons_succ]))
                    first
                      | (refine takeAt (i := 18) (some 96) (v := undef) rfl rfl (by kernel_rfl) (by kernel_rfl) (by kernel_rfl) (fun _ _ _ h => h) (Or.inr ⟨by rfl, rfl⟩) (by assumption) ?_; (try simp only [Act.put, List.setIfInBounds_toArray, List.set_cons_zero, List.set_cons_succ]))
                      | (refine takeAt (i := 18) (some 96) (v := ?_) rfl rfl (by kernel_rfl) (by kernel_rfl) (by kernel_rfl) (fun _ _ _ h => h) (Or.inl ⟨by rfl, ?_⟩) (by assumption) ?_; rotate_left; (focus (intro w hSw; (try dsimp only at hSw); go_simp; (try with_reducible rfl))); (try simp only [Act.put, List.setIfInBounds_toArray, List.set_cons_zero, List.set_cons_succ]))
                    first
                      | (refine takeAt (i := 19) (some 97) (v := undef) rfl rfl (by kernel_rfl) (by kernel_rfl) (by kernel_rfl) (fun _ _ _ h => h) (Or.inr ⟨by rfl, rfl⟩) (by assumption) ?_; (try simp only [Act.put, List.setIfInBounds_toArray, List.set_cons_zero, List.set_cons_succ]))
                      | (refine takeAt (i := 19) (some 97) (v := ?_) rfl rfl (by kernel_rfl) (by kernel_rfl) (by kernel_rfl) (fun _ _ _ h => h) (Or.inl ⟨by rfl, ?_⟩) (by assumption) ?_; rotate_left; (focus (intro w hSw; (try dsimp only at hSw); go_simp; (try with_reducible rfl))); (try simp only [Act.put, List.setIfInBounds_toArray, List.set_cons_zero, List.set_cons_succ]))
                    first
                      | (refine takeAt (i := 20) (some 98) (v := undef) rfl rfl (by kernel_rfl) (by kernel_rfl) (by kernel_rfl) (fun _ _ _ h => h) (Or.inr ⟨by rfl, rfl⟩) (by assumption) ?_; (try simp only [Act.put, List.setIfInBounds_toArray, List.set_cons_zero, List.set_cons_succ]))
                      | (refine takeAt (i := 20) (some 98) (v := ?_) rfl rfl (by kernel_rfl) (by kernel_rfl) (by kernel_rfl) (fun _ _ _ h => h) (Or.inl ⟨by rfl, ?_⟩) (by assumption) ?_; rotate_left; (focus (intro w hSw; (try dsimp only at hSw); go_simp; (try with_reducible rfl))); (try simp only [Act.put, List.setIfInBounds_toArray, List.set_cons_zero, List.set_cons_succ]))
                    first
                      | (refine takeAt (i := 21) (some 99) (v := undef) rfl rfl (by kernel_rfl) (by kernel_rfl) (by kernel_rfl) (fun _ _ _ h => h) (Or.inr ⟨by rfl, rfl⟩) (by assumption) ?_; (try simp only [Act.put, List.setIfInBounds_toArray, List.set_cons_zero, List.set_cons_succ]))
                      | (refine takeAt (i := 21) (some 99) (v := ?_) rfl rfl (by kernel_rfl) (by kernel_rfl) (by kernel_rfl) (fun _ _ _ h => h) (Or.inl ⟨by rfl, ?_⟩) (by assumption) ?_; rotate_left; (focus (intro w hSw; (try dsimp only at hSw); go_simp; (try with_reducible rfl))); (try simp only [Act.put, List.setIfInBounds_toArray, List.set_cons_zero, List.set_cons_succ]))
                    first
                      | (refine takeAt (i := 22) (some 100) (v := undef) rfl rfl (by kernel_rfl) (by kernel_rfl) (by kernel_rfl) (fun _ _ _ h => h) (Or.inr ⟨by rfl, rfl⟩) (by assumption) ?_; (try simp only [Act.put, List.setIfInBounds_toArray, List.set_cons_zero, List.set_cons_succ]))
                      | (refine takeAt (i := 22) (some 100) (v := ?_) rfl rfl (by kernel_rfl) (by kernel_rfl) (by kernel_rfl) (fun _ _ _ h => h) (Or.inl ⟨by rfl, ?_⟩) (by assumption) ?_; rotate_left; (focus (intro w hSw; (try dsimp only at hSw); go_simp; (try with_reducible rfl))); (try simp only [Act.put, List.setIfInBounds_toArray, List.set_cons_zero, List.set_cons_succ]))
                    first
                      | (refine takeAt (i := 23) (some 101) (v := undef) rfl rfl (by kernel_rfl) (by kernel_rfl) (by kernel_rfl) (fun _ _ _ h => h) (Or.inr ⟨by rfl, rfl⟩) (by assumption) ?_; (try simp only [Act.put, List.setIfInBounds_toArray, List.set_cons_zero, List.set_cons_succ]))
                      | (refine takeAt (i := 23) (some 101) (v := ?_) rfl rfl (by kernel_rfl) (by kernel_rfl) (by kernel_rfl) (fun _ _ _ h => h) (Or.inl ⟨by rfl, ?_⟩) (by assumption) ?_; rotate_left; (focus (intro w hSw; (try dsimp only at hSw); go_simp; (try with_reducible rfl))); (try simp only [Act.put, List.setIfInBounds_toArray, List.set_cons_zero, List.set_cons_succ]))
                    first
                      | (refine takeAt (i := 24) (some 102) (v := undef) rfl rfl (by kernel_rfl) (by kernel_rfl) (by kernel_rfl) (fun _ _ _ h => h) (Or.inr ⟨by rfl, rfl⟩) (by assumption) ?_; (try simp only [Act.put, List.setIfInBounds_toArray, List.set_cons_zero, List.set_cons_succ]))
                      | (refine takeAt (i := 24) (some 102) (v := ?_) rfl rfl (by kernel_rfl) (by kernel_rfl) (by kernel_rfl) (fun _ _ _ h => h) (Or.inl ⟨by rfl, ?_⟩) (by assumption) ?_; rotate_left; (focus (intro w hSw; (try dsimp only at hSw); go_simp; (try with_reducible rfl))); (try simp only [Act.put, List.setIfInBounds_toArray, List.set_cons_zero, List.set_cons_succ]))
                    first
                      | (refine takeAt (i := 25) (some 103) (v := undef) rfl rfl (by kernel_rfl) (by kernel_rfl) (by kernel_rfl) (fun _ _ _ h => h) (Or.inr ⟨by rfl, rfl⟩) (by assumption) ?_; (try simp only [Act.put, List.setIfInBounds_toArray, List.set_cons_zero, List.set_cons_succ]))
                      | (refine takeAt (i := 25) (some 103) (v := ?_) rfl rfl (by kernel_rfl) (by kernel_rfl) (by kernel_rfl) (fun _ _ _ h => h) (Or.inl ⟨by rfl, ?_⟩) (by assumption) ?_; rotate_left; (focus (intro w hSw; (try dsimp only at hSw); go_simp; (try with_reducible rfl))); (try simp only [Act.put, List.setIfInBounds_toArray, List.set_cons_zero, List.set_cons_succ]))
                    first
                      | (refine takeAt (i := 26) (some 104) (v := undef) rfl rfl (by kernel_rfl) (by kernel_rfl) (by kernel_rfl) (fun _ _ _ h => h) (Or.inr ⟨by rfl, rfl⟩) (by assumption) ?_; (try simp only [Act.put, List.setIfInBounds_toArray, List.set_cons_zero, List.set_cons_succ]))
                      | (refine takeAt (i := 26) (some 104) (v := ?_) rfl rfl (by kernel_rfl) (by kernel_rfl) (by kernel_rfl) (fun _ _ _ h => h) (Or.inl ⟨by rfl, ?_⟩) (by assumption) ?_; rotate_left; (focus (intro w hSw; (try dsimp only at hSw); go_simp; (try with_reducible rfl))); (try simp only [Act.put, List.setIfInBounds_toArray, List.set_cons_zero, List.set_cons_succ]))
                    first
                      | (refine takeAt (i := 27) (some 105) (v := undef) rfl rfl (by kernel_rfl) (by kernel_rfl) (by kernel_rfl) (fun _ _ _ h => h) (Or.inr ⟨by rfl, rfl⟩) (by assumption) ?_; (try simp only [Act.put, List.setIfInBounds_toArray, List.set_cons_zero, List.set_cons_succ]))
                      | (refine takeAt (i := 27) (some 105) (v := ?_) rfl rfl (by kernel_rfl) (by kernel_rfl) (by kernel_rfl) (fun _ _ _ h => h) (Or.inl ⟨by rfl, ?_⟩) (by assumption) ?_; rotate_left; (focus (intro w hSw; (try dsimp only at hSw); go_simp; (try with_reducible rfl))); (try simp only [Act.put, List.setIfInBounds_toArray, List.set_cons_zero, List.set_cons_succ]))
                    refine wpAnyH_done (by kernel_rfl) ?_ _
                    go_wp2
                    go_meet
                    exact ⟨rfl, Lib.hid ⟨HDS.out, (Below.drew hlow0).trans hlS, hTX.1, hTX.2, HRW.out.kept HKS.out⟩⟩
                · have d3 : (chunk == 6) = false := by simpa using c3
                  have hs0 : st = false := by rw [← hst]; simp [c0, c1, c3]
                  subst hs0
                  clear hst c0 c1 c2 c3
                  as_aux_lemma =>
                    refine wp_region_held_drew (S := fun w' => w'.cell? ⟨w.heap.size, 0, none⟩ = some (.int .i64 vk) ∧ w'.cell? ⟨w.heap.size, 1, none⟩ = some (.int .u64 vb) ∧ w'.cell? ⟨w.heap.size, 2, none⟩ = some (.int .i64 vl) ∧ w'.cell? ⟨g15, 0, none⟩ = some (.int .i64 4) ∧ w'.cell? ⟨g15, 1, none⟩ = some (.int .u64 ob) ∧ w'.cell? ⟨g15, 2, none⟩ = some (.int .i64 1) ∧ TwoB w' w.heap.size g15 vk vb vl ob) (by kernel_rfl) HTB.out.drew.cells (fun hHeld => ?_)
                    first
                      | (refine takeAt (i := 0) (some 78) (v := undef) rfl rfl (by kernel_rfl) (by kernel_rfl) (by kernel_rfl) (fun _ _ _ h => h) (Or.inr ⟨by rfl, rfl⟩) (by assumption) ?_; (try simp only [Act.put, List.setIfInBounds_toArray, List.set_cons_zero, List.set_cons_succ]))
                      | (refine takeAt (i := 0) (some 78) (v := ?_) rfl rfl (by kernel_rfl) (by kernel_rfl) (by kernel_rfl) (fun _ _ _ h => h) (Or.inl ⟨by rfl, ?_⟩) (by assumption) ?_; rotate_left; (focus (intro w hSw; (try dsimp only at hSw); go_simp; (try with_reducible rfl))); (try simp only [Act.put, List.setIfInBounds_toArray, List.set_cons_zero, List.set_cons_succ]))
                    first
                      | (refine takeAt (i := 1) (some 79) (v := undef) rfl rfl (by kernel_rfl) (by kernel_rfl) (by kernel_rfl) (fun _ _ _ h => h) (Or.inr ⟨by rfl, rfl⟩) (by assumption) ?_; (try simp only [Act.put, List.setIfInBounds_toArray, List.set_cons_zero, List.set_cons_succ]))
                      | (refine takeAt (i := 1) (some 79) (v := ?_) rfl rfl (by kernel_rfl) (by kernel_rfl) (by kernel_rfl) (fun _ _ _ h => h) (Or.inl ⟨by rfl, ?_⟩) (by assumption) ?_; rotate_left; (focus (intro w hSw; (try dsimp only at hSw); go_simp; (try with_reducible rfl))); (try simp only [Act.put, List.setIfInBounds_toArray, List.set_cons_zero, List.set_cons_succ]))
                    first
                      | (refine takeAt (i := 2) (some 80) (v := undef) rfl rfl (by kernel_rfl) (by kernel_rfl) (by kernel_rfl) (fun _ _ _ h => h) (Or.inr ⟨by rfl, rfl⟩) (by assumption) ?_; (try simp only [Act.put, List.setIfInBounds_toArray, List.set_cons_zero, List.set_cons_succ]))
                      | (refine takeAt (i := 2) (some 80) (v := ?_) rfl rfl (by kernel_rfl) (by kernel_rfl) (by kernel_rfl) (fun _ _ _ h => h) (Or.inl ⟨by rfl, ?_⟩) (by assumption) ?_; rotate_left; (focus (intro w hSw; (try dsimp only at hSw); go_simp; (try with_reducible rfl))); (try simp only [Act.put, List.setIfInBounds_toArray, List.set_cons_zero, List.set_cons_succ]))
                    first
                      | (refine takeAt (i := 3) (some 81) (v := undef) rfl rfl (by kernel_rfl) (by kernel_rfl) (by kernel_rfl) (fun _ _ _ h => h) (Or.inr ⟨by rfl, rfl⟩) (by assumption) ?_; (try simp only [Act.put, List.setIfInBounds_toArray, List.set_cons_zero, List.set_cons_succ]))
                      | (refine takeAt (i := 3) (some 81) (v := ?_) rfl rfl (by kernel_rfl) (by kernel_rfl) (by kernel_rfl) (fun _ _ _ h => h) (Or.inl ⟨by rfl, ?_⟩) (by assumption) ?_; rotate_left; (focus (intro w hSw; (try dsimp only at hSw); go_simp; (try with_reducible rfl))); (try simp only [Act.put, List.setIfInBounds_toArray, List.set_cons_zero, List.set_cons_succ]))
                    first
                      | (refine takeAt (i := 5) (some 83) (v := undef) rfl rfl (by kernel_rfl) (by kernel_rfl) (by kernel_rfl) (fun _ _ _ h => h) (Or.inr ⟨by rfl, rfl⟩) (by assumption) ?_; (try simp only [Act.put, List.setIfInBounds_toArray, List.set_cons_zero, List.set_cons_succ]))
                      | (refine takeAt (i := 5) (some 83) (v := ?_) rfl rfl (by kernel_rfl) (by kernel_rfl) (by kernel_rfl) (fun _ _ _ h => h) (Or.inl ⟨by rfl, ?_⟩) (by assumption) ?_; rotate_left; (focus (intro w hSw; (try dsimp only at hSw); go_simp; (try with_reducible rfl))); (try simp only [Act.put, List.setIfInBounds_toArray, List.set_cons_zero, List.set_cons_succ]))
                    refine wpAnyH_ready (rs := [4]) (by kernel_rfl) (by simp) ?_
                    refine AllReadyH.cons rfl (fun K hK => ?_) AllReadyH.nil
                    go_simp
                    (go_at_call 17; (with_reducible refine (HSTO.out _ (HM0.out.next (by (repeat' (first | (with_reducible exact Below.refl _ _) | (with_reducible assumption) | (with_reducible refine Below.setCell ?_ ?_ _) | (with_reducible refine Below.alloc ?_ ?_ _) | (with_reducible refine Below.drew ?_) | (with_reducible refine below_drewN ?_ _) | (with_reducible refine below_next ?_ (by with_reducible assumption)) | omega | (dsimp only; omega) | (simp only [World.size_alloc, World.size_setCell, World.size_drew, World.heap_drewN]; omega)))))).mono ?_); rintro e wS ⟨rfl, hkS, hlS, hdS⟩; have HKS := Lib.hid hkS; have HDS := Lib.hid hdS; have hzS := hkS.1; (try simp only [World.size_alloc, World.size_setCell, World.size_drew, World.heap_drewN] at hzS); have hTX := TwoB.keptC hkS (by assumption); clear hkS hdS)
                    refine hK.out _ _ hTX.cells (fun hHeld => ?_)
                    (try simp only [Act.put, List.setIfInBounds_toArray, List.set_cons_zero, List.set_cons_succ])
                    first
                      | (refine takeAt (i := 6) (some 84) (v := undef) rfl rfl (by kernel_rfl) (by kernel_rfl) (by kernel_rfl) (fun _ _ _ h => h) (Or.inr ⟨by rfl, rfl⟩) (by assumption) ?_; (try simp only [Act.put, List.setIfInBounds_toArray, List.set_cons_zero, List.set_cons_succ]))
                      | (refine takeAt (i := 6) (some 84) (v := ?_) rfl rfl (by kernel_rfl) (by kernel_rfl) (by kernel_rfl) (fun _ _ _ h => h) (Or.inl ⟨by rfl, ?_⟩) (by assumption) ?_; rotate_left; (focus (intro w hSw; (try dsimp only at hSw); go_simp; (try with_reducible rfl))); (try simp only [Act.put, List.setIfInBounds_toArray, List.set_cons_zero, List.set_cons_succ]))
                    first
                      | (refine takeAt (i := 7) (some 85) (v := undef) rfl rfl (by kernel_rfl) (by kernel_rfl) (by kernel_rfl) (fun _ _ _ h => h) (Or.inr ⟨by rfl, rfl⟩) (by assumption) ?_; (try simp only [Act.put, List.setIfInBounds_toArray, List.set_cons_zero, List.set_cons_succ]))
                      | (refine takeAt (i := 7) (some 85) (v := ?_) rfl rfl (by kernel_rfl) (by kernel_rfl) (by kernel_rfl) (fun _ _ _ h => h) (Or.inl ⟨by rfl, ?_⟩) (by assumption) ?_; rotate_left; (focus (intro w hSw; (try dsimp only at hSw); go_simp; (try with_reducible rfl))); (try simp only [Act.put, List.setIfInBounds_toArray, List.set_cons_zero, List.set_cons_succ]))
                    first
                      | (refine takeAt (i := 8) (some 86) (v := undef) rfl rfl (by kernel_rfl) (by kernel_rfl) (by kernel_rfl) (fun _ _ _ h => h) (Or.inr ⟨by rfl, rfl⟩) (by assumption) ?_; (try simp only [Act.put, List.setIfInBounds_toArray, List.set_cons_zero, List.set_cons_succ]))
                      | (refine takeAt (i := 8) (some 86) (v := ?_) rfl rfl (by kernel_rfl) (by kernel_rfl) (by kernel_rfl) (fun _ _ _ h => h) (Or.inl ⟨by rfl, ?_⟩) (by assumption) ?_; rotate_left; (focus (intro w hSw; (try dsimp only at hSw); go_simp; (try with_reducible rfl))); (try simp only [Act.put, List.setIfInBounds_toArray, List.set_cons_zero, List.set_cons_succ]))
                    first
                      | (refine takeAt (i := 9) (some 87) (v := undef) rfl rfl (by kernel_rfl) (by kernel_rfl) (by kernel_rfl) (fun _ _ _ h => h) (Or.inr ⟨by rfl, rfl⟩) (by assumption) ?_; (try simp only [Act.put, List.setIfInBounds_toArray, List.set_cons_zero, List.set_cons_succ]))
                      | (refine takeAt (i := 9) (some 87) (v := ?_) rfl rfl (by kernel_rfl) (by kernel_rfl) (by kernel_rfl) (fun _ _ _ h => h) (Or.inl ⟨by rfl, ?_⟩) (by assumption) ?_; rotate_left; (focus (intro w hSw; (try dsimp only at hSw); go_simp; (try with_reducible rfl))); (try simp only [Act.put, List.setIfInBounds_toArray, List.set_cons_zero, List.set_cons_succ]))
                    first
                      | (refine takeAt (i := 10) (some 88) (v := undef) rfl rfl (by kernel_rfl) (by kernel_rfl) (by kernel_rfl) (fun _ _ _ h => h) (Or.inr ⟨by rfl, rfl⟩) (by assumption) ?_; (try simp only [Act.put, List.setIfInBounds_toArray, List.set_cons_zero, List.set_cons_succ]))
                      | (refine takeAt (i := 10) (some 88) (v := ?_) rfl rfl (by kernel_rfl) (by kernel_rfl) (by kernel_rfl) (fun _ _ _ h => h) (Or.inl ⟨by rfl, ?_⟩) (by assumption) ?_; rotate_left; (focus (intro w hSw; (try dsimp only at hSw); go_simp; (try with_reducible rfl))); (try simp only [Act.put, List.setIfInBounds_toArray, List.set_cons_zero, List.set_cons_succ]))
                    first
                      | (refine takeAt (i := 11) (some 89) (v := undef) rfl rfl (by kernel_rfl) (by kernel_rfl) (by kernel_rfl) (fun _ _ _ h => h) (Or.inr ⟨by rfl, rfl⟩) (by assumption) ?_; (try simp only [Act.put, List.setIfInBounds_toArray, List.set_cons_zero, List.set_cons_succ]))
                      | (refine takeAt (i := 11) (some 89) (v := ?_) rfl rfl (by kernel_rfl) (by kernel_rfl) (by kernel_rfl) (fun _ _ _ h => h) (Or.inl ⟨by rfl, ?_⟩) (by assumption) ?_; rotate_left; (focus (intro w hSw; (try dsimp only at hSw); go_simp; (try with_reducible rfl))); (try simp only [Act.put, List.setIfInBounds_toArray, List.set_cons_zero, List.set_cons_succ]))
                    first
                      | (refine takeAt (i := 12) (some 90) (v := undef) rfl rfl (by kernel_rfl) (by kernel_rfl) (by kernel_rfl) (fun _ _ _ h => h) (Or.inr ⟨by rfl, rfl⟩) (by assumption) ?_; (try simp only [Act.put, List.setIfInBounds_toArray, List.set_cons_zero, List.set_cons_succ]))
                      | (refine takeAt (i := 12) (some 90) (v := ?_) rfl rfl (by kernel_rfl) (by kernel_rfl) (by kernel_rfl) (fun _ _ _ h => h) (Or.inl ⟨by rfl, ?_⟩) (by assumption) ?_; rotate_left; (focus (intro w hSw; (try dsimp only at hSw); go_simp; (try with_reducible rfl))); (try simp only [Act.put, List.setIfInBounds_toArray, List.set_cons_zero, List.set_cons_succ]))
                    first
                      | (refine takeAt (i := 13) (some 91) (v := undef) rfl rfl (by kernel_rfl) (by kernel_rfl) (by kernel_rfl) (fun _ _ _ h => h) (Or.inr ⟨by rfl, rfl⟩) (by assumption) ?_; (try simp only [Act.put, List.setIfInBounds_toArray, List.set_cons_zero, List.set_cons_succ]))
                      | (refine takeAt (i := 13) (some 91) (v := ?_) rfl rfl (by kernel_rfl) (by kernel_rfl) (by kernel_rfl) (fun _ _ _ h => h) (Or.inl ⟨by rfl, ?_⟩) (by assumption) ?_; rotate_left; (focus (intro w hSw; (try dsimp only at hSw); go_simp; (try with_reducible rfl))); (try simp only [Act.put, List.setIfInBounds_toArray, List.set_cons_zero, List.set_cons_succ]))
                    first
                      | (refine takeAt (i := 14) (some 92) (v := undef) rfl rfl (by kernel_rfl) (by kernel_rfl) (by kernel_rfl) (fun _ _ _ h => h) (Or.inr ⟨by rfl, rfl⟩) (by assumption) ?_; (try simp only [Act.put, List.setIfInBounds_toArray, List.set_cons_zero, List.set_cons_succ]))
                      | (refine wpAnyH_ready (rs := [14]) (by kernel_rfl) (by simp) ?_; refine AllReadyH.cons rfl (fun K hK => ?_) AllReadyH.nil; (try go_simp); (go_at_call 26; (with_reducible refine (HKV.out _).mono ?_); rintro e wq ⟨rfl, rfl⟩); refine hK.out _ _ hTX.cells (fun hHeld => ?_); (try simp only [Act.put, List.setIfInBounds_toArray, List.set_cons_zero, List.set_cons_succ]))
                    first
                      | (refine takeAt (i := 15) (some 93) (v := undef) rfl rfl (by kernel_rfl) (by kernel_rfl) (by kernel_rfl) (fun _ _ _ h => h) (Or.inr ⟨by rfl, rfl⟩) (by assumption) ?_; (try simp only [Act.put, List.setIfInBounds_toArray, List.set_cons_zero, List.set_cons_succ]))
                      | (refine takeAt (i := 15) (some 93) (v := ?_) rfl rfl (by kernel_rfl) (by kernel_rfl) (by kernel_rfl) (fun _ _ _ h => h) (Or.inl ⟨by rfl, ?_⟩) (by assumption) ?_; rotate_left; (focus (intro w hSw; (try dsimp only at hSw); go_simp; (try with_reducible rfl))); (try simp only [Act.put, List.setIfInBounds_toArray, List.set_cons_zero, List.set_cons_succ]))
                    first
                      | (refine takeAt (i := 16) (some 94) (v := undef) rfl rfl (by kernel_rfl) (by kernel_rfl) (by kernel_rfl) (fun _ _ _ h => h) (Or.inr ⟨by rfl, rfl⟩) (by assumption) ?_; (try simp only [Act.put, List.setIfInBounds_toArray, List.set_cons_zero, List.set_cons_succ]))
                      | (refine takeAt (i := 16) (some 94) (v := ?_) rfl rfl (by kernel_rfl) (by kernel_rfl) (by kernel_rfl) (fun _ _ _ h => h) (Or.inl ⟨by rfl, ?_⟩) (by assumption) ?_; rotate_left; (focus (intro w hSw; (try dsimp only at hSw); go_simp; (try with_reducible rfl))); (try simp only [Act.put, List.setIfInBounds_toArray, List.set_cons_zero, List.set_cons_succ]))
                    first
                      | (refine takeAt (i := 17) (some 95) (v := undef) rfl rfl (by kernel_rfl) (by kernel_rfl) (by kernel_rfl) (fun _ _ _ h => h) (Or.inr ⟨by rfl, rfl⟩) (by assumption) ?_; (try simp only [Act.put, List.setIfInBounds_toArray, List.set_cons_zero, List.set_cons_succ]))
                      | (refine takeAt (i := 17) (some 95) (v := ?_) rfl rfl (by kernel_rfl) (by kernel_rfl) (by kernel_rfl) (fun _ _ _ h => h) (Or.inl ⟨by rfl, ?_⟩) (by assumption) ?_; rotate_left; (focus (intro w hSw; (try dsimp only at hSw); go_simp; (try with_reducible rfl))); (try simp only [Act.put, List.setIfInBounds_toArray, List.set_cons_zero, List.set_cons_succ]))
                    first
                      | (refine takeAt (i := 18) (some 96) (v := undef) rfl rfl (by kernel_rfl) (by kernel_rfl) (by kernel_rfl) (fun _ _ _ h => h) (Or.inr ⟨by rfl, rfl⟩) (by assumption) ?_; (try simp only [Act.put, List.setIfInBounds_toArray, List.set_cons_zero, List.set_cons_succ]))
                      | (refine takeAt (i := 18) (some 96) (v := ?_) rfl rfl (by kernel_rfl) (by kernel_rfl) (by kernel_rfl) (fun _ _ _ h => h) (Or.inl ⟨by rfl, ?_⟩) (by assumption) ?_; rotate_left; (focus (intro w hSw; (try dsimp only at hSw); go_simp; (try with_reducible rfl))); (try simp only [Act.put, List.setIfInBounds_toArray, List.set_cons_zero, List.set_cons_succ]))
                    first
                      | (refine takeAt (i := 19) (some 97) (v := undef) rfl rfl (by kernel_rfl) (by kernel_rfl) (by kernel_rfl) (fun _ _ _ h => h) (Or.inr ⟨by rfl, rfl⟩) (by assumption) ?_; (try simp only [Act.put, List.setIfInBounds_toArray, List.set_cons_zero, List.set_cons_succ]))
                      | (refine takeAt (i := 19) (some 97) (v := ?_) rfl rfl (by kernel_rfl) (by kernel_rfl) (by kernel_rfl) (fun _ _ _ h => h) (Or.inl ⟨by rfl, ?_⟩) (by assumption) ?_; rotate_left; (focus (intro w hSw; (try dsimp only at hSw); go_simp; (try with_reducible rfl))); (try simp only [Act.put, List.setIfInBounds_toArray, List.set_cons_zero, List.set_cons_succ]))
                    first
                      | (refine takeAt (i := 20) (some 98) (v := undef) rfl rfl (by kernel_rfl) (by kernel_rfl) (by kernel_rfl) (fun _ _ _ h => h) (Or.inr ⟨by rfl, rfl⟩) (by assumption) ?_; (try simp only [Act.put, List.setIfInBounds_toArray, List.set_cons_zero, List.set_cons_succ]))
                      | (refine takeAt (i := 20) (some 98) (v := ?_) rfl rfl (by kernel_rfl) (by kernel_rfl) (by kernel_rfl) (fun _ _ _ h => h) (Or.inl ⟨by rfl, ?_⟩) (by assumption) ?_; rotate_left; (focus (intro w hSw; (try dsimp only at hSw); go_simp; (try with_reducible rfl))); (try simp only [Act.put, List.setIfInBounds_toArray, List.set_cons_zero, List.set_cons_succ]))
                    first
                      | (refine takeAt (i := 21) (some 99) (v := undef) rfl rfl (by kernel_rfl) (by kernel_rfl) (by kernel_rfl) (fun _ _ _ h => h) (Or.inr ⟨by rfl, rfl⟩) (by assumption) ?_; (try simp only [Act.put, List.setIfInBounds_toArray, List.set_cons_zero, List.set_cons_succ]))
                      | (refine takeAt (i := 21) (some 99) (v := ?_) rfl rfl (by kernel_rfl) (by kernel_rfl) (by kernel_rfl) (fun _ _ _ h => h) (Or.inl ⟨by rfl, ?_⟩) (by assumption) ?_; rotate_left; (focus (intro w hSw; (try dsimp only at hSw); go_simp; (try with_reducible rfl))); (try simp only [Act.put, List.setIfInBounds_toArray, List.set_cons_zero, List.set_cons_succ]))
                    first
                      | (refine takeAt (i := 22) (some 100) (v := undef) rfl rfl (by kernel_rfl) (by kernel_rfl) (by kernel_rfl) (fun _ _ _ h => h) (Or.inr ⟨by rfl, rfl⟩) (by assumption) ?_; (try simp only [Act.put, List.setIfInBounds_toArray, List.set_cons_zero, List.set_cons_succ]))
                      | (refine takeAt (i := 22) (some 100) (v := ?_) rfl rfl (by kernel_rfl) (by kernel_rfl) (by kernel_rfl) (fun _ _ _ h => h) (Or.inl ⟨by rfl, ?_⟩) (by assumption) ?_; rotate_left; (focus (intro w hSw; (try dsimp only at hSw); go_simp; (try with_reducible rfl))); (try simp only [Act.put, List.setIfInBounds_toArray, List.set_cons_zero, List.set_cons_succ]))
                    first
                      | (refine takeAt (i := 23) (some 101) (v := undef) rfl rfl (by kernel_rfl) (by kernel_rfl) (by kernel_rfl) (fun _ _ _ h => h) (Or.inr ⟨by rfl, rfl⟩) (by assumption) ?_; (try simp only [Act.put, List.setIfInBounds_toArray, List.set_cons_zero, List.set_cons_succ]))
                      | (refine takeAt (i := 23) (some 101) (v := ?_) rfl rfl (by kernel_rfl) (by kernel_rfl) (by kernel_rfl) (fun _ _ _ h => h) (Or.inl ⟨by rfl, ?_⟩) (by assumption) ?_; rotate_left; (focus (intro w hSw; (try dsimp only at hSw); go_simp; (try with_reducible rfl))); (try simp only [Act.put, List.setIfInBounds_toArray, List.set_cons_zero, List.set_cons_succ]))
                    first
                      | (refine takeAt (i := 24) (some 102) (v := undef) rfl rfl (by kernel_rfl) (by kernel_rfl) (by kernel_rfl) (fun _ _ _ h => h) (Or.inr ⟨by rfl, rfl⟩) (by assumption) ?_; (try simp only [Act.put, List.setIfInBounds_toArray, List.set_cons_zero, List.set_cons_succ]))
                      | (refine takeAt (i := 24) (some 102) (v := ?_) rfl rfl (by kernel_rfl) (by kernel_rfl) (by kernel_rfl) (fun _ _ _ h => h) (Or.inl ⟨by rfl, ?_⟩) (by assumption) ?_; rotate_left; (focus (intro w hSw; (try dsimp only at hSw); go_simp; (try with_reducible rfl))); (try simp only [Act.put, List.setIfInBounds_toArray, List.set_cons_zero, List.set_cons_succ]))
                    first
                      | (refine takeAt (i := 25) (some 103) (v := undef) rfl rfl (by kernel_rfl) (by kernel_rfl) (by kernel_rfl) (fun _ _ _ h => h) (Or.inr ⟨by rfl, rfl⟩) (by assumption) ?_; (try simp only [Act.put, List.setIfInBounds_toArray, List.set_cons_zero, List.set_cons_succ]))
                      | (refine takeAt (i := 25) (some 103) (v := ?_) rfl rfl (by kernel_rfl) (by kernel_rfl) (by kernel_rfl) (fun _ _ _ h => h) (Or.inl ⟨by rfl, ?_⟩) (by assumption) ?_; rotate_left; (focus (intro w hSw; (try dsimp only at hSw); go_simp; (try with_reducible rfl))); (try simp only [Act.put, List.setIfInBounds_toArray, List.set_cons_zero, List.set_cons_succ]))
                    first
                      | (refine takeAt (i := 26) (some 104) (v := undef) rfl rfl (by kernel_rfl) (by kernel_rfl) (by kernel_rfl) (fun _ _ _ h => h) (Or.inr ⟨by rfl, rfl⟩) (by assumption) ?_; (try simp only [Act.put, List.setIfInBounds_toArray, List.set_cons_zero, List.set_cons_succ]))
                      | (refine takeAt (i := 26) (some 104) (v := ?_) rfl rfl (by kernel_rfl) (by kernel_rfl) (by kernel_rfl) (fun _ _ _ h => h) (Or.inl ⟨by rfl, ?_⟩) (by assumption) ?_; rotate_left; (focus (intro w hSw; (try dsimp only at hSw); go_simp; (try with_reducible rfl))); (try simp only [Act.put, List.setIfInBounds_toArray, List.set_cons_zero, List.set_cons_succ]))
                    first
                      | (refine takeAt (i := 27) (some 105) (v := undef) rfl rfl (by kernel_rfl) (by kernel_rfl) (by kernel_rfl) (fun _ _ _ h => h) (Or.inr ⟨by rfl, rfl⟩) (by assumption) ?_; (try simp only [Act.put, List.setIfInBounds_toArray, List.set_cons_zero, List.set_cons_succ]))
                      | (refine takeAt (i := 27) (some 105) (v := ?_) rfl rfl (by kernel_rfl) (by kernel_rfl) (by kernel_rfl) (fun _ _ _ h => h) (Or.inl ⟨by rfl, ?_⟩) (by assumption) ?_; rotate_left; (focus (intro w hSw; (try dsimp only at hSw); go_simp; (try with_reducible rfl))); (try simp only [Act.put, List.setIfInBounds_toArray, List.set_cons_zero, List.set_cons_succ]))
                    refine wpAnyH_done (by kernel_rfl) ?_ _
                    go_wp2
                    go_meet
                    exact ⟨rfl, Lib.hid ⟨HDS.out, (Below.drew hlow0).trans hlS, hTX.1, hTX.2, HRW.out.kept HKS.out⟩⟩
              · have d2 : (vk == 4) = false := by simpa using c2
                have hs0 : st = false := by rw [← hst]; simp [c0, c1, c2]
                subst hs0
                clear hst c0 c1 c2
                as_aux_lemma =>
                  refine wp_region_held_drew (S := fun w' => w'.cell? ⟨w.heap.size, 0, none⟩ = some (.int .i64 vk) ∧ w'.cell? ⟨w.heap.size, 1, none⟩ = some (.int .u64 vb) ∧ w'.cell? ⟨w.heap.size, 2, none⟩ = some (.int .i64 vl) ∧ w'.cell? ⟨g15, 0, none⟩ = some (.int .i64 4) ∧ w'.cell? ⟨g15, 1, none⟩ = some (.int .u64 ob) ∧ w'.cell? ⟨g15, 2, none⟩ = some (.int .i64 1) ∧ TwoB w' w.heap.size g15 vk vb vl ob) (by kernel_rfl) HTB.out.drew.cells (fun hHeld => ?_)
                  first
                    | (refine takeAt (i := 0) (some 78) (v := undef) rfl rfl (by kernel_rfl) (by kernel_rfl) (by kernel_rfl) (fun _ _ _ h => h) (Or.inr ⟨by rfl, rfl⟩) (by assumption) ?_; (try simp only [Act.put, List.setIfInBounds_toArray, List.set_cons_zero, List.set_cons_succ]))
                    | (refine takeAt (i := 0) (some 78) (v := ?_) rfl rfl (by kernel_rfl) (by kernel_rfl) (by kernel_rfl) (fun _ _ _ h => h) (Or.inl ⟨by rfl, ?_⟩) (by assumption) ?_; rotate_left; (focus (intro w hSw; (try dsimp only at hSw); go_simp; (try with_reducible rfl))); (try simp only [Act.put, List.setIfInBounds_toArray, List.set_cons_zero, List.set_cons_succ]))
                  first
                    | (refine takeAt (i := 1) (some 79) (v := undef) rfl rfl (by kernel_rfl) (by kernel_rfl) (by kernel_rfl) (fun _ _ _ h => h) (Or.inr ⟨by rfl, rfl⟩) (by assumption) ?_; (try simp only [Act.put, List.setIfInBounds_toArray, List.set_cons_zero, List.set_cons_succ]))
                    | (refine takeAt (i := 1) (some 79) (v := ?_) rfl rfl (by kernel_rfl) (by kernel_rfl) (by kernel_rfl) (fun _ _ _ h => h) (Or.inl ⟨by rfl, ?_⟩) (by assumption) ?_; rotate_left; (focus (intro w hSw; (try dsimp only at hSw); go_simp; (try with_reducible rfl))); (try simp only [Act.put, List.setIfInBounds_toArray, List.set_cons_zero, List.set_cons_succ]))
                  first
                    | (refine takeAt (i := 2) (some 80) (v := undef) rfl rfl (by kernel_rfl) (by kernel_rfl) (by kernel_rfl) (fun _ _ _ h => h) (Or.inr ⟨by rfl, rfl⟩) (by assumption) ?_; (try simp only [Act.put, List.setIfInBounds_toArray, List.set_cons_zero, List.set_cons_succ]))
                    | (refine takeAt (i := 2) (some 80) (v := ?_) rfl rfl (by kernel_rfl) (by kernel_rfl) (by kernel_rfl) (fun _ _ _ h => h) (Or.inl ⟨by rfl, ?_⟩) (by assumption) ?_; rotate_left; (focus (intro w hSw; (try dsimp only at hSw); go_simp; (try with_reducible rfl))); (try simp only [Act.put, List.setIfInBounds_toArray, List.set_cons_zero, List.set_cons_succ]))
                  first
                    | (refine takeAt (i := 3) (some 81) (v := undef) rfl rfl (by kernel_rfl) (by kernel_rfl) (by kernel_rfl) (fun _ _ _ h => h) (Or.inr ⟨by rfl, rfl⟩) (by assumption) ?_; (try simp only [Act.put, List.setIfInBounds_toArray, List.set_cons_zero, List.set_cons_succ]))
                    | (refine takeAt (i := 3) (some 81) (v := ?_) rfl rfl (by kernel_rfl) (by kernel_rfl) (by kernel_rfl) (fun _ _ _ h => h) (Or.inl ⟨by rfl, ?_⟩) (by assumption) ?_; rotate_left; (focus (intro w hSw; (try dsimp only at hSw); go_simp; (try with_reducible rfl))); (try simp only [Act.put, List.setIfInBounds_toArray, List.set_cons_zero, List.set_cons_succ]))
                  first
                    | (refine takeAt (i := 5) (some 83) (v := undef) rfl rfl (by kernel_rfl) (by kernel_rfl) (by kernel_rfl) (fun _ _ _ h => h) (Or.inr ⟨by rfl, rfl⟩) (by assumption) ?_; (try simp only [Act.put, List.setIfInBounds_toArray, List.set_cons_zero, List.set_cons_succ]))
                    | (refine takeAt (i := 5) (some 83) (v := ?_) rfl rfl (by kernel_rfl) (by kernel_rfl) (by kernel_rfl) (fun _ _ _ h => h) (Or.inl ⟨by rfl, ?_⟩) (by assumption) ?_; rotate_left; (focus (intro w hSw; (try dsimp only at hSw); go_simp; (try with_reducible rfl))); (try simp only [Act.put, List.setIfInBounds_toArray, List.set_cons_zero, List.set_cons_succ]))
                  refine wpAnyH_ready (rs := [4]) (by kernel_rfl) (by simp) ?_
                  refine AllReadyH.cons rfl (fun K hK => ?_) AllReadyH.nil
                  go_simp
                  (go_at_call 17; (with_reducible refine (HSTO.out _ (HM0.out.next (by (repeat' (first | (with_reducible exact Below.refl _ _) | (with_reducible assumption) | (with_reducible refine Below.setCell ?_ ?_ _) | (with_reducible refine Below.alloc ?_ ?_ _) | (with_reducible refine Below.drew ?_) | (with_reducible refine below_drewN ?_ _) | (with_reducible refine below_next ?_ (by with_reducible assumption)) | omega | (dsimp only; omega) | (simp only [World.size_alloc, World.size_setCell, World.size_drew, World.heap_drewN]; omega)))))).mono ?_); rintro e wS ⟨rfl, hkS, hlS, hdS⟩; have HKS := Lib.hid hkS; have HDS := Lib.hid hdS; have hzS := hkS.1; (try simp only [World.size_alloc, World.size_setCell, World.size_drew, World.heap_drewN] at hzS); have hTX := TwoB.keptC hkS (by assumption); clear hkS hdS)
                  refine hK.out _ _ hTX.cells (fun hHeld => ?_)
                  (try simp only [Act.put, List.setIfInBounds_toArray, List.set_cons_zero, List.set_cons_succ])
                  first
                    | (refine takeAt (i := 6) (some 84) (v := undef) rfl rfl (by kernel_rfl) (by kernel_rfl) (by kernel_rfl) (fun _ _ _ h => h) (Or.inr ⟨by rfl, rfl⟩) (by assumption) ?_; (try simp only [Act.put, List.setIfInBounds_toArray, List.set_cons_zero, List.set_cons_succ]))
                    | (refine takeAt (i := 6) (some 84) (v := ?_) rfl rfl (by kernel_rfl) (by kernel_rfl) (by kernel_rfl) (fun _ _ _ h => h) (Or.inl ⟨by rfl, ?_⟩) (by assumption) ?_; rotate_left; (focus (intro w hSw; (try dsimp only at hSw); go_simp; (try with_reducible rfl))); (try simp only [Act.put, List.setIfInBounds_toArray, List.set_cons_zero, List.set_cons_succ]))
                  first
                    | (refine takeAt (i := 7) (some 85) (v := undef) rfl rfl (by kernel_rfl) (by kernel_rfl) (by kernel_rfl) (fun _ _ _ h => h) (Or.inr ⟨by rfl, rfl⟩) (by assumption) ?_; (try simp only [Act.put, List.setIfInBounds_toArray, List.set_cons_zero, List.set_cons_succ]))
                    | (refine takeAt (i := 7) (some 85) (v := ?_) rfl rfl (by kernel_rfl) (by kernel_rfl) (by kernel_rfl) (fun _ _ _ h => h) (Or.inl ⟨by rfl, ?_⟩) (by assumption) ?_; rotate_left; (focus (intro w hSw; (try dsimp only at hSw); go_simp; (try with_reducible rfl))); (try simp only [Act.put, List.setIfInBounds_toArray, List.set_cons_zero, List.set_cons_succ]))
                  first
                    | (refine takeAt (i := 8) (some 86) (v := undef) rfl rfl (by kernel_rfl) (by kernel_rfl) (by kernel_rfl) (fun _ _ _ h => h) (Or.inr ⟨by rfl, rfl⟩) (by assumption) ?_; (try simp only [Act.put, List.setIfInBounds_toArray, List.set_cons_zero, List.set_cons_succ]))
                    | (refine takeAt (i := 8) (some 86) (v := ?_) rfl rfl (by kernel_rfl) (by kernel_rfl) (by kernel_rfl) (fun _ _ _ h => h) (Or.inl ⟨by rfl, ?_⟩) (by assumption) ?_; rotate_left; (focus (intro w hSw; (try dsimp only at hSw); go_simp; (try with_reducible rfl))); (try simp only [Act.put, List.setIfInBounds_toArray, List.set_cons_zero, List.set_cons_succ]))
                  first
                    | (refine takeAt (i := 9) (some 87) (v := undef) rfl rfl (by kernel_rfl) (by kernel_rfl) (by kernel_rfl) (fun _ _ _ h => h) (Or.inr ⟨by rfl, rfl⟩) (by assumption) ?_; (try simp only [Act.put, List.setIfInBounds_toArray, List.set_cons_zero, List.set_cons_succ]))
                    | (refine takeAt (i := 9) (some 87) (v := ?_) rfl rfl (by kernel_rfl) (by kernel_rfl) (by kernel_rfl) (fun _ _ _ h => h) (Or.inl ⟨by rfl, ?_⟩) (by assumption) ?_; rotate_left; (focus (intro w hSw; (try dsimp only at hSw); go_simp; (try with_reducible rfl))); (try simp only [Act.put, List.setIfInBounds_toArray, List.set_cons_zero, List.set_cons_succ]))
                  first
                    | (refine takeAt (i := 10) (some 88) (v := undef) rfl rfl (by kernel_rfl) (by kernel_rfl) (by kernel_rfl) (fun _ _ _ h => h) (Or.inr ⟨by rfl, rfl⟩) (by assumption) ?_; (try simp only [Act.put, List.setIfInBounds_toArray, List.set_cons_zero, List.set_cons_succ]))
                    | (refine takeAt (i := 10) (some 88) (v := ?_) rfl rfl (by kernel_rfl) (by kernel_rfl) (by kernel_rfl) (fun _ _ _ h => h) (Or.inl ⟨by rfl, ?_⟩) (by assumption) ?_; rotate_left; (focus (intro w hSw; (try dsimp only at hSw); go_simp; (try with_reducible rfl))); (try simp only [Act.put, List.setIfInBounds_toArray, List.set_cons_zero, List.set_cons_succ]))
                  first
                    | (refine takeAt (i := 11) (some 89) (v := undef) rfl rfl (by kernel_rfl) (by kernel_rfl) (by kernel_rfl) (fun _ _ _ h => h) (Or.inr ⟨by rfl, rfl⟩) (by assumption) ?_; (try simp only [Act.put, List.setIfInBounds_toArray, List.set_cons_zero, List.set_cons_succ]))
                    | (refine takeAt (i := 11) (some 89) (v := ?_) rfl rfl (by kernel_rfl) (by kernel_rfl) (by kernel_rfl) (fun _ _ _ h => h) (Or.inl ⟨by rfl, ?_⟩) (by assumption) ?_; rotate_left; (focus (intro w hSw; (try dsimp only at hSw); go_simp; (try with_reducible rfl))); (try simp only [Act.put, List.setIfInBounds_toArray, List.set_cons_zero, List.set_cons_succ]))
                  first
                    | (refine takeAt (i := 12) (some 90) (v := undef) rfl rfl (by kernel_rfl) (by kernel_rfl) (by kernel_rfl) (fun _ _ _ h => h) (Or.inr ⟨by rfl, rfl⟩) (by assumption) ?_; (try simp only [Act.put, List.setIfInBounds_toArray, List.set_cons_zero, List.set_cons_succ]))
                    | (refine takeAt (i := 12) (some 90) (v := ?_) rfl rfl (by kernel_rfl) (by kernel_rfl) (by kernel_rfl) (fun _ _ _ h => h) (Or.inl ⟨by rfl, ?_⟩) (by assumption) ?_; rotate_left; (focus (intro w hSw; (try dsimp only at hSw); go_simp; (try with_reducible rfl))); (try simp only [Act.put, List.setIfInBounds_toArray, List.set_cons_zero, List.set_cons_succ]))
                  first
                    | (refine takeAt (i := 13) (some 91) (v := undef) rfl rfl (by kernel_rfl) (by kernel_rfl) (by kernel_rfl) (fun _ _ _ h => h) (Or.inr ⟨by rfl, rfl⟩) (by assumption) ?_; (try simp only [Act.put, List.setIfInBounds_toArray, List.set_cons_zero, List.set_cons_succ]))
                    | (refine takeAt (i := 13) (some 91) (v := ?_) rfl rfl (by kernel_rfl) (by kernel_rfl) (by kernel_rfl) (fun _ _ _ h => h) (Or.inl ⟨by rfl, ?_⟩) (by assumption) ?_; rotate_left; (focus (intro w hSw; (try dsimp only at hSw); go_simp; (try with_reducible rfl))); (try simp only [Act.put, List.setIfInBounds_toArray, List.set_cons_zero, List.set_cons_succ]))
                  first
                    | (refine takeAt (i := 14) (some 92) (v := undef) rfl rfl (by kernel_rfl) (by kernel_rfl) (by kernel_rfl) (fun _ _ _ h => h) (Or.inr ⟨by rfl, rfl⟩) (by assumption) ?_; (try simp only [Act.put, List.setIfInBounds_toArray, List.set_cons_zero, List.set_cons_succ]))
                    | (refine wpAnyH_ready (rs := [14]) (by kernel_rfl) (by simp) ?_; refine AllReadyH.cons rfl (fun K hK => ?_) AllReadyH.nil; (try go_simp); (go_at_call 26; (with_reducible refine (HKV.out _).mono ?_); rintro e wq ⟨rfl, rfl⟩); refine hK.out _ _ hTX.cells (fun hHeld => ?_); (try simp only [Act.put, List.setIfInBounds_toArray, List.set_cons_zero, List.set_cons_succ]))
                  first
                    | (refine takeAt (i := 15) (some 93) (v := undef) rfl rfl (by kernel_rfl) (by kernel_rfl) (by kernel_rfl) (fun _ _ _ h => h) (Or.inr ⟨by rfl, rfl⟩) (by assumption) ?_; (try simp only [Act.put, List.setIfInBounds_toArray, List.set_cons_zero, List.set_cons_succ]))
                    | (refine takeAt (i := 15) (some 93) (v := ?_) rfl rfl (by kernel_rfl) (by kernel_rfl) (by kernel_rfl) (fun _ _ _ h => h) (Or.inl ⟨by rfl, ?_⟩) (by assumption) ?_; rotate_left; (focus (intro w hSw; (try dsimp only at hSw); go_simp; (try with_reducible rfl))); (try simp only [Act.put, List.setIfInBounds_toArray, List.set_cons_zero, List.set_cons_succ]))
                  first
                    | (refine takeAt (i := 16) (some 94) (v := undef) rfl rfl (by kernel_rfl) (by kernel_rfl) (by kernel_rfl) (fun _ _ _ h => h) (Or.inr ⟨by rfl, rfl⟩) (by assumption) ?_; (try simp only [Act.put, List.setIfInBounds_toArray, List.set_cons_zero, List.set_cons_succ]))
                    | (refine takeAt (i := 16) (some 94) (v := ?_) rfl rfl (by kernel_rfl) (by kernel_rfl) (by kernel_rfl) (fun _ _ _ h => h) (Or.inl ⟨by rfl, ?_⟩) (by assumption) ?_; rotate_left; (focus (intro w hSw; (try dsimp only at hSw); go_simp; (try with_reducible rfl))); (try simp only [Act.put, List.setIfInBounds_toArray, List.set_cons_zero, List.set_cons_succ]))
                  first
                    | (refine takeAt (i := 17) (some 95) (v := undef) rfl rfl (by kernel_rfl) (by kernel_rfl) (by kernel_rfl) (fun _ _ _ h => h) (Or.inr ⟨by rfl, rfl⟩) (by assumption) ?_; (try simp only [Act.put, List.setIfInBounds_toArray, List.set_cons_zero, List.set_cons_succ]))
                    | (refine takeAt (i := 17) (some 95) (v := ?_) rfl rfl (by kernel_rfl) (by kernel_rfl) (by kernel_rfl) (fun _ _ _ h => h) (Or.inl ⟨by rfl, ?_⟩) (by assumption) ?_; rotate_left; (focus (intro w hSw; (try dsimp only at hSw); go_simp; (try with_reducible rfl))); (try simp only [Act.put, List.setIfInBounds_toArray, List.set_cons_zero, List.set_cons_succ]))
                  first
                    | (refine takeAt (i := 18) (some 96) (v := undef) rfl rfl (by kernel_rfl) (by kernel_rfl) (by kernel_rfl) (fun _ _ _ h => h) (Or.inr ⟨by rfl, rfl⟩) (by assumption) ?_; (try simp only [Act.put, List.setIfInBounds_toArray, List.set_cons_zero, List.set_cons_succ]))
                    | (refine takeAt (i := 18) (some 96) (v := ?_) rfl rfl (by kernel_rfl) (by kernel_rfl) (by kernel_rfl) (fun _ _ _ h => h) (Or.inl ⟨by rfl, ?_⟩) (by assumption) ?_; rotate_left; (focus (intro w hSw; (try dsimp only at hSw); go_simp; (try with_reducible rfl))); (try simp only [Act.put, List.setIfInBounds_toArray, List.set_cons_zero, List.set_cons_succ]))
                  first
                    | (refine takeAt (i := 19) (some 97) (v := undef) rfl rfl (by kernel_rfl) (by kernel_rfl) (by kernel_rfl) (fun _ _ _ h => h) (Or.inr ⟨by rfl, rfl⟩) (by assumption) ?_; (try simp only [Act.put, List.setIfInBounds_toArray, List.set_cons_zero, List.set_cons_succ]))
                    | (refine takeAt (i := 19) (some 97) (v := ?_) rfl rfl (by kernel_rfl) (by kernel_rfl) (by kernel_rfl) (fun _ _ _ h => h) (Or.inl ⟨by rfl, ?_⟩) (by assumption) ?_; rotate_left; (focus (intro w hSw; (try dsimp only at hSw); go_simp; (try with_reducible rfl))); (try simp only [Act.put, List.setIfInBounds_toArray, List.set_cons_zero, List.set_cons_succ]))
                  first
                    | (refine takeAt (i := 20) (some 98) (v := undef) rfl rfl (by kernel_rfl) (by kernel_rfl) (by kernel_rfl) (fun _ _ _ h => h) (Or.inr ⟨by rfl, rfl⟩) (by assumption) ?_; (try simp only [Act.put, List.setIfInBounds_toArray, List.set_cons_zero, List.set_cons_succ]))
                    | (refine takeAt (i := 20) (some 98) (v := ?_) rfl rfl (by kernel_rfl) (by kernel_rfl) (by kernel_rfl) (fun _ _ _ h => h) (Or.inl ⟨by rfl, ?_⟩) (by assumption) ?_; rotate_left; (focus (intro w hSw; (try dsimp only at hSw); go_simp; (try with_reducible rfl))); (try simp only [Act.put, List.setIfInBounds_toArray, List.set_cons_zero, List.set_cons_succ]))
                  first
                    | (refine takeAt (i := 21) (some 99) (v := undef) rfl rfl (by kernel_rfl) (by kernel_rfl) (by kernel_rfl) (fun _ _ _ h => h) (Or.inr ⟨by rfl, rfl⟩) (by assumption) ?_; (try simp only [Act.put, List.setIfInBounds_toArray, List.set_cons_zero, List.set_cons_succ]))
                    | (refine takeAt (i := 21) (some 99) (v := ?_) rfl rfl (by kernel_rfl) (by kernel_rfl) (by kernel_rfl) (fun _ _ _ h => h) (Or.inl ⟨by rfl, ?_⟩) (by assumption) ?_; rotate_left; (focus (intro w hSw; (try dsimp only at hSw); go_simp; (try with_reducible rfl))); (try simp only [Act.put, List.setIfInBounds_toArray, List.set_cons_zero, List.set_cons_succ]))
                  first
                    | (refine takeAt (i := 22) (some 100) (v := undef) rfl rfl (by kernel_rfl) (by kernel_rfl) (by kernel_rfl) (fun _ _ _ h => h) (Or.inr ⟨by rfl, rfl⟩) (by assumption) ?_; (try simp only [Act.put, List.setIfInBounds_toArray, List.set_cons_zero, List.set_cons_succ]))
                    | (refine takeAt (i := 22) (some 100) (v := ?_) rfl rfl (by kernel_rfl) (by kernel_rfl) (by kernel_rfl) (fun _ _ _ h => h) (Or.inl ⟨by rfl, ?_⟩) (by assumption) ?_; rotate_left; (focus (intro w hSw; (try dsimp only at hSw); go_simp; (try with_reducible rfl))); (try simp only [Act.put, List.setIfInBounds_toArray, List.set_cons_zero, List.set_cons_succ]))
                  first
                    | (refine takeAt (i := 23) (some 101) (v := undef) rfl rfl (by kernel_rfl) (by kernel_rfl) (by kernel_rfl) (fun _ _ _ h => h) (Or.inr ⟨by rfl, rfl⟩) (by assumption) ?_; (try simp only [Act.put, List.setIfInBounds_toArray, List.set_cons_zero, List.set_cons_succ]))
                    | (refine takeAt (i := 23) (some 101) (v := ?_) rfl rfl (by kernel_rfl) (by kernel_rfl) (by kernel_rfl) (fun _ _ _ h => h) (Or.inl ⟨by rfl, ?_⟩) (by assumption) ?_; rotate_left; (focus (intro w hSw; (try dsimp only at hSw); go_simp; (try with_reducible rfl))); (try simp only [Act.put, List.setIfInBounds_toArray, List.set_cons_zero, List.set_cons_succ]))
                  first
                    | (refine takeAt (i := 24) (some 102) (v := undef) rfl rfl (by kernel_rfl) (by kernel_rfl) (by kernel_rfl) (fun _ _ _ h => h) (Or.inr ⟨by rfl, rfl⟩) (by assumption) ?_; (try simp only [Act.put, List.setIfInBounds_toArray, List.set_cons_zero, List.set_cons_succ]))
                    | (refine takeAt (i := 24) (some 102) (v := ?_) rfl rfl (by kernel_rfl) (by kernel_rfl) (by kernel_rfl) (fun _ _ _ h => h) (Or.inl ⟨by rfl, ?_⟩) (by assumption) ?_; rotate_left; (focus (intro w hSw; (try dsimp only at hSw); go_simp; (try with_reducible rfl))); (try simp only [Act.put, List.setIfInBounds_toArray, List.set_cons_zero, List.set_cons_succ]))
                  first
                    | (refine takeAt (i := 25) (some 103) (v := undef) rfl rfl (by kernel_rfl) (by kernel_rfl) (by kernel_rfl) (fun _ _ _ h => h) (Or.inr ⟨by rfl, rfl⟩) (by assumption) ?_; (try simp only [Act.put, List.setIfInBounds_toArray, List.set_cons_zero, List.set_cons_succ]))
                    | (refine takeAt (i := 25) (some 103) (v := ?_) rfl rfl (by kernel_rfl) (by kernel_rfl) (by kernel_rfl) (fun _ _ _ h => h) (Or.inl ⟨by rfl, ?_⟩) (by assumption) ?_; rotate_left; (focus (intro w hSw; (try dsimp only at hSw); go_simp; (try with_reducible rfl))); (try simp only [Act.put, List.setIfInBounds_toArray, List.set_cons_zero, List.set_cons_succ]))
                  first
                    | (refine takeAt (i := 26) (some 104) (v := undef) rfl rfl (by kernel_rfl) (by kernel_rfl) (by kernel_rfl) (fun _ _ _ h => h) (Or.inr ⟨by rfl, rfl⟩) (by assumption) ?_; (try simp only [Act.put, List.setIfInBounds_toArray, List.set_cons_zero, List.set_cons_succ]))
                    | (refine takeAt (i := 26) (some 104) (v := ?_) rfl rfl (by kernel_rfl) (by kernel_rfl) (by kernel_rfl) (fun _ _ _ h => h) (Or.inl ⟨by rfl, ?_⟩) (by assumption) ?_; rotate_left; (focus (intro w hSw; (try dsimp only at hSw); go_simp; (try with_reducible rfl))); (try simp only [Act.put, List.setIfInBounds_toArray, List.set_cons_zero, List.set_cons_succ]))
                  first
                    | (refine takeAt (i := 27) (some 105) (v := undef) rfl rfl (by kernel_rfl) (by kernel_rfl) (by kernel_rfl) (fun _ _ _ h => h) (Or.inr ⟨by rfl, rfl⟩) (by assumption) ?_; (try simp only [Act.put, List.setIfInBounds_toArray, List.set_cons_zero, List.set_cons_succ]))
                    | (refine takeAt (i := 27) (some 105) (v := ?_) rfl rfl (by kernel_rfl) (by kernel_rfl) (by kernel_rfl) (fun _ _ _ h => h) (Or.inl ⟨by rfl, ?_⟩) (by assumption) ?_; rotate_left; (focus (intro w hSw; (try dsimp only at hSw); go_simp; (try with_reducible rfl))); (try simp only [Act.put, List.setIfInBounds_toArray, List.set_cons_zero, List.set_cons_succ]))
                  refine wpAnyH_done (by kernel_rfl) ?_ _
                  go_wp2
                  go_meet
                  exact ⟨rfl, Lib.hid ⟨HDS.out, (Below.drew hlow0).trans hlS, hTX.1, hTX.2, HRW.out.kept HKS.out⟩⟩
      case rest =>
        obtain ⟨n, hn⟩ : ∃ n, sizeV chunk = n := ⟨_, rfl⟩
        have HN := Lib.hid (size_any chunk)
        rw [hn] at HN
        obtain ⟨rfl, HD0⟩ := hcut
        obtain ⟨q1, q2, q3, q4⟩ := HD0.out.box.cells
        have hlq := q4.lt
        go_upto_region 19 with (first
          | (go_at_call 24; (with_reducible refine (HN.out _).mono ?_); rintro e wq ⟨rfl, rfl⟩))
        go_cut [19] (fun s19 wx => s19 = .bool st ∧ Hid (Done w wx pm bm gw g15 k (1 + k + 1) chunk off ob vk vb vl B.cells st))
        case first =>
          cases can with
          | false =>
            have hs0 : st = false := by rw [← hst]; rfl
            subst hs0
            clear hst
            as_aux_lemma =>
              refine wp_region_ext (by kernel_rfl) (by kernel_rfl) ?_
              repeat (first | go_big_quiet_skip | (go_big_quiet_want; go_big_quiet_op; first | go_big_quiet_on | (apply Exists.intro; refine ⟨fun W hW => ?_, ?_⟩; (focus (first
                | (go_at_call 26; (with_reducible refine (HKV.out _).mono ?_); rintro e w1 ⟨rfl, rfl⟩; exact ⟨rfl, hW⟩)
                | exact rfl | (obtain ⟨hcW, hfW, hzW⟩ := cif (Ext.of hW); (try simp only [World.size_alloc, World.size_setCell, World.size_drew, World.heap_drewN] at hzW); simp [go_sem, *, ↓IntWalk.iteOmega]; (try exact rfl)))); go_big_quiet_on)))
              refine wpQuiet_nil ?_
              intro w' hw'
              have hbl := Ext.of hw'
              obtain ⟨hc, hf, hz⟩ := cif hbl
              (try simp only [World.size_alloc, World.size_setCell, World.size_drew, World.heap_drewN] at hz)
              clear hw'
              go_wp2
              go_meet
              exact ⟨rfl, Lib.hid (HD0.out.next hbl)⟩
          | true =>
            unfold takesA at hst
            rw [hkv, Bool.true_and] at hst
            by_cases c0 : vk = 0
            · have d0 : (vk == 0) = true := by simpa using c0
              have hs0 : st = true := by rw [← hst]; simp [c0]
              subst hs0
              clear hst c0
              as_aux_lemma =>
                refine wp_region_ext (by kernel_rfl) (by kernel_rfl) ?_
                repeat (first | go_big_quiet_skip | (go_big_quiet_want; go_big_quiet_op; first | go_big_quiet_on | (apply Exists.intro; refine ⟨fun W hW => ?_, ?_⟩; (focus (first
                  | (go_at_call 26; (with_reducible refine (HKV.out _).mono ?_); rintro e w1 ⟨rfl, rfl⟩; exact ⟨rfl, hW⟩)
                  | exact rfl | (obtain ⟨hcW, hfW, hzW⟩ := cif (Ext.of hW); (try simp only [World.size_alloc, World.size_setCell, World.size_drew, World.heap_drewN] at hzW); simp [go_sem, *, ↓IntWalk.iteOmega]; (try exact rfl)))); go_big_quiet_on)))
                refine wpQuiet_nil ?_
                intro w' hw'
                have hbl := Ext.of hw'
                obtain ⟨hc, hf, hz⟩ := cif hbl
                (try simp only [World.size_alloc, World.size_setCell, World.size_drew, World.heap_drewN] at hz)
                clear hw'
                go_wp2
                go_meet
                exact ⟨rfl, Lib.hid (HD0.out.next hbl)⟩
            · have d0 : (vk == 0) = false := by simpa using c0
              by_cases c1 : vk = kv
              · have d1 : (vk == kv) = true := by simpa using c1
                have hs0 : st = true := by rw [← hst]; simp [c1]
                subst hs0
                clear hst c0 c1
                as_aux_lemma =>
                  refine wp_region_ext (by kernel_rfl) (by kernel_rfl) ?_
                  repeat (first | go_big_quiet_skip | (go_big_quiet_want; go_big_quiet_op; first | go_big_quiet_on | (apply Exists.intro; refine ⟨fun W hW => ?_, ?_⟩; (focus (first
                    | (go_at_call 26; (with_reducible refine (HKV.out _).mono ?_); rintro e w1 ⟨rfl, rfl⟩; exact ⟨rfl, hW⟩)
                    | exact rfl | (obtain ⟨hcW, hfW, hzW⟩ := cif (Ext.of hW); (try simp only [World.size_alloc, World.size_setCell, World.size_drew, World.heap_drewN] at hzW); simp [go_sem, *, ↓IntWalk.iteOmega]; (try exact rfl)))); go_big_quiet_on)))
                  refine wpQuiet_nil ?_
                  intro w' hw'
                  have hbl := Ext.of hw'
                  obtain ⟨hc, hf, hz⟩ := cif hbl
                  (try simp only [World.size_alloc, World.size_setCell, World.size_drew, World.heap_drewN] at hz)
                  clear hw'
                  go_wp2
                  go_meet
                  exact ⟨rfl, Lib.hid (HD0.out.next hbl)⟩
              · have d1 : (vk == kv) = false := by simpa using c1
                by_cases c2 : vk = 4
                · have d2 : (vk == 4) = true := by simpa using c2
                  by_cases c3 : chunk = 6
                  · have d3 : (chunk == 6) = true := by simpa using c3
                    have hs0 : st = true := by rw [← hst]; simp [c2, c3]
                    subst hs0
                    clear hst c0 c1 c2 c3
                    as_aux_lemma =>
                      refine wp_region_ext (by kernel_rfl) (by kernel_rfl) ?_
                      repeat (first | go_big_quiet_skip | (go_big_quiet_want; go_big_quiet_op; first | go_big_quiet_on | (apply Exists.intro; refine ⟨fun W hW => ?_, ?_⟩; (focus (first
                        | (go_at_call 26; (with_reducible refine (HKV.out _).mono ?_); rintro e w1 ⟨rfl, rfl⟩; exact ⟨rfl, hW⟩)
                        | exact rfl | (obtain ⟨hcW, hfW, hzW⟩ := cif (Ext.of hW); (try simp only [World.size_alloc, World.size_setCell, World.size_drew, World.heap_drewN] at hzW); simp [go_sem, *, ↓IntWalk.iteOmega]; (try exact rfl)))); go_big_quiet_on)))
                      refine wpQuiet_nil ?_
                      intro w' hw'
                      have hbl := Ext.of hw'
                      obtain ⟨hc, hf, hz⟩ := cif hbl
                      (try simp only [World.size_alloc, World.size_setCell, World.size_drew, World.heap_drewN] at hz)
                      clear hw'
                      go_wp2
                      go_meet
                      exact ⟨rfl, Lib.hid (HD0.out.next hbl)⟩
                  · have d3 : (chunk == 6) = false := by simpa using c3
                    have hs0 : st = false := by rw [← hst]; simp [c0, c1, c3]
                    subst hs0
                    clear hst c0 c1 c2 c3
                    as_aux_lemma =>
                      refine wp_region_ext (by kernel_rfl) (by kernel_rfl) ?_
                      repeat (first | go_big_quiet_skip | (go_big_quiet_want; go_big_quiet_op; first | go_big_quiet_on | (apply Exists.intro; refine ⟨fun W hW => ?_, ?_⟩; (focus (first
                        | (go_at_call 26; (with_reducible refine (HKV.out _).mono ?_); rintro e w1 ⟨rfl, rfl⟩; exact ⟨rfl, hW⟩)
                        | exact rfl | (obtain ⟨hcW, hfW, hzW⟩ := cif (Ext.of hW); (try simp only [World.size_alloc, World.size_setCell, World.size_drew, World.heap_drewN] at hzW); simp [go_sem, *, ↓IntWalk.iteOmega]; (try exact rfl)))); go_big_quiet_on)))
                      refine wpQuiet_nil ?_
                      intro w' hw'
                      have hbl := Ext.of hw'
                      obtain ⟨hc, hf, hz⟩ := cif hbl
                      (try simp only [World.size_alloc, World.size_setCell, World.size_drew, World.heap_drewN] at hz)
                      clear hw'
                      go_wp2
                      go_meet
                      exact ⟨rfl, Lib.hid (HD0.out.next hbl)⟩
                · have d2 : (vk == 4) = false := by simpa using c2
                  have hs0 : st = false := by rw [← hst]; simp [c0, c1, c2]
                  subst hs0
                  clear hst c0 c1 c2
                  as_aux_lemma =>
                    refine wp_region_ext (by kernel_rfl) (by kernel_rfl) ?_
                    repeat (first | go_big_quiet_skip | (go_big_quiet_want; go_big_quiet_op; first | go_big_quiet_on | (apply Exists.intro; refine ⟨fun W hW => ?_, ?_⟩; (focus (first
                      | (go_at_call 26; (with_reducible refine (HKV.out _).mono ?_); rintro e w1 ⟨rfl, rfl⟩; exact ⟨rfl, hW⟩)
                      | exact rfl | (obtain ⟨hcW, hfW, hzW⟩ := cif (Ext.of hW); (try simp only [World.size_alloc, World.size_setCell, World.size_drew, World.heap_drewN] at hzW); simp [go_sem, *, ↓IntWalk.iteOmega]; (try exact rfl)))); go_big_quiet_on)))
                    refine wpQuiet_nil ?_
                    intro w' hw'
                    have hbl := Ext.of hw'
                    obtain ⟨hc, hf, hz⟩ := cif hbl
                    (try simp only [World.size_alloc, World.size_setCell, World.size_drew, World.heap_drewN] at hz)
                    clear hw'
                    go_wp2
                    go_meet
                    exact ⟨rfl, Lib.hid (HD0.out.next hbl)⟩
        case rest =>
          obtain ⟨rfl, HD⟩ := hcut
          clear HD0 q1 q2 q3 q4 hlq
          go_wp2
          go_loopw [20, 21, 22, 131] (fun s20 s21 s22 i wr => ∃ j : Nat, j ≤ k ∧ i = .int .i64 j ∧ Hid (Done w wr pm bm gw g15 k (1 + k + 1) chunk off ob vk vb vl B.cells st)) (fun _ _ _ i _ => k - (intOf i).toNat)
          case atStart => exact ⟨0, by omega, rfl, HD⟩
          case round =>
            obtain ⟨j, hj, rfl, HJ⟩ := hrel
            by_cases hlt : j < k
            · have HPJ := Lib.hid (fun w => ptr_at (b := 1) (off := (j : Int)) (by omega) w)
              rw [show (j : Int) % 18446744073709551616 = j from by omega] at HPJ
              obtain ⟨M2, B2, hM2, hM21, hl2, hsame, hback, hoff⟩ := HJ.out.mem
              have HM := Lib.hid hM2
              have HLD := Lib.hid (load8 hM21 j (by omega) (by omega))
              obtain ⟨x, hx⟩ : ∃ x, b8 (B2.cells.getD j 0) = x := ⟨_, rfl⟩
              rw [hx] at HLD
              obtain ⟨x1, x2, x3⟩ := x
              obtain ⟨cs, hc1, hc2, hc3⟩ := HJ.out.row
              obtain ⟨e1, e2, e3⟩ := hc3 j hlt
              have c1 := ((cells_of_block hc1).1 (j * 3)).trans e1
              have c2 := ((cells_of_block hc1).1 (j * 3 + 1)).trans e2
              have c3 := ((cells_of_block hc1).1 (j * 3 + 2)).trans e3
              have hgwl := lt_of_block hc1
              rw [hn] at hsame
              have HS := Lib.hid hsame
              have HO := Lib.hid hoff
              clear hM2 hM21 hc1 hc2 hc3 e1 e2 e3 hback hsame hoff
              go_upto_region 24 with (first
                | (go_at_call 23; (with_reducible refine (HPJ.out _).mono ?_); rintro e wP ⟨rfl, hbP⟩; obtain ⟨hcP, hfP, hzP⟩ := cif hbP; (try simp only [World.size_alloc, World.size_setCell, World.size_drew, World.heap_drewN] at hzP))
                | (go_at_call 15; (with_reducible refine (load_some (HM.out.next (by (repeat' (first | (with_reducible exact Below.refl _ _) | (with_reducible assumption) | (with_reducible refine Below.setCell ?_ ?_ _) | (with_reducible refine Below.alloc ?_ ?_ _) | (with_reducible refine Below.drew ?_) | (with_reducible refine below_drewN ?_ _) | (with_reducible refine below_next ?_ (by with_reducible assumption)) | omega | (dsimp only; omega) | (simp only [World.size_alloc, World.size_setCell, World.size_drew, World.heap_drewN]; omega))))) 2 j 1 x1 x2 x3 (by unfold I64; omega) HLD.out).mono ?_); rintro e wL ⟨rfl, hbL⟩; obtain ⟨hcL, hfL, hzL⟩ := cif hbL; (try simp only [World.size_alloc, World.size_setCell, World.size_drew, World.heap_drewN] at hzL)))
              cases st with
              | false =>
                have hx' := HS.out j hlt (Or.inl rfl)
                rw [← hx', hx] at c1 c2 c3
                clear hx'
                as_aux_lemma =>
                  (try dsimp only at c1 c2 c3)
                  have hA1 := cell_alloc_if
                  have hA2 := frozen_alloc_if
                  have hA3 := cell_set_if
                  refine wp_region_ext (by kernel_rfl) (by kernel_rfl) ?_
                  repeat (first | go_big_quiet_skip | (go_big_quiet_want; go_big_quiet_op; first | go_big_quiet_on | (apply Exists.intro; refine ⟨fun W hW => ?_, ?_⟩; (focus (first
                    | (go_at_call 26; (with_reducible refine (HKV.out _).mono ?_); rintro e w1 ⟨rfl, rfl⟩; exact ⟨rfl, hW⟩)
                    | exact rfl | (obtain ⟨hcW, hfW, hzW⟩ := cif (Ext.of hW); (try simp only [World.size_alloc, World.size_setCell, World.size_drew, World.heap_drewN] at hzW); simp [go_sem, *, ↓IntWalk.iteOmega]; (try exact rfl)))); go_big_quiet_on)))
                  refine wpQuiet_nil ?_
                  intro w' hw'
                  have hbl := Ext.of hw'
                  obtain ⟨hc, hf, hz⟩ := cif hbl
                  (try simp only [World.size_alloc, World.size_setCell, World.size_drew, World.heap_drewN] at hz)
                  clear hw'
                  go_wp2
                  go_roundw
                  case rel => exact ⟨j + 1, by omega, by go_num, Lib.hid (HJ.out.next (by (repeat' (first | (with_reducible exact Below.refl _ _) | (with_reducible assumption) | (with_reducible refine Below.setCell ?_ ?_ _) | (with_reducible refine Below.alloc ?_ ?_ _) | (with_reducible refine Below.drew ?_) | (with_reducible refine below_drewN ?_ _) | (with_reducible refine below_next ?_ (by with_reducible assumption)) | omega | (dsimp only; omega) | (simp only [World.size_alloc, World.size_setCell, World.size_drew, World.heap_drewN]; omega)))))⟩
                  case measure => simp [intOf]; omega
              | true =>
                obtain ⟨o1, o2⟩ := HO.out rfl
                by_cases ca : (j : Int) < off
                · have d : decide ((j : Int) < off) = true := by simpa using ca
                  have hx' := HS.out j hlt (Or.inr (Or.inl ca))
                  rw [← hx', hx] at c1 c2 c3
                  clear hx'
                  as_aux_lemma =>
                    (try dsimp only at c1 c2 c3)
                    have hA1 := cell_alloc_if
                    have hA2 := frozen_alloc_if
                    have hA3 := cell_set_if
                    refine wp_region_ext (by kernel_rfl) (by kernel_rfl) ?_
                    repeat (first | go_big_quiet_skip | (go_big_quiet_want; go_big_quiet_op; first | go_big_quiet_on | (apply Exists.intro; refine ⟨fun W hW => ?_, ?_⟩; (focus (first
                      | (go_at_call 26; (with_reducible refine (HKV.out _).mono ?_); rintro e w1 ⟨rfl, rfl⟩; exact ⟨rfl, hW⟩)
                      | exact rfl | (obtain ⟨hcW, hfW, hzW⟩ := cif (Ext.of hW); (try simp only [World.size_alloc, World.size_setCell, World.size_drew, World.heap_drewN] at hzW); simp [go_sem, *, ↓IntWalk.iteOmega]; (try exact rfl)))); go_big_quiet_on)))
                    refine wpQuiet_nil ?_
                    intro w' hw'
                    have hbl := Ext.of hw'
                    obtain ⟨hc, hf, hz⟩ := cif hbl
                    (try simp only [World.size_alloc, World.size_setCell, World.size_drew, World.heap_drewN] at hz)
                    clear hw'
                    go_wp2
                    go_roundw
                    case rel => exact ⟨j + 1, by omega, by go_num, Lib.hid (HJ.out.next (by (repeat' (first | (with_reducible exact Below.refl _ _) | (with_reducible assumption) | (with_reducible refine Below.setCell ?_ ?_ _) | (with_reducible refine Below.alloc ?_ ?_ _) | (with_reducible refine Below.drew ?_) | (with_reducible refine below_drewN ?_ _) | (with_reducible refine below_next ?_ (by with_reducible assumption)) | omega | (dsimp only; omega) | (simp only [World.size_alloc, World.size_setCell, World.size_drew, World.heap_drewN]; omega)))))⟩
                    case measure => simp [intOf]; omega
                · have d : decide ((j : Int) < off) = false := by simpa using ca
                  by_cases cb : n ≤ (j : Int) - off
                  · have hx' := HS.out j hlt (Or.inr (Or.inr cb))
                    rw [← hx', hx] at c1 c2 c3
                    clear hx'
                    have d2 : decide (n ≤ wrap64 ((j : Int) - off)) = true := by unfold wrap64; simp; omega
                    as_aux_lemma =>
                      (try dsimp only at c1 c2 c3)
                      have hA1 := cell_alloc_if
                      have hA2 := frozen_alloc_if
                      have hA3 := cell_set_if
                      refine wp_region_ext (by kernel_rfl) (by kernel_rfl) ?_
                      repeat (first | go_big_quiet_skip | (go_big_quiet_want; go_big_quiet_op; first | go_big_quiet_on | (apply Exists.intro; refine ⟨fun W hW => ?_, ?_⟩; (focus (first
                        | (go_at_call 26; (with_reducible refine (HKV.out _).mono ?_); rintro e w1 ⟨rfl, rfl⟩; exact ⟨rfl, hW⟩)
                        | exact rfl | (obtain ⟨hcW, hfW, hzW⟩ := cif (Ext.of hW); (try simp only [World.size_alloc, World.size_setCell, World.size_drew, World.heap_drewN] at hzW); simp [go_sem, *, ↓IntWalk.iteOmega]; (try exact rfl)))); go_big_quiet_on)))
                      refine wpQuiet_nil ?_
                      intro w' hw'
                      have hbl := Ext.of hw'
                      obtain ⟨hc, hf, hz⟩ := cif hbl
                      (try simp only [World.size_alloc, World.size_setCell, World.size_drew, World.heap_drewN] at hz)
                      clear hw'
                      go_wp2
                      go_roundw
                      case rel => exact ⟨j + 1, by omega, by go_num, Lib.hid (HJ.out.next (by (repeat' (first | (with_reducible exact Below.refl _ _) | (with_reducible assumption) | (with_reducible refine Below.setCell ?_ ?_ _) | (with_reducible refine Below.alloc ?_ ?_ _) | (with_reducible refine Below.drew ?_) | (with_reducible refine below_drewN ?_ _) | (with_reducible refine below_next ?_ (by with_reducible assumption)) | omega | (dsimp only; omega) | (simp only [World.size_alloc, World.size_setCell, World.size_drew, World.heap_drewN]; omega)))))⟩
                      case measure => simp [intOf]; omega
                  · have d2 : decide (n ≤ wrap64 ((j : Int) - off)) = false := by unfold wrap64; simp; omega
                    as_aux_lemma =>
                      (try dsimp only at c1 c2 c3)
                      have hA1 := cell_alloc_if
                      have hA2 := frozen_alloc_if
                      have hA3 := cell_set_if
                      refine wp_region_ext (by kernel_rfl) (by kernel_rfl) ?_
                      repeat (first | go_big_quiet_skip | (go_big_quiet_want; go_big_quiet_op; first | go_big_quiet_on | (apply Exists.intro; refine ⟨fun W hW => ?_, ?_⟩; (focus (first
                        | (go_at_call 26; (with_reducible refine (HKV.out _).mono ?_); rintro e w1 ⟨rfl, rfl⟩; exact ⟨rfl, hW⟩)
                        | exact rfl | (obtain ⟨hcW, hfW, hzW⟩ := cif (Ext.of hW); (try simp only [World.size_alloc, World.size_setCell, World.size_drew, World.heap_drewN] at hzW); simp [go_sem, *, ↓IntWalk.iteOmega]; (try exact rfl)))); go_big_quiet_on)))
                      refine wpQuiet_nil ?_
                      intro w' hw'
                      have hbl := Ext.of hw'
                      obtain ⟨hc, hf, hz⟩ := cif hbl
                      (try simp only [World.size_alloc, World.size_setCell, World.size_drew, World.heap_drewN] at hz)
                      clear hw'
                      go_wp2
                      go_roundw
                      case rel => exact ⟨j + 1, by omega, by go_num, Lib.hid (HJ.out.next (by (repeat' (first | (with_reducible exact Below.refl _ _) | (with_reducible assumption) | (with_reducible refine Below.setCell ?_ ?_ _) | (with_reducible refine Below.alloc ?_ ?_ _) | (with_reducible refine Below.drew ?_) | (with_reducible refine below_drewN ?_ _) | (with_reducible refine below_next ?_ (by with_reducible assumption)) | omega | (dsimp only; omega) | (simp only [World.size_alloc, World.size_setCell, World.size_drew, World.heap_drewN]; omega)))))⟩
                      case measure => simp [intOf]; omega
            · have hjn : j = k := by omega
              subst hjn
              have hlowJ := HJ.out.low
              obtain ⟨q1, q2, q3, q4⟩ := HJ.out.box.cells
              obtain ⟨p1, p2, p3, p4⟩ := HJ.out.at_.cells
              have f0 := (cells_of_block q4).2
              have hlq := q4.lt
              have hlp := p4.lt
              clear q4 p4
              obtain ⟨M2, B2, hM2, hM21, hl2, hsame, hback, hoff⟩ := HJ.out.mem
              have HM := Lib.hid hM2
              clear hM2 hM21 hl2 hsame hoff
              have hA1 := cell_alloc_if
              have hA2 := frozen_alloc_if
              have hA3 := cell_set_if
              cases st with
              | false =>
                clear hback hst
                go_wp2
                go_returns
                exact ⟨rfl, hlowJ⟩
              | true =>
                have htk : takesA chunk vk = true := by
                  cases can <;> simp at hst
                  exact hst
                clear hst
                obtain ⟨r, hr⟩ : ∃ r, rightV vk vb vl = r := ⟨_, rfl⟩
                have HR := Lib.hid (ref_right_any vk vb vl hvb)
                rw [hr] at HR
                cases r with
                | false =>
                  clear hback
                  as_aux_lemma =>
                    go_wp2_with (first
                      | (go_at_call 29; (with_reducible refine (HR.out _).mono ?_); rintro e wR ⟨rfl, hbR⟩; obtain ⟨hcR, hfR, hzR⟩ := cif hbR; (try simp only [World.size_alloc, World.size_setCell, World.size_drew, World.heap_drewN] at hzR))
                      | (go_at_call 15; (with_reducible refine (HLD.out _ (by (repeat' (first | (with_reducible exact Below.refl _ _) | (with_reducible assumption) | (with_reducible refine Below.setCell ?_ ?_ _) | (with_reducible refine Below.alloc ?_ ?_ _) | (with_reducible refine Below.drew ?_) | (with_reducible refine below_drewN ?_ _) | (with_reducible refine below_next ?_ (by with_reducible assumption)) | omega | (dsimp only; omega) | (simp only [World.size_alloc, World.size_setCell, World.size_drew, World.heap_drewN]; omega))))).mono ?_); rintro e wL ⟨rfl, hbL⟩; obtain ⟨hcL, hfL, hzL⟩ := cif hbL; (try simp only [World.size_alloc, World.size_setCell, World.size_drew, World.heap_drewN] at hzL))
                      | (go_at_call 30; (with_reducible refine (HEV.out _).mono ?_); rintro e wE ⟨rfl, hbE⟩; obtain ⟨hcE, hfE, hzE⟩ := cif hbE; (try simp only [World.size_alloc, World.size_setCell, World.size_drew, World.heap_drewN] at hzE)))
                    go_returns
                    exact ⟨rfl, by (repeat' (first | (with_reducible exact Below.refl _ _) | (with_reducible assumption) | (with_reducible refine Below.setCell ?_ ?_ _) | (with_reducible refine Below.alloc ?_ ?_ _) | (with_reducible refine Below.drew ?_) | (with_reducible refine below_drewN ?_ _) | (with_reducible refine below_next ?_ (by with_reducible assumption)) | omega | (dsimp only; omega) | (simp only [World.size_alloc, World.size_setCell, World.size_drew, World.heap_drewN]; omega)))⟩
                | true =>
                  have hbk := hback rfl hr
                  obtain ⟨x, hx⟩ : ∃ x, backV chunk ⟨vk, vb, vl⟩ = x := ⟨_, rfl⟩
                  rw [hx] at hbk
                  obtain ⟨x1, x2, x3⟩ := x
                  have HLD := Lib.hid (fun W (h : Below wr.heap.size wr W) => load_some (HM.out.next h) chunk ob 1 x1 x2 x3 (by unfold I64; omega) hbk)
                  clear hbk hback
                  by_cases c1 : chunk = 1
                  · subst c1
                    by_cases e0 : vk = 0
                    · subst e0
                      have HEV := Lib.hid (fun w => no_80 vb vl w)
                      have hx' : (⟨0, 0, 0⟩ : V) = ⟨x1, x2, x3⟩ := by rw [← hx]; simp [backV]
                      injection hx' with z1 z2 z3
                      subst z1 z2 z3
                      clear hx
                      as_aux_lemma =>
                        go_wp2_with (first
                          | (go_at_call 29; (with_reducible refine (HR.out _).mono ?_); rintro e wR ⟨rfl, hbR⟩; obtain ⟨hcR, hfR, hzR⟩ := cif hbR; (try simp only [World.size_alloc, World.size_setCell, World.size_drew, World.heap_drewN] at hzR))
                          | (go_at_call 15; (with_reducible refine (HLD.out _ (by (repeat' (first | (with_reducible exact Below.refl _ _) | (with_reducible assumption) | (with_reducible refine Below.setCell ?_ ?_ _) | (with_reducible refine Below.alloc ?_ ?_ _) | (with_reducible refine Below.drew ?_) | (with_reducible refine below_drewN ?_ _) | (with_reducible refine below_next ?_ (by with_reducible assumption)) | omega | (dsimp only; omega) | (simp only [World.size_alloc, World.size_setCell, World.size_drew, World.heap_drewN]; omega))))).mono ?_); rintro e wL ⟨rfl, hbL⟩; obtain ⟨hcL, hfL, hzL⟩ := cif hbL; (try simp only [World.size_alloc, World.size_setCell, World.size_drew, World.heap_drewN] at hzL))
                          | (go_at_call 30; (with_reducible refine (HEV.out _).mono ?_); rintro e wE ⟨rfl, hbE⟩; obtain ⟨hcE, hfE, hzE⟩ := cif hbE; (try simp only [World.size_alloc, World.size_setCell, World.size_drew, World.heap_drewN] at hzE)))
                        go_returns
                        exact ⟨rfl, by (repeat' (first | (with_reducible exact Below.refl _ _) | (with_reducible assumption) | (with_reducible refine Below.setCell ?_ ?_ _) | (with_reducible refine Below.alloc ?_ ?_ _) | (with_reducible refine Below.drew ?_) | (with_reducible refine below_drewN ?_ _) | (with_reducible refine below_next ?_ (by with_reducible assumption)) | omega | (dsimp only; omega) | (simp only [World.size_alloc, World.size_setCell, World.size_drew, World.heap_drewN]; omega)))⟩
                    · have e1 : vk = 1 := by
                        have : kindV 1 = 1 := by decide
                        unfold takesA at htk
                        simp at htk
                        omega
                      subst e1
                      have HEV := Lib.hid (fun w => ev_80 vb vl hvb w)
                      have hx' : (⟨1, cut 80 vb, 0⟩ : V) = ⟨x1, x2, x3⟩ := by rw [← hx]; simp [backV]
                      injection hx' with z1 z2 z3
                      subst z1 z2 z3
                      clear hx
                      as_aux_lemma =>
                        go_wp2_with (first
                          | (go_at_call 29; (with_reducible refine (HR.out _).mono ?_); rintro e wR ⟨rfl, hbR⟩; obtain ⟨hcR, hfR, hzR⟩ := cif hbR; (try simp only [World.size_alloc, World.size_setCell, World.size_drew, World.heap_drewN] at hzR))
                          | (go_at_call 15; (with_reducible refine (HLD.out _ (by (repeat' (first | (with_reducible exact Below.refl _ _) | (with_reducible assumption) | (with_reducible refine Below.setCell ?_ ?_ _) | (with_reducible refine Below.alloc ?_ ?_ _) | (with_reducible refine Below.drew ?_) | (with_reducible refine below_drewN ?_ _) | (with_reducible refine below_next ?_ (by with_reducible assumption)) | omega | (dsimp only; omega) | (simp only [World.size_alloc, World.size_setCell, World.size_drew, World.heap_drewN]; omega))))).mono ?_); rintro e wL ⟨rfl, hbL⟩; obtain ⟨hcL, hfL, hzL⟩ := cif hbL; (try simp only [World.size_alloc, World.size_setCell, World.size_drew, World.heap_drewN] at hzL))
                          | (go_at_call 30; (with_reducible refine (HEV.out _).mono ?_); rintro e wE ⟨rfl, hbE⟩; obtain ⟨hcE, hfE, hzE⟩ := cif hbE; (try simp only [World.size_alloc, World.size_setCell, World.size_drew, World.heap_drewN] at hzE)))
                        go_returns
                        exact ⟨rfl, by (repeat' (first | (with_reducible exact Below.refl _ _) | (with_reducible assumption) | (with_reducible refine Below.setCell ?_ ?_ _) | (with_reducible refine Below.alloc ?_ ?_ _) | (with_reducible refine Below.drew ?_) | (with_reducible refine below_drewN ?_ _) | (with_reducible refine below_next ?_ (by with_reducible assumption)) | omega | (dsimp only; omega) | (simp only [World.size_alloc, World.size_setCell, World.size_drew, World.heap_drewN]; omega)))⟩
                  · by_cases c2 : chunk = 2
                    · subst c2
                      by_cases e0 : vk = 0
                      · subst e0
                        have HEV := Lib.hid (fun w => no_81 vb vl w)
                        have hx' : (⟨0, 0, 0⟩ : V) = ⟨x1, x2, x3⟩ := by rw [← hx]; simp [backV]
                        injection hx' with z1 z2 z3
                        subst z1 z2 z3
                        clear hx
                        as_aux_lemma =>
                          go_wp2_with (first
                            | (go_at_call 29; (with_reducible refine (HR.out _).mono ?_); rintro e wR ⟨rfl, hbR⟩; obtain ⟨hcR, hfR, hzR⟩ := cif hbR; (try simp only [World.size_alloc, World.size_setCell, World.size_drew, World.heap_drewN] at hzR))
                            | (go_at_call 15; (with_reducible refine (HLD.out _ (by (repeat' (first | (with_reducible exact Below.refl _ _) | (with_reducible assumption) | (with_reducible refine Below.setCell ?_ ?_ _) | (with_reducible refine Below.alloc ?_ ?_ _) | (with_reducible refine Below.drew ?_) | (with_reducible refine below_drewN ?_ _) | (with_reducible refine below_next ?_ (by with_reducible assumption)) | omega | (dsimp only; omega) | (simp only [World.size_alloc, World.size_setCell, World.size_drew, World.heap_drewN]; omega))))).mono ?_); rintro e wL ⟨rfl, hbL⟩; obtain ⟨hcL, hfL, hzL⟩ := cif hbL; (try simp only [World.size_alloc, World.size_setCell, World.size_drew, World.heap_drewN] at hzL))
                            | (go_at_call 30; (with_reducible refine (HEV.out _).mono ?_); rintro e wE ⟨rfl, hbE⟩; obtain ⟨hcE, hfE, hzE⟩ := cif hbE; (try simp only [World.size_alloc, World.size_setCell, World.size_drew, World.heap_drewN] at hzE)))
                          go_returns
                          exact ⟨rfl, by (repeat' (first | (with_reducible exact Below.refl _ _) | (with_reducible assumption) | (with_reducible refine Below.setCell ?_ ?_ _) | (with_reducible refine Below.alloc ?_ ?_ _) | (with_reducible refine Below.drew ?_) | (with_reducible refine below_drewN ?_ _) | (with_reducible refine below_next ?_ (by with_reducible assumption)) | omega | (dsimp only; omega) | (simp only [World.size_alloc, World.size_setCell, World.size_drew, World.heap_drewN]; omega)))⟩
                      · have e1 : vk = 1 := by
                          have : kindV 2 = 1 := by decide
                          unfold takesA at htk
                          simp at htk
                          omega
                        subst e1
                        have HEV := Lib.hid (fun w => ev_81 vb vl hvb w)
                        have hx' : (⟨1, cut 81 vb, 0⟩ : V) = ⟨x1, x2, x3⟩ := by rw [← hx]; simp [backV]
                        injection hx' with z1 z2 z3
                        subst z1 z2 z3
                        clear hx
                        as_aux_lemma =>
                          go_wp2_with (first
                            | (go_at_call 29; (with_reducible refine (HR.out _).mono ?_); rintro e wR ⟨rfl, hbR⟩; obtain ⟨hcR, hfR, hzR⟩ := cif hbR; (try simp only [World.size_alloc, World.size_setCell, World.size_drew, World.heap_drewN] at hzR))
                            | (go_at_call 15; (with_reducible refine (HLD.out _ (by (repeat' (first | (with_reducible exact Below.refl _ _) | (with_reducible assumption) | (with_reducible refine Below.setCell ?_ ?_ _) | (with_reducible refine Below.alloc ?_ ?_ _) | (with_reducible refine Below.drew ?_) | (with_reducible refine below_drewN ?_ _) | (with_reducible refine below_next ?_ (by with_reducible assumption)) | omega | (dsimp only; omega) | (simp only [World.size_alloc, World.size_setCell, World.size_drew, World.heap_drewN]; omega))))).mono ?_); rintro e wL ⟨rfl, hbL⟩; obtain ⟨hcL, hfL, hzL⟩ := cif hbL; (try simp only [World.size_alloc, World.size_setCell, World.size_drew, World.heap_drewN] at hzL))
                            | (go_at_call 30; (with_reducible refine (HEV.out _).mono ?_); rintro e wE ⟨rfl, hbE⟩; obtain ⟨hcE, hfE, hzE⟩ := cif hbE; (try simp only [World.size_alloc, World.size_setCell, World.size_drew, World.heap_drewN] at hzE)))
                          go_returns
                          exact ⟨rfl, by (repeat' (first | (with_reducible exact Below.refl _ _) | (with_reducible assumption) | (with_reducible refine Below.setCell ?_ ?_ _) | (with_reducible refine Below.alloc ?_ ?_ _) | (with_reducible refine Below.drew ?_) | (with_reducible refine below_drewN ?_ _) | (with_reducible refine below_next ?_ (by with_reducible assumption)) | omega | (dsimp only; omega) | (simp only [World.size_alloc, World.size_setCell, World.size_drew, World.heap_drewN]; omega)))⟩
                    · by_cases c3 : chunk = 3
                      · subst c3
                        by_cases e0 : vk = 0
                        · subst e0
                          have HEV := Lib.hid (fun w => no_82 vb vl w)
                          have hx' : (⟨0, 0, 0⟩ : V) = ⟨x1, x2, x3⟩ := by rw [← hx]; simp [backV]
                          injection hx' with z1 z2 z3
                          subst z1 z2 z3
                          clear hx
                          as_aux_lemma =>
                            go_wp2_with (first
                              | (go_at_call 29; (with_reducible refine (HR.out _).mono ?_); rintro e wR ⟨rfl, hbR⟩; obtain ⟨hcR, hfR, hzR⟩ := cif hbR; (try simp only [World.size_alloc, World.size_setCell, World.size_drew, World.heap_drewN] at hzR))
                              | (go_at_call 15; (with_reducible refine (HLD.out _ (by (repeat' (first | (with_reducible exact Below.refl _ _) | (with_reducible assumption) | (with_reducible refine Below.setCell ?_ ?_ _) | (with_reducible refine Below.alloc ?_ ?_ _) | (with_reducible refine Below.drew ?_) | (with_reducible refine below_drewN ?_ _) | (with_reducible refine below_next ?_ (by with_reducible assumption)) | omega | (dsimp only; omega) | (simp only [World.size_alloc, World.size_setCell, World.size_drew, World.heap_drewN]; omega))))).mono ?_); rintro e wL ⟨rfl, hbL⟩; obtain ⟨hcL, hfL, hzL⟩ := cif hbL; (try simp only [World.size_alloc, World.size_setCell, World.size_drew, World.heap_drewN] at hzL))
                              | (go_at_call 30; (with_reducible refine (HEV.out _).mono ?_); rintro e wE ⟨rfl, hbE⟩; obtain ⟨hcE, hfE, hzE⟩ := cif hbE; (try simp only [World.size_alloc, World.size_setCell, World.size_drew, World.heap_drewN] at hzE)))
                            go_returns
                            exact ⟨rfl, by (repeat' (first | (with_reducible exact Below.refl _ _) | (with_reducible assumption) | (with_reducible refine Below.setCell ?_ ?_ _) | (with_reducible refine Below.alloc ?_ ?_ _) | (with_reducible refine Below.drew ?_) | (with_reducible refine below_drewN ?_ _) | (with_reducible refine below_next ?_ (by with_reducible assumption)) | omega | (dsimp only; omega) | (simp only [World.size_alloc, World.size_setCell, World.size_drew, World.heap_drewN]; omega)))⟩
                        · have e1 : vk = 1 := by
                            have : kindV 3 = 1 := by decide
                            unfold takesA at htk
                            simp at htk
                            omega
                          subst e1
                          have HEV := Lib.hid (fun w => ev_82 vb vl hvb w)
                          have hx' : (⟨1, cut 82 vb, 0⟩ : V) = ⟨x1, x2, x3⟩ := by rw [← hx]; simp [backV]
                          injection hx' with z1 z2 z3
                          subst z1 z2 z3
                          clear hx
                          as_aux_lemma =>
                            go_wp2_with (first
                              | (go_at_call 29; (with_reducible refine (HR.out _).mono ?_); rintro e wR ⟨rfl, hbR⟩; obtain ⟨hcR, hfR, hzR⟩ := cif hbR; (try simp only [World.size_alloc, World.size_setCell, World.size_drew, World.heap_drewN] at hzR))
                              | (go_at_call 15; (with_reducible refine (HLD.out _ (by (repeat' (first | (with_reducible exact Below.refl _ _) | (with_reducible assumption) | (with_reducible refine Below.setCell ?_ ?_ _) | (with_reducible refine Below.alloc ?_ ?_ _) | (with_reducible refine Below.drew ?_) | (with_reducible refine below_drewN ?_ _) | (with_reducible refine below_next ?_ (by with_reducible assumption)) | omega | (dsimp only; omega) | (simp only [World.size_alloc, World.size_setCell, World.size_drew, World.heap_drewN]; omega))))).mono ?_); rintro e wL ⟨rfl, hbL⟩; obtain ⟨hcL, hfL, hzL⟩ := cif hbL; (try simp only [World.size_alloc, World.size_setCell, World.size_drew, World.heap_drewN] at hzL))
                              | (go_at_call 30; (with_reducible refine (HEV.out _).mono ?_); rintro e wE ⟨rfl, hbE⟩; obtain ⟨hcE, hfE, hzE⟩ := cif hbE; (try simp only [World.size_alloc, World.size_setCell, World.size_drew, World.heap_drewN] at hzE)))
                            go_returns
                            exact ⟨rfl, by (repeat' (first | (with_reducible exact Below.refl _ _) | (with_reducible assumption) | (with_reducible refine Below.setCell ?_ ?_ _) | (with_reducible refine Below.alloc ?_ ?_ _) | (with_reducible refine Below.drew ?_) | (with_reducible refine below_drewN ?_ _) | (with_reducible refine below_next ?_ (by with_reducible assumption)) | omega | (dsimp only; omega) | (simp only [World.size_alloc, World.size_setCell, World.size_drew, World.heap_drewN]; omega)))⟩
                      · by_cases c4 : chunk = 4
                        · subst c4
                          by_cases e0 : vk = 0
                          · subst e0
                            have HEV := Lib.hid (fun w => no_83 vb vl w)
                            have hx' : (⟨0, 0, 0⟩ : V) = ⟨x1, x2, x3⟩ := by rw [← hx]; simp [backV]
                            injection hx' with z1 z2 z3
                            subst z1 z2 z3
                            clear hx
                            as_aux_lemma =>
                              go_wp2_with (first
                                | (go_at_call 29; (with_reducible refine (HR.out _).mono ?_); rintro e wR ⟨rfl, hbR⟩; obtain ⟨hcR, hfR, hzR⟩ := cif hbR; (try simp only [World.size_alloc, World.size_setCell, World.size_drew, World.heap_drewN] at hzR))
                                | (go_at_call 15; (with_reducible refine (HLD.out _ (by (repeat' (first | (with_reducible exact Below.refl _ _) | (with_reducible assumption) | (with_reducible refine Below.setCell ?_ ?_ _) | (with_reducible refine Below.alloc ?_ ?_ _) | (with_reducible refine Below.drew ?_) | (with_reducible refine below_drewN ?_ _) | (with_reducible refine below_next ?_ (by with_reducible assumption)) | omega | (dsimp only; omega) | (simp only [World.size_alloc, World.size_setCell, World.size_drew, World.heap_drewN]; omega))))).mono ?_); rintro e wL ⟨rfl, hbL⟩; obtain ⟨hcL, hfL, hzL⟩ := cif hbL; (try simp only [World.size_alloc, World.size_setCell, World.size_drew, World.heap_drewN] at hzL))
                                | (go_at_call 30; (with_reducible refine (HEV.out _).mono ?_); rintro e wE ⟨rfl, hbE⟩; obtain ⟨hcE, hfE, hzE⟩ := cif hbE; (try simp only [World.size_alloc, World.size_setCell, World.size_drew, World.heap_drewN] at hzE)))
                              go_returns
                              exact ⟨rfl, by (repeat' (first | (with_reducible exact Below.refl _ _) | (with_reducible assumption) | (with_reducible refine Below.setCell ?_ ?_ _) | (with_reducible refine Below.alloc ?_ ?_ _) | (with_reducible refine Below.drew ?_) | (with_reducible refine below_drewN ?_ _) | (with_reducible refine below_next ?_ (by with_reducible assumption)) | omega | (dsimp only; omega) | (simp only [World.size_alloc, World.size_setCell, World.size_drew, World.heap_drewN]; omega)))⟩
                          · have e1 : vk = 1 := by
                              have : kindV 4 = 1 := by decide
                              unfold takesA at htk
                              simp at htk
                              omega
                            subst e1
                            have HEV := Lib.hid (fun w => ev_83 vb vl hvb w)
                            have hx' : (⟨1, cut 83 vb, 0⟩ : V) = ⟨x1, x2, x3⟩ := by rw [← hx]; simp [backV]
                            injection hx' with z1 z2 z3
                            subst z1 z2 z3
                            clear hx
                            as_aux_lemma =>
                              go_wp2_with (first
                                | (go_at_call 29; (with_reducible refine (HR.out _).mono ?_); rintro e wR ⟨rfl, hbR⟩; obtain ⟨hcR, hfR, hzR⟩ := cif hbR; (try simp only [World.size_alloc, World.size_setCell, World.size_drew, World.heap_drewN] at hzR))
                                | (go_at_call 15; (with_reducible refine (HLD.out _ (by (repeat' (first | (with_reducible exact Below.refl _ _) | (with_reducible assumption) | (with_reducible refine Below.setCell ?_ ?_ _) | (with_reducible refine Below.alloc ?_ ?_ _) | (with_reducible refine Below.drew ?_) | (with_reducible refine below_drewN ?_ _) | (with_reducible refine below_next ?_ (by with_reducible assumption)) | omega | (dsimp only; omega) | (simp only [World.size_alloc, World.size_setCell, World.size_drew, World.heap_drewN]; omega))))).mono ?_); rintro e wL ⟨rfl, hbL⟩; obtain ⟨hcL, hfL, hzL⟩ := cif hbL; (try simp only [World.size_alloc, World.size_setCell, World.size_drew, World.heap_drewN] at hzL))
                                | (go_at_call 30; (with_reducible refine (HEV.out _).mono ?_); rintro e wE ⟨rfl, hbE⟩; obtain ⟨hcE, hfE, hzE⟩ := cif hbE; (try simp only [World.size_alloc, World.size_setCell, World.size_drew, World.heap_drewN] at hzE)))
                              go_returns
                              exact ⟨rfl, by (repeat' (first | (with_reducible exact Below.refl _ _) | (with_reducible assumption) | (with_reducible refine Below.setCell ?_ ?_ _) | (with_reducible refine Below.alloc ?_ ?_ _) | (with_reducible refine Below.drew ?_) | (with_reducible refine below_drewN ?_ _) | (with_reducible refine below_next ?_ (by with_reducible assumption)) | omega | (dsimp only; omega) | (simp only [World.size_alloc, World.size_setCell, World.size_drew, World.heap_drewN]; omega)))⟩
                        · have d1 : (chunk == 1) = false := by simpa using c1
                          have d2 : (chunk == 2) = false := by simpa using c2
                          have d3 : (chunk == 3) = false := by simpa using c3
                          have d4 : (chunk == 4) = false := by simpa using c4
                          have hx' : (⟨vk, vb, vl⟩ : V) = ⟨x1, x2, x3⟩ := by
                            rw [← hx]
                            unfold backV
                            split
                            · rename_i e0
                              dsimp only at e0
                              subst e0
                              unfold rightV at hr
                              simp at hr
                              rw [hr.1, hr.2]
                            · simp [c1, c2, c3, c4]
                          injection hx' with z1 z2 z3
                          subst z1 z2 z3
                          clear hx c1 c2 c3 c4
                          as_aux_lemma =>
                            go_wp2_with (first
                              | (go_at_call 29; (with_reducible refine (HR.out _).mono ?_); rintro e wR ⟨rfl, hbR⟩; obtain ⟨hcR, hfR, hzR⟩ := cif hbR; (try simp only [World.size_alloc, World.size_setCell, World.size_drew, World.heap_drewN] at hzR))
                              | (go_at_call 15; (with_reducible refine (HLD.out _ (by (repeat' (first | (with_reducible exact Below.refl _ _) | (with_reducible assumption) | (with_reducible refine Below.setCell ?_ ?_ _) | (with_reducible refine Below.alloc ?_ ?_ _) | (with_reducible refine Below.drew ?_) | (with_reducible refine below_drewN ?_ _) | (with_reducible refine below_next ?_ (by with_reducible assumption)) | omega | (dsimp only; omega) | (simp only [World.size_alloc, World.size_setCell, World.size_drew, World.heap_drewN]; omega))))).mono ?_); rintro e wL ⟨rfl, hbL⟩; obtain ⟨hcL, hfL, hzL⟩ := cif hbL; (try simp only [World.size_alloc, World.size_setCell, World.size_drew, World.heap_drewN] at hzL))
                              | (go_at_call 30; (with_reducible refine (HEV.out _).mono ?_); rintro e wE ⟨rfl, hbE⟩; obtain ⟨hcE, hfE, hzE⟩ := cif hbE; (try simp only [World.size_alloc, World.size_setCell, World.size_drew, World.heap_drewN] at hzE)))
                            go_returns
                            exact ⟨rfl, by (repeat' (first | (with_reducible exact Below.refl _ _) | (with_reducible assumption) | (with_reducible refine Below.setCell ?_ ?_ _) | (with_reducible refine Below.alloc ?_ ?_ _) | (with_reducible refine Below.drew ?_) | (with_reducible refine below_drewN ?_ _) | (with_reducible refine below_next ?_ (by with_reducible assumption)) | omega | (dsimp only; omega) | (simp only [World.size_alloc, World.size_setCell, World.size_drew, World.heap_drewN]; omega)))⟩

end Go.Proofs.Ytddipbpllogbaaa
