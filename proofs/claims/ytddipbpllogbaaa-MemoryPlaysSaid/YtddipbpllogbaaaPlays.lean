/-
  MemoryPlays: the walk.
-/
import Derived.Test.YtddipbpllogbaaaPlaysTwo
import Derived.Test.YtddipbpllogbaaaRefW15
import Derived.Test.YtddipbpllogbaaaRefW16
import Derived.Test.YtddipbpllogbaaaMemW7
import Derived.Test.YtddipbpllogbaaaSlices
import Derived.Deep.DeepCutAuto
import Derived.Deep.CutBlock
import Derived.Deep.RegionHeld3
namespace Go.Proofs.Ytddipbpllogbaaa
open Go.RowKit
set_option linter.unusedVariables false
set_option linter.unusedSimpArgs false

/-- One call. -/
structure OpV where
  kind : Int
  n : Int
  chunk : Int
  a : V
  v : V
def opCells (o : OpV) : List Value := [.int .i64 o.kind, .int .i64 o.n, .int .i64 o.chunk, .int .i64 o.a.k, .int .u64 o.a.b, .int .i64 o.a.l, .int .i64 o.v.k, .int .u64 o.v.b, .int .i64 o.v.l]
structure OkOp (o : OpV) : Prop where
  n : I64 o.n
  ab : U64 o.a.b
  al : I64 o.a.l
  vb : U64 o.v.b
  vl : I64 o.v.l
def Box9 (W : World) (g : Nat) (o : OpV) : Prop := W.heap[g]? = some (.cells (opCells o).toArray 34 (0, 0))

theorem Box9.next {W W' : World} {g : Nat} {o : OpV} (h : Box9 W g o) (hb : Below W.heap.size W W') : Box9 W' g o := (hb.block _ (lt_of_block h)).trans h
theorem Box9.cells {W : World} {g7 : Nat} {kd nn ch ak ab al vk vb vl : Int} (h : Box9 W g7 ⟨kd, nn, ch, ⟨ak, ab, al⟩, ⟨vk, vb, vl⟩⟩) : W.cell? ⟨g7, 0, none⟩ = some (.int .i64 kd) ∧ W.cell? ⟨g7, 1, none⟩ = some (.int .i64 nn) ∧ W.cell? ⟨g7, 2, none⟩ = some (.int .i64 ch) ∧ W.cell? ⟨g7, 3, none⟩ = some (.int .i64 ak) ∧ W.cell? ⟨g7, 4, none⟩ = some (.int .u64 ab) ∧ W.cell? ⟨g7, 5, none⟩ = some (.int .i64 al) ∧ W.cell? ⟨g7, 6, none⟩ = some (.int .i64 vk) ∧ W.cell? ⟨g7, 7, none⟩ = some (.int .u64 vb) ∧ W.cell? ⟨g7, 8, none⟩ = some (.int .i64 vl) ∧ Box9 W g7 ⟨kd, nn, ch, ⟨ak, ab, al⟩, ⟨vk, vb, vl⟩⟩ := by
  have hq := h
  unfold Box9 opCells at hq
  obtain ⟨hq1, _⟩ := cells_of_block hq
  exact ⟨hq1 0, hq1 1, hq1 2, hq1 3, hq1 4, hq1 5, hq1 6, hq1 7, hq1 8, h⟩
theorem ref_made (W : World) (base : Nat) (hb : base ≤ W.heap.size) : RefS (W.alloc (.cells #[.slice none 0 0] 29)) base W.heap.size (.slice none 0 0) 0 [] where
  top := heap_alloc_new _ _
  row := World.ownsRow_nil _ _ _ _
  lo := hb
  len := ⟨Nat.le_refl _, by decide⟩
  keys j B h := by simp at h
  at_ j B h := by simp at h
  apart i j B C h := by simp at h
theorem rel_made : Rel M0 0 [] := ⟨rfl, fun k => .inl ⟨rfl, by unfold blkA; split <;> simp⟩⟩

def sizeM (M : Int → Option Bk) (l : Int) : Value := match M l with
  | some B => .tuple #[.int .i64 B.cells.length, .bool true]
  | none => .tuple #[.int .i64 0, .bool false]
theorem Rel.size {M : Int → Option Bk} {last : Nat} {R : List RB} (h : Rel M last R) (k : Int) : sizeM M k = sizeR R k := by
  unfold sizeM sizeR
  rcases h.blk k with ⟨h1, h2⟩ | ⟨B, D, h1, h2, h3⟩
  · rw [h1, h2]
  · rw [h1, h2]
    dsimp only
    rw [h3.len]
/-- Between the rounds. -/
def St (w wr : World) (pm bm rm k : Nat) (t : Int) : Prop :=
  ∃ (nb last cap : Nat) (M : Int → Option Bk) (s : Value) (capR : Nat) (R : List RB), Two wr w.heap.size pm bm nb last cap M rm s capR R ∧ Rel M last R ∧ cap ≤ k ∧ capR ≤ k ∧ 0 ≤ t ∧ t ≤ 65536 ∧ Below w.heap.size w wr

theorem St.next {w wr W : World} {pm bm rm k : Nat} {t : Int} (h : St w wr pm bm rm k t) (hb : Below wr.heap.size wr W) : St w W pm bm rm k t := by
  obtain ⟨nb, last, cap, M, s, capR, R, hT, hR, h1, h2, h3, h4, h5⟩ := h
  exact ⟨nb, last, cap, M, s, capR, R, hT.next hb, hR, h1, h2, h3, h4, below_step h5 hb⟩
/-- Within a round: the call's box too. -/
def StB (w wr : World) (pm bm rm k : Nat) (t : Int) (g : Nat) (o : OpV) : Prop :=
  ∃ (nb last cap : Nat) (M : Int → Option Bk) (s : Value) (capR : Nat) (R : List RB), Two wr w.heap.size pm bm nb last cap M rm s capR R ∧ Rel M last R ∧ cap ≤ k ∧ capR ≤ k ∧ 0 ≤ t ∧ t ≤ 65536 ∧ Below w.heap.size w wr ∧ Box9 wr g o ∧ Free wr pm bm M rm s R g
set_option maxHeartbeats 1000000 in
theorem psize_any {w : World} {base pm bm nb last cap : Nat} {M : Int → Option Bk} (h : MemS w base pm bm nb last cap M) (l : Int) (hl : I64 l) :
    Calls Try.prog 21 #[.pointer (some ⟨pm, 0, none⟩), .int .i64 l] w fun e w' => e = .returned (sizeM M l) ∧ Below w.heap.size w w' := by
  have t0 : w.cell? ⟨pm, 0, none⟩ = some (.map (some bm)) := by rw [Lib.cell_of_heap h.top]; rfl
  have hrun := h.lookOk l hl
  unfold sizeM
  cases hM : M l with
  | none =>
    rw [hM] at hrun
    simp only [Option.map_none, valO, Option.isSome_none] at hrun
    clear hM h
    go_enter Try.func21, Try.ntmps21
    go_wp2
    go_returns
    exact ⟨rfl, by (repeat' (first | (with_reducible exact Below.refl _ _) | (with_reducible assumption) | (with_reducible refine Below.setCell ?_ ?_ _) | (with_reducible refine Below.alloc ?_ ?_ _) | (with_reducible refine Below.drew ?_) | (with_reducible refine below_drewN ?_ _) | (with_reducible refine below_next ?_ (by with_reducible assumption)) | omega | (dsimp only; omega) | (simp only [World.size_alloc, World.size_setCell, World.size_drew, World.heap_drewN]; omega)))⟩
  | some B =>
    have hB := h.at_ l B hM
    rw [hM] at hrun
    simp only [Option.map_some, valO, Option.isSome_some, ptrVal] at hrun
    have b0 : w.cell? ⟨B.b, 0, none⟩ = some (.slice (some ⟨B.g, 0, none⟩) B.cells.length B.cells.length) := by rw [Lib.cell_of_heap hB.own]; rfl
    clear hM h hB
    go_enter Try.func21, Try.ntmps21
    go_wp2
    go_returns
    exact ⟨rfl, by (repeat' (first | (with_reducible exact Below.refl _ _) | (with_reducible assumption) | (with_reducible refine Below.setCell ?_ ?_ _) | (with_reducible refine Below.alloc ?_ ?_ _) | (with_reducible refine Below.drew ?_) | (with_reducible refine below_drewN ?_ _) | (with_reducible refine below_next ?_ (by with_reducible assumption)) | omega | (dsimp only; omega) | (simp only [World.size_alloc, World.size_setCell, World.size_drew, World.heap_drewN]; omega)))⟩

set_option maxRecDepth 100000 in
set_option maxHeartbeats 16000000 in
theorem plays_core (A : Option Addr) (c : Nat) (l : List OpV) (w : World) (h1 : RdL opCells 9 w (.slice A l.length c) l) (hok : ∀ o ∈ l, OkOp o) (hlen : l.length * 72 ≤ 140737488351232) :
    Calls Try.prog 3 #[.slice A l.length c] w fun e w' => e = .returned (.bool true) ∧ Below w.heap.size w w' := by
  have m1 := h1.len
  unfold maxLen at m1
  have H1 := Lib.hid h1
  have HOK := Lib.hid hok
  clear h1 hok
  have hA1 := cell_alloc_if
  have hA2 := frozen_alloc_if
  have hA3 := cell_set_if
  go_enter Try.func3, Try.ntmps3
  go_wp2_with (first
    | (go_at_call 7; (with_reducible refine (fixed_any _).mono ?_); rintro e wF ⟨rfl, hbF⟩; have hzF := hbF.size; (try simp only [World.size_alloc, World.size_setCell, World.size_drew, World.heap_drewN] at hzF))
    | (go_at_call 8; refine (new_any _ w.heap.size (by omega)).mono ?_; rintro e w1 ⟨pm, bm, rfl, hm1, hb1⟩; have HM1 := Lib.hid (show MemS _ _ _ _ _ _ _ M0 from hm1); have hzN := hb1.size; (try simp only [World.size_alloc, World.size_setCell, World.size_drew, World.heap_drewN] at hzN); clear hm1))
  have hbm : w.heap.size ≤ w1.heap.size := by omega
  have hsep : ∀ i, OwnM pm bm M0 i → ¬ OwnR w1.heap.size (.slice none 0 0) [] i := fun i hi hr => by
    have h1 := HM1.out.olt hi
    rcases hr with hr | hr | ⟨j, B, hj, _⟩
    · omega
    · cases hr
    · simp at hj
  have HS0 : Hid (St w (w1.alloc (.cells #[.slice none 0 0] 29)) pm bm w1.heap.size 0 0) := Lib.hid ⟨0, 0, 0, M0, .slice none 0 0, 0, [], ⟨HM1.out.next (by (repeat' (first | (with_reducible exact Below.refl _ _) | (with_reducible assumption) | (with_reducible refine Below.setCell ?_ ?_ _) | (with_reducible refine Below.alloc ?_ ?_ _) | (with_reducible refine Below.drew ?_) | (with_reducible refine below_drewN ?_ _) | (with_reducible refine below_next ?_ (by with_reducible assumption)) | omega | (dsimp only; omega) | (simp only [World.size_alloc, World.size_setCell, World.size_drew, World.heap_drewN]; omega)))), ref_made w1 _ hbm, hsep⟩, rel_made, Nat.le_refl _, Nat.le_refl _, Int.le_refl _, by decide, by (repeat' (first | (with_reducible exact Below.refl _ _) | (with_reducible assumption) | (with_reducible refine Below.setCell ?_ ?_ _) | (with_reducible refine Below.alloc ?_ ?_ _) | (with_reducible refine Below.drew ?_) | (with_reducible refine below_drewN ?_ _) | (with_reducible refine below_next ?_ (by with_reducible assumption)) | omega | (dsimp only; omega) | (simp only [World.size_alloc, World.size_setCell, World.size_drew, World.heap_drewN]; omega)))⟩
  obtain ⟨rm, hrm⟩ : ∃ rm, rm = w1.heap.size := ⟨_, rfl⟩
  rw [← hrm] at HS0 ⊢
  clear hrm HM1 hsep hb1 hbF hbm
  go_loopw [5, 28] (fun t i wr => ∃ (k : Nat) (tt : Int), k ≤ l.length ∧ i = .int .i64 k ∧ t = .int .i64 tt ∧ Hid (St w wr pm bm rm k tt)) (fun _ i _ => l.length - (intOf i).toNat)
  case atStart => exact ⟨0, 0, by omega, rfl, rfl, HS0⟩
  case round =>
    obtain ⟨k, tt, hk, rfl, rfl, HST⟩ := hrel
    obtain ⟨nb, last, cap, M, s, capR, R, hT, hR, hcap, hcapR, ht0, ht1, hlow⟩ := HST.out
    by_cases hlt : k < l.length
    · obtain ⟨o, es⟩ : ∃ o, l[k]? = some o := ⟨_, List.getElem?_eq_getElem hlt⟩
      obtain ⟨b1, o1, d1, f1, _, _, hb1', hc1'⟩ := H1.out.some_ (by omega)
      injection f1 with f1 f1' f1''
      subst f1
      have hcl := fun (j : Nat) (v : Value) (h : (opCells o)[j]? = some v) => (hlow.cell (p := ⟨b1, o1 + k * 9 + j, none⟩) hb1').trans (hc1' k o es j v h)
      have p0 := hcl 0 _ rfl
      have p1 := hcl 1 _ rfl
      have p2 := hcl 2 _ rfl
      have p3 := hcl 3 _ rfl
      have p4 := hcl 4 _ rfl
      have p5 := hcl 5 _ rfl
      have p6 := hcl 6 _ rfl
      have p7 := hcl 7 _ rfl
      have p8 := hcl 8 _ rfl
      rw [Nat.add_zero] at p0
      have ho := HOK.out o (List.mem_of_getElem? es)
      obtain ⟨kd, nn, ch, ⟨ak, ab, al⟩, ⟨vk, vb, vl⟩⟩ := o
      obtain ⟨on, oab, oal, ovb, ovl⟩ := ho
      dsimp only at on oab oal ovb ovl p0 p1 p2 p3 p4 p5 p6 p7 p8
      have HT := Lib.hid hT
      have HR := Lib.hid hR
      clear hcl hc1' es f1' f1'' hT hR HST
      go_upto_block 2 with (fail)
      have hfr : Free (wr.alloc (.cells (opCells ⟨kd, nn, ch, ⟨ak, ab, al⟩, ⟨vk, vb, vl⟩⟩).toArray 34)) pm bm M rm s R wr.heap.size := HT.out.fresh (by (repeat' (first | (with_reducible exact Below.refl _ _) | (with_reducible assumption) | (with_reducible refine Below.setCell ?_ ?_ _) | (with_reducible refine Below.alloc ?_ ?_ _) | (with_reducible refine Below.drew ?_) | (with_reducible refine below_drewN ?_ _) | (with_reducible refine below_next ?_ (by with_reducible assumption)) | omega | (dsimp only; omega) | (simp only [World.size_alloc, World.size_setCell, World.size_drew, World.heap_drewN]; omega)))) (Nat.le_refl _) (by simp)
      obtain ⟨W, hW⟩ : ∃ W, W = wr.alloc (.cells #[.int .i64 kd, .int .i64 nn, .int .i64 ch, .int .i64 ak, .int .u64 ab, .int .i64 al, .int .i64 vk, .int .u64 vb, .int .i64 vl] 34) := ⟨_, rfl⟩
      have hbx : Box9 W wr.heap.size ⟨kd, nn, ch, ⟨ak, ab, al⟩, ⟨vk, vb, vl⟩⟩ := by rw [hW]; exact heap_alloc_new _ _
      have hrW : Below wr.heap.size wr W := by rw [hW]; (repeat' (first | (with_reducible exact Below.refl _ _) | (with_reducible assumption) | (with_reducible refine Below.setCell ?_ ?_ _) | (with_reducible refine Below.alloc ?_ ?_ _) | (with_reducible refine Below.drew ?_) | (with_reducible refine below_drewN ?_ _) | (with_reducible refine below_next ?_ (by with_reducible assumption)) | omega | (dsimp only; omega) | (simp only [World.size_alloc, World.size_setCell, World.size_drew, World.heap_drewN]; omega)))
      have hlW := below_step hlow hrW
      have HTW := Lib.hid (HT.out.next hrW)
      have hfW : Free W pm bm M rm s R wr.heap.size := by rw [hW]; exact hfr
      have HF := Lib.hid hfW
      have HB := Lib.hid hbx
      obtain ⟨g7, hg7⟩ : ∃ g7, g7 = wr.heap.size := ⟨_, rfl⟩
      rw [← hg7] at HF HB hbx ⊢
      rw [← hW]
      clear hW hfr hfW hg7 p0 p1 p2 p3 p4 p5 p6 p7 p8 hlow hrW HT
      go_cut [5, 8] (fun s5 s8 wx => s8 = .bool true ∧ ∃ t', s5 = .int .i64 t' ∧ Hid (StB w wx pm bm rm (k + 1) t' g7 ⟨kd, nn, ch, ⟨ak, ab, al⟩, ⟨vk, vb, vl⟩⟩))
      case first =>
        have hq := hbx
        unfold Box9 opCells at hq
        obtain ⟨hq1, hq2⟩ := cells_of_block hq
        have x0 := hq1 0
        have x1 := hq1 1
        have x2 := hq1 2
        have x3 := hq1 3
        have x4 := hq1 4
        have x5 := hq1 5
        have x6 := hq1 6
        have x7 := hq1 7
        have x8 := hq1 8
        simp at x0 x1 x2 x3 x4 x5 x6 x7 x8
        have hg7 := lt_of_block hq
        have hsW := hlW.size
        clear hq hq1 hq2
        by_cases k3 : kd = 3
        · have z1 : (kd == 1) = false := by rw [k3]; decide
          have z2 : (kd == 2) = false := by rw [k3]; decide
          have z3 : (kd == 3) = true := by rw [k3]; decide
          clear k3
          obtain ⟨q, hq⟩ : ∃ q, (blkA R nn).isSome = q := ⟨_, rfl⟩
          have HA := Lib.hid (fun W' (hb : Below W.heap.size W W') => fix_any (HTW.out.next hb).mem nn on)
          rw [HR.out.isSome nn, hq] at HA
          have HRR := HR.out.fix nn
          have HRF := Lib.hid HRR
          clear HRR
          go_upto_region 19 with (fail)
          go_region_held3 (fun w' => w'.cell? ⟨g7, 0, none⟩ = some (.int .i64 kd) ∧ w'.cell? ⟨g7, 1, none⟩ = some (.int .i64 nn) ∧ w'.cell? ⟨g7, 2, none⟩ = some (.int .i64 ch) ∧ w'.cell? ⟨g7, 3, none⟩ = some (.int .i64 ak) ∧ w'.cell? ⟨g7, 4, none⟩ = some (.int .u64 ab) ∧ w'.cell? ⟨g7, 5, none⟩ = some (.int .i64 al) ∧ w'.cell? ⟨g7, 6, none⟩ = some (.int .i64 vk) ∧ w'.cell? ⟨g7, 7, none⟩ = some (.int .u64 vb) ∧ w'.cell? ⟨g7, 8, none⟩ = some (.int .i64 vl) ∧ Box9 w' g7 ⟨kd, nn, ch, ⟨ak, ab, al⟩, ⟨vk, vb, vl⟩⟩) (first | exact hSX3 | exact hSX | exact HB.out.cells)
            (first
              | (go_at_call 13; (with_reducible refine (HA.out _ (by (repeat' (first | (with_reducible exact Below.refl _ _) | (with_reducible assumption) | (with_reducible refine Below.setCell ?_ ?_ _) | (with_reducible refine Below.alloc ?_ ?_ _) | (with_reducible refine Below.drew ?_) | (with_reducible refine below_drewN ?_ _) | (with_reducible refine below_next ?_ (by with_reducible assumption)) | omega | (dsimp only; omega) | (simp only [World.size_alloc, World.size_setCell, World.size_drew, World.heap_drewN]; omega))))).mono ?_); rintro e w2 ⟨rfl, hL⟩; have H2 := Two.prog (HTW.out.next (by (repeat' (first | (with_reducible exact Below.refl _ _) | (with_reducible assumption) | (with_reducible refine Below.setCell ?_ ?_ _) | (with_reducible refine Below.alloc ?_ ?_ _) | (with_reducible refine Below.drew ?_) | (with_reducible refine below_drewN ?_ _) | (with_reducible refine below_next ?_ (by with_reducible assumption)) | omega | (dsimp only; omega) | (simp only [World.size_alloc, World.size_setCell, World.size_drew, World.heap_drewN]; omega))))) hL (own_fix nn); have hf2 := H2.2 g7 (HF.out.next (by (repeat' (first | (with_reducible exact Below.refl _ _) | (with_reducible assumption) | (with_reducible refine Below.setCell ?_ ?_ _) | (with_reducible refine Below.alloc ?_ ?_ _) | (with_reducible refine Below.drew ?_) | (with_reducible refine below_drewN ?_ _) | (with_reducible refine below_next ?_ (by with_reducible assumption)) | omega | (dsimp only; omega) | (simp only [World.size_alloc, World.size_setCell, World.size_drew, World.heap_drewN]; omega))))); have HT2 := Lib.hid H2.1; have HF2 := Lib.hid hf2.2; have hBX : Box9 w2 g7 ⟨kd, nn, ch, ⟨ak, ab, al⟩, ⟨vk, vb, vl⟩⟩ := hf2.1.trans HB.out; have hl2 := hL.low; have hz2 := hL.kept.1; have hSX := hBX.cells; clear H2 hf2 hL)
              | (go_at_call 14; (refine (rfix_any (HT2.out.next (by (repeat' (first | (with_reducible exact Below.refl _ _) | (with_reducible assumption) | (with_reducible refine Below.setCell ?_ ?_ _) | (with_reducible refine Below.alloc ?_ ?_ _) | (with_reducible refine Below.drew ?_) | (with_reducible refine below_drewN ?_ _) | (with_reducible refine below_next ?_ (by with_reducible assumption)) | omega | (dsimp only; omega) | (simp only [World.size_alloc, World.size_setCell, World.size_drew, World.heap_drewN]; omega))))).ref nn on).mono ?_); rintro e w3 ⟨rfl, hL3⟩; have H3 := Two.refer (HT2.out.next (by (repeat' (first | (with_reducible exact Below.refl _ _) | (with_reducible assumption) | (with_reducible refine Below.setCell ?_ ?_ _) | (with_reducible refine Below.alloc ?_ ?_ _) | (with_reducible refine Below.drew ?_) | (with_reducible refine below_drewN ?_ _) | (with_reducible refine below_next ?_ (by with_reducible assumption)) | omega | (dsimp only; omega) | (simp only [World.size_alloc, World.size_setCell, World.size_drew, World.heap_drewN]; omega))))) hL3; have hf3 := H3.2 g7 (HF2.out.next (by (repeat' (first | (with_reducible exact Below.refl _ _) | (with_reducible assumption) | (with_reducible refine Below.setCell ?_ ?_ _) | (with_reducible refine Below.alloc ?_ ?_ _) | (with_reducible refine Below.drew ?_) | (with_reducible refine below_drewN ?_ _) | (with_reducible refine below_next ?_ (by with_reducible assumption)) | omega | (dsimp only; omega) | (simp only [World.size_alloc, World.size_setCell, World.size_drew, World.heap_drewN]; omega))))); have HT3 := Lib.hid H3.1; have HF3 := Lib.hid hf3.2; have hBX3 : Box9 w3 g7 ⟨kd, nn, ch, ⟨ak, ab, al⟩, ⟨vk, vb, vl⟩⟩ := hf3.1.trans hBX; have hl3 := hL3.low; have hSX3 := hBX3.cells; clear H3 hf3 hL3))
          have hlE : Below w.heap.size w w3 := Below.trans (Below.trans (by (repeat' (first | (with_reducible exact Below.refl _ _) | (with_reducible assumption) | (with_reducible refine Below.setCell ?_ ?_ _) | (with_reducible refine Below.alloc ?_ ?_ _) | (with_reducible refine Below.drew ?_) | (with_reducible refine below_drewN ?_ _) | (with_reducible refine below_next ?_ (by with_reducible assumption)) | omega | (dsimp only; omega) | (simp only [World.size_alloc, World.size_setCell, World.size_drew, World.heap_drewN]; omega)))) hl2) hl3
          go_wp2
          go_meet
          exact ⟨rfl, tt, rfl, Lib.hid ⟨_, _, _, _, _, _, _, HT3.out.next (by (repeat' (first | (with_reducible exact Below.refl _ _) | (with_reducible assumption) | (with_reducible refine Below.setCell ?_ ?_ _) | (with_reducible refine Below.alloc ?_ ?_ _) | (with_reducible refine Below.drew ?_) | (with_reducible refine below_drewN ?_ _) | (with_reducible refine below_next ?_ (by with_reducible assumption)) | omega | (dsimp only; omega) | (simp only [World.size_alloc, World.size_setCell, World.size_drew, World.heap_drewN]; omega)))), HRF.out, by omega, by omega, ht0, ht1, by (repeat' (first | (with_reducible exact Below.refl _ _) | (with_reducible assumption) | (with_reducible refine Below.setCell ?_ ?_ _) | (with_reducible refine Below.alloc ?_ ?_ _) | (with_reducible refine Below.drew ?_) | (with_reducible refine below_drewN ?_ _) | (with_reducible refine below_next ?_ (by with_reducible assumption)) | omega | (dsimp only; omega) | (simp only [World.size_alloc, World.size_setCell, World.size_drew, World.heap_drewN]; omega))), Box9.next hBX3 (by (repeat' (first | (with_reducible exact Below.refl _ _) | (with_reducible assumption) | (with_reducible refine Below.setCell ?_ ?_ _) | (with_reducible refine Below.alloc ?_ ?_ _) | (with_reducible refine Below.drew ?_) | (with_reducible refine below_drewN ?_ _) | (with_reducible refine below_next ?_ (by with_reducible assumption)) | omega | (dsimp only; omega) | (simp only [World.size_alloc, World.size_setCell, World.size_drew, World.heap_drewN]; omega)))), HF3.out.next (by (repeat' (first | (with_reducible exact Below.refl _ _) | (with_reducible assumption) | (with_reducible refine Below.setCell ?_ ?_ _) | (with_reducible refine Below.alloc ?_ ?_ _) | (with_reducible refine Below.drew ?_) | (with_reducible refine below_drewN ?_ _) | (with_reducible refine below_next ?_ (by with_reducible assumption)) | omega | (dsimp only; omega) | (simp only [World.size_alloc, World.size_setCell, World.size_drew, World.heap_drewN]; omega))))⟩⟩
        · have z3 : (kd == 3) = false := by simpa using k3
          by_cases k2 : kd = 2
          · have z1 : (kd == 1) = false := by rw [k2]; decide
            have z2 : (kd == 2) = true := by rw [k2]; decide
            clear k2 k3
            obtain ⟨q, hq⟩ : ∃ q, (blkA R nn).isSome = q := ⟨_, rfl⟩
            have HA := Lib.hid (fun W' (hb : Below W.heap.size W W') => free_any (HTW.out.next hb).mem nn on)
            rw [HR.out.isSome nn, hq] at HA
            have HRF := Lib.hid (HR.out.free nn)
            go_upto_region 17 with (fail)
            go_region_held3 (fun w' => w'.cell? ⟨g7, 0, none⟩ = some (.int .i64 kd) ∧ w'.cell? ⟨g7, 1, none⟩ = some (.int .i64 nn) ∧ w'.cell? ⟨g7, 2, none⟩ = some (.int .i64 ch) ∧ w'.cell? ⟨g7, 3, none⟩ = some (.int .i64 ak) ∧ w'.cell? ⟨g7, 4, none⟩ = some (.int .u64 ab) ∧ w'.cell? ⟨g7, 5, none⟩ = some (.int .i64 al) ∧ w'.cell? ⟨g7, 6, none⟩ = some (.int .i64 vk) ∧ w'.cell? ⟨g7, 7, none⟩ = some (.int .u64 vb) ∧ w'.cell? ⟨g7, 8, none⟩ = some (.int .i64 vl) ∧ Box9 w' g7 ⟨kd, nn, ch, ⟨ak, ab, al⟩, ⟨vk, vb, vl⟩⟩) (first | exact hSX3 | exact hSX | exact HB.out.cells)
              (first
                | (go_at_call 11; (with_reducible refine (HA.out _ (by (repeat' (first | (with_reducible exact Below.refl _ _) | (with_reducible assumption) | (with_reducible refine Below.setCell ?_ ?_ _) | (with_reducible refine Below.alloc ?_ ?_ _) | (with_reducible refine Below.drew ?_) | (with_reducible refine below_drewN ?_ _) | (with_reducible refine below_next ?_ (by with_reducible assumption)) | omega | (dsimp only; omega) | (simp only [World.size_alloc, World.size_setCell, World.size_drew, World.heap_drewN]; omega))))).mono ?_); rintro e w2 ⟨rfl, hL⟩; have H2 := Two.prog (HTW.out.next (by (repeat' (first | (with_reducible exact Below.refl _ _) | (with_reducible assumption) | (with_reducible refine Below.setCell ?_ ?_ _) | (with_reducible refine Below.alloc ?_ ?_ _) | (with_reducible refine Below.drew ?_) | (with_reducible refine below_drewN ?_ _) | (with_reducible refine below_next ?_ (by with_reducible assumption)) | omega | (dsimp only; omega) | (simp only [World.size_alloc, World.size_setCell, World.size_drew, World.heap_drewN]; omega))))) hL (own_free nn); have hf2 := H2.2 g7 (HF.out.next (by (repeat' (first | (with_reducible exact Below.refl _ _) | (with_reducible assumption) | (with_reducible refine Below.setCell ?_ ?_ _) | (with_reducible refine Below.alloc ?_ ?_ _) | (with_reducible refine Below.drew ?_) | (with_reducible refine below_drewN ?_ _) | (with_reducible refine below_next ?_ (by with_reducible assumption)) | omega | (dsimp only; omega) | (simp only [World.size_alloc, World.size_setCell, World.size_drew, World.heap_drewN]; omega))))); have HT2 := Lib.hid H2.1; have HF2 := Lib.hid hf2.2; have hBX : Box9 w2 g7 ⟨kd, nn, ch, ⟨ak, ab, al⟩, ⟨vk, vb, vl⟩⟩ := hf2.1.trans HB.out; have hl2 := hL.low; have hz2 := hL.kept.1; have hSX := hBX.cells; clear H2 hf2 hL)
                | (go_at_call 12; (refine (rfree_any (HT2.out.next (by (repeat' (first | (with_reducible exact Below.refl _ _) | (with_reducible assumption) | (with_reducible refine Below.setCell ?_ ?_ _) | (with_reducible refine Below.alloc ?_ ?_ _) | (with_reducible refine Below.drew ?_) | (with_reducible refine below_drewN ?_ _) | (with_reducible refine below_next ?_ (by with_reducible assumption)) | omega | (dsimp only; omega) | (simp only [World.size_alloc, World.size_setCell, World.size_drew, World.heap_drewN]; omega))))).ref nn on).mono ?_); rintro e w3 ⟨rfl, hL3⟩; have H3 := Two.refer (HT2.out.next (by (repeat' (first | (with_reducible exact Below.refl _ _) | (with_reducible assumption) | (with_reducible refine Below.setCell ?_ ?_ _) | (with_reducible refine Below.alloc ?_ ?_ _) | (with_reducible refine Below.drew ?_) | (with_reducible refine below_drewN ?_ _) | (with_reducible refine below_next ?_ (by with_reducible assumption)) | omega | (dsimp only; omega) | (simp only [World.size_alloc, World.size_setCell, World.size_drew, World.heap_drewN]; omega))))) hL3; have hf3 := H3.2 g7 (HF2.out.next (by (repeat' (first | (with_reducible exact Below.refl _ _) | (with_reducible assumption) | (with_reducible refine Below.setCell ?_ ?_ _) | (with_reducible refine Below.alloc ?_ ?_ _) | (with_reducible refine Below.drew ?_) | (with_reducible refine below_drewN ?_ _) | (with_reducible refine below_next ?_ (by with_reducible assumption)) | omega | (dsimp only; omega) | (simp only [World.size_alloc, World.size_setCell, World.size_drew, World.heap_drewN]; omega))))); have HT3 := Lib.hid H3.1; have HF3 := Lib.hid hf3.2; have hBX3 : Box9 w3 g7 ⟨kd, nn, ch, ⟨ak, ab, al⟩, ⟨vk, vb, vl⟩⟩ := hf3.1.trans hBX; have hl3 := hL3.low; have hSX3 := hBX3.cells; clear H3 hf3 hL3))
            have hlE : Below w.heap.size w w3 := Below.trans (Below.trans (by (repeat' (first | (with_reducible exact Below.refl _ _) | (with_reducible assumption) | (with_reducible refine Below.setCell ?_ ?_ _) | (with_reducible refine Below.alloc ?_ ?_ _) | (with_reducible refine Below.drew ?_) | (with_reducible refine below_drewN ?_ _) | (with_reducible refine below_next ?_ (by with_reducible assumption)) | omega | (dsimp only; omega) | (simp only [World.size_alloc, World.size_setCell, World.size_drew, World.heap_drewN]; omega)))) hl2) hl3
            go_wp2
            go_meet
            exact ⟨rfl, tt, rfl, Lib.hid ⟨_, _, _, _, _, _, _, HT3.out.next (by (repeat' (first | (with_reducible exact Below.refl _ _) | (with_reducible assumption) | (with_reducible refine Below.setCell ?_ ?_ _) | (with_reducible refine Below.alloc ?_ ?_ _) | (with_reducible refine Below.drew ?_) | (with_reducible refine below_drewN ?_ _) | (with_reducible refine below_next ?_ (by with_reducible assumption)) | omega | (dsimp only; omega) | (simp only [World.size_alloc, World.size_setCell, World.size_drew, World.heap_drewN]; omega)))), HRF.out, by omega, by omega, ht0, ht1, by (repeat' (first | (with_reducible exact Below.refl _ _) | (with_reducible assumption) | (with_reducible refine Below.setCell ?_ ?_ _) | (with_reducible refine Below.alloc ?_ ?_ _) | (with_reducible refine Below.drew ?_) | (with_reducible refine below_drewN ?_ _) | (with_reducible refine below_next ?_ (by with_reducible assumption)) | omega | (dsimp only; omega) | (simp only [World.size_alloc, World.size_setCell, World.size_drew, World.heap_drewN]; omega))), Box9.next hBX3 (by (repeat' (first | (with_reducible exact Below.refl _ _) | (with_reducible assumption) | (with_reducible refine Below.setCell ?_ ?_ _) | (with_reducible refine Below.alloc ?_ ?_ _) | (with_reducible refine Below.drew ?_) | (with_reducible refine below_drewN ?_ _) | (with_reducible refine below_next ?_ (by with_reducible assumption)) | omega | (dsimp only; omega) | (simp only [World.size_alloc, World.size_setCell, World.size_drew, World.heap_drewN]; omega)))), HF3.out.next (by (repeat' (first | (with_reducible exact Below.refl _ _) | (with_reducible assumption) | (with_reducible refine Below.setCell ?_ ?_ _) | (with_reducible refine Below.alloc ?_ ?_ _) | (with_reducible refine Below.drew ?_) | (with_reducible refine below_drewN ?_ _) | (with_reducible refine below_next ?_ (by with_reducible assumption)) | omega | (dsimp only; omega) | (simp only [World.size_alloc, World.size_setCell, World.size_drew, World.heap_drewN]; omega))))⟩⟩
          · have z2 : (kd == 2) = false := by simpa using k2
            by_cases k5 : kd = 5
            · have z1 : (kd == 1) = false := by rw [k5]; decide
              have z4 : (kd == 4) = false := by rw [k5]; decide
              have z5 : (kd == 5) = true := by rw [k5]; decide
              clear k2 k3 k5
              have HRR := HR.out.store ch ⟨ak, ab, al⟩ ⟨vk, vb, vl⟩
              have HRF := Lib.hid HRR.2
              have HA := Lib.hid (fun W' (hb : Below W.heap.size W W') => store_any (HTW.out.next hb).mem ch ak ab al vk vb vl oal ovb (by omega))
              have HC := Lib.hid (fun W' s' R' (h : RefS W' w.heap.size rm s' capR R') => rstore_any h ch ak ab al vk vb vl oal ovb (by omega))
              have HC := Lib.hid (fun W' (h : RefS W' w.heap.size rm s capR R) => HC.out W' s R h)
              rw [HRR.1] at HA
              generalize (storeRA R ch ⟨ak, ab, al⟩ ⟨vk, vb, vl⟩).isSome = q at HA HC
              clear HRR
              go_upto_region 25 with (fail)
              go_region_held3 (fun w' => w'.cell? ⟨g7, 0, none⟩ = some (.int .i64 kd) ∧ w'.cell? ⟨g7, 1, none⟩ = some (.int .i64 nn) ∧ w'.cell? ⟨g7, 2, none⟩ = some (.int .i64 ch) ∧ w'.cell? ⟨g7, 3, none⟩ = some (.int .i64 ak) ∧ w'.cell? ⟨g7, 4, none⟩ = some (.int .u64 ab) ∧ w'.cell? ⟨g7, 5, none⟩ = some (.int .i64 al) ∧ w'.cell? ⟨g7, 6, none⟩ = some (.int .i64 vk) ∧ w'.cell? ⟨g7, 7, none⟩ = some (.int .u64 vb) ∧ w'.cell? ⟨g7, 8, none⟩ = some (.int .i64 vl) ∧ Box9 w' g7 ⟨kd, nn, ch, ⟨ak, ab, al⟩, ⟨vk, vb, vl⟩⟩) (first | exact hSX3 | exact hSX | exact HB.out.cells)
                (first
                  | (go_at_call 17; (with_reducible refine (HA.out _ (by (repeat' (first | (with_reducible exact Below.refl _ _) | (with_reducible assumption) | (with_reducible refine Below.setCell ?_ ?_ _) | (with_reducible refine Below.alloc ?_ ?_ _) | (with_reducible refine Below.drew ?_) | (with_reducible refine below_drewN ?_ _) | (with_reducible refine below_next ?_ (by with_reducible assumption)) | omega | (dsimp only; omega) | (simp only [World.size_alloc, World.size_setCell, World.size_drew, World.heap_drewN]; omega))))).mono ?_); rintro e w2 ⟨rfl, hL⟩; have H2 := Two.prog (HTW.out.next (by (repeat' (first | (with_reducible exact Below.refl _ _) | (with_reducible assumption) | (with_reducible refine Below.setCell ?_ ?_ _) | (with_reducible refine Below.alloc ?_ ?_ _) | (with_reducible refine Below.drew ?_) | (with_reducible refine below_drewN ?_ _) | (with_reducible refine below_next ?_ (by with_reducible assumption)) | omega | (dsimp only; omega) | (simp only [World.size_alloc, World.size_setCell, World.size_drew, World.heap_drewN]; omega))))) hL (own_store ch ⟨ak, ab, al⟩ ⟨vk, vb, vl⟩); have hf2 := H2.2 g7 (HF.out.next (by (repeat' (first | (with_reducible exact Below.refl _ _) | (with_reducible assumption) | (with_reducible refine Below.setCell ?_ ?_ _) | (with_reducible refine Below.alloc ?_ ?_ _) | (with_reducible refine Below.drew ?_) | (with_reducible refine below_drewN ?_ _) | (with_reducible refine below_next ?_ (by with_reducible assumption)) | omega | (dsimp only; omega) | (simp only [World.size_alloc, World.size_setCell, World.size_drew, World.heap_drewN]; omega))))); have HT2 := Lib.hid H2.1; have HF2 := Lib.hid hf2.2; have hBX : Box9 w2 g7 ⟨kd, nn, ch, ⟨ak, ab, al⟩, ⟨vk, vb, vl⟩⟩ := hf2.1.trans HB.out; have hl2 := hL.low; have hz2 := hL.kept.1; have hSX := hBX.cells; clear H2 hf2 hL)
                  | (go_at_call 18; (refine (HC.out _ (HT2.out.next (by (repeat' (first | (with_reducible exact Below.refl _ _) | (with_reducible assumption) | (with_reducible refine Below.setCell ?_ ?_ _) | (with_reducible refine Below.alloc ?_ ?_ _) | (with_reducible refine Below.drew ?_) | (with_reducible refine below_drewN ?_ _) | (with_reducible refine below_next ?_ (by with_reducible assumption)) | omega | (dsimp only; omega) | (simp only [World.size_alloc, World.size_setCell, World.size_drew, World.heap_drewN]; omega))))).ref).mono ?_); rintro e w3 ⟨rfl, hL3⟩; have H3 := Two.refer (HT2.out.next (by (repeat' (first | (with_reducible exact Below.refl _ _) | (with_reducible assumption) | (with_reducible refine Below.setCell ?_ ?_ _) | (with_reducible refine Below.alloc ?_ ?_ _) | (with_reducible refine Below.drew ?_) | (with_reducible refine below_drewN ?_ _) | (with_reducible refine below_next ?_ (by with_reducible assumption)) | omega | (dsimp only; omega) | (simp only [World.size_alloc, World.size_setCell, World.size_drew, World.heap_drewN]; omega))))) hL3; have hf3 := H3.2 g7 (HF2.out.next (by (repeat' (first | (with_reducible exact Below.refl _ _) | (with_reducible assumption) | (with_reducible refine Below.setCell ?_ ?_ _) | (with_reducible refine Below.alloc ?_ ?_ _) | (with_reducible refine Below.drew ?_) | (with_reducible refine below_drewN ?_ _) | (with_reducible refine below_next ?_ (by with_reducible assumption)) | omega | (dsimp only; omega) | (simp only [World.size_alloc, World.size_setCell, World.size_drew, World.heap_drewN]; omega))))); have HT3 := Lib.hid H3.1; have HF3 := Lib.hid hf3.2; have hBX3 : Box9 w3 g7 ⟨kd, nn, ch, ⟨ak, ab, al⟩, ⟨vk, vb, vl⟩⟩ := hf3.1.trans hBX; have hl3 := hL3.low; have hSX3 := hBX3.cells; clear H3 hf3 hL3))
              have hlE : Below w.heap.size w w3 := Below.trans (Below.trans (by (repeat' (first | (with_reducible exact Below.refl _ _) | (with_reducible assumption) | (with_reducible refine Below.setCell ?_ ?_ _) | (with_reducible refine Below.alloc ?_ ?_ _) | (with_reducible refine Below.drew ?_) | (with_reducible refine below_drewN ?_ _) | (with_reducible refine below_next ?_ (by with_reducible assumption)) | omega | (dsimp only; omega) | (simp only [World.size_alloc, World.size_setCell, World.size_drew, World.heap_drewN]; omega)))) hl2) hl3
              go_wp2
              go_meet
              exact ⟨rfl, tt, rfl, Lib.hid ⟨_, _, _, _, _, _, _, HT3.out.next (by (repeat' (first | (with_reducible exact Below.refl _ _) | (with_reducible assumption) | (with_reducible refine Below.setCell ?_ ?_ _) | (with_reducible refine Below.alloc ?_ ?_ _) | (with_reducible refine Below.drew ?_) | (with_reducible refine below_drewN ?_ _) | (with_reducible refine below_next ?_ (by with_reducible assumption)) | omega | (dsimp only; omega) | (simp only [World.size_alloc, World.size_setCell, World.size_drew, World.heap_drewN]; omega)))), HRF.out, by omega, by omega, ht0, ht1, by (repeat' (first | (with_reducible exact Below.refl _ _) | (with_reducible assumption) | (with_reducible refine Below.setCell ?_ ?_ _) | (with_reducible refine Below.alloc ?_ ?_ _) | (with_reducible refine Below.drew ?_) | (with_reducible refine below_drewN ?_ _) | (with_reducible refine below_next ?_ (by with_reducible assumption)) | omega | (dsimp only; omega) | (simp only [World.size_alloc, World.size_setCell, World.size_drew, World.heap_drewN]; omega))), Box9.next hBX3 (by (repeat' (first | (with_reducible exact Below.refl _ _) | (with_reducible assumption) | (with_reducible refine Below.setCell ?_ ?_ _) | (with_reducible refine Below.alloc ?_ ?_ _) | (with_reducible refine Below.drew ?_) | (with_reducible refine below_drewN ?_ _) | (with_reducible refine below_next ?_ (by with_reducible assumption)) | omega | (dsimp only; omega) | (simp only [World.size_alloc, World.size_setCell, World.size_drew, World.heap_drewN]; omega)))), HF3.out.next (by (repeat' (first | (with_reducible exact Below.refl _ _) | (with_reducible assumption) | (with_reducible refine Below.setCell ?_ ?_ _) | (with_reducible refine Below.alloc ?_ ?_ _) | (with_reducible refine Below.drew ?_) | (with_reducible refine below_drewN ?_ _) | (with_reducible refine below_next ?_ (by with_reducible assumption)) | omega | (dsimp only; omega) | (simp only [World.size_alloc, World.size_setCell, World.size_drew, World.heap_drewN]; omega))))⟩⟩
            · have z5 : (kd == 5) = false := by simpa using k5
              by_cases k4 : kd = 4
              · have z1 : (kd == 1) = false := by rw [k4]; decide
                have z4 : (kd == 4) = true := by rw [k4]; decide
                clear k2 k3 k5 k4
                have HA := Lib.hid (fun W' (hb : Below W.heap.size W W') => load_any (HTW.out.next hb).mem ch ak ab al oal)
                have HC := Lib.hid (fun W' (hb : Below W.heap.size W W') => rload_any (HTW.out.next hb).ref ch ak ab al oal)
                rw [HR.out.load ch ⟨ak, ab, al⟩] at HA
                generalize (rloadA R ch ⟨ak, ab, al⟩).isSome = q at HA HC
                obtain ⟨r, hr⟩ : ∃ r, ptrV_ (rloadA R ch ⟨ak, ab, al⟩) = r := ⟨_, rfl⟩
                rw [hr] at HA HC
                clear hr
                obtain ⟨r1, r2, r3⟩ := r
                dsimp only at HA HC
                have hA1 := cell_alloc_if
                have hA2 := frozen_alloc_if
                have hA3 := cell_set_if
                go_wp2_with (first
                  | (go_at_call 15; (with_reducible refine (HA.out _ (by (repeat' (first | (with_reducible exact Below.refl _ _) | (with_reducible assumption) | (with_reducible refine Below.setCell ?_ ?_ _) | (with_reducible refine Below.alloc ?_ ?_ _) | (with_reducible refine Below.drew ?_) | (with_reducible refine below_drewN ?_ _) | (with_reducible refine below_next ?_ (by with_reducible assumption)) | omega | (dsimp only; omega) | (simp only [World.size_alloc, World.size_setCell, World.size_drew, World.heap_drewN]; omega))))).mono ?_); rintro e w' ⟨rfl, hbl⟩; obtain ⟨hc, hf, hz⟩ := cif hbl; (try simp only [World.size_alloc, World.size_setCell, World.size_drew, World.heap_drewN] at hz))
                  | (go_at_call 16; (with_reducible refine (HC.out _ (by (repeat' (first | (with_reducible exact Below.refl _ _) | (with_reducible assumption) | (with_reducible refine Below.setCell ?_ ?_ _) | (with_reducible refine Below.alloc ?_ ?_ _) | (with_reducible refine Below.drew ?_) | (with_reducible refine below_drewN ?_ _) | (with_reducible refine below_next ?_ (by with_reducible assumption)) | omega | (dsimp only; omega) | (simp only [World.size_alloc, World.size_setCell, World.size_drew, World.heap_drewN]; omega))))).mono ?_); rintro e w' ⟨rfl, hbl⟩; obtain ⟨hc, hf, hz⟩ := cif hbl; (try simp only [World.size_alloc, World.size_setCell, World.size_drew, World.heap_drewN] at hz)))
                go_meet
                exact ⟨rfl, tt, rfl, Lib.hid ⟨nb, last, cap, M, s, capR, R, HTW.out.next (by (repeat' (first | (with_reducible exact Below.refl _ _) | (with_reducible assumption) | (with_reducible refine Below.setCell ?_ ?_ _) | (with_reducible refine Below.alloc ?_ ?_ _) | (with_reducible refine Below.drew ?_) | (with_reducible refine below_drewN ?_ _) | (with_reducible refine below_next ?_ (by with_reducible assumption)) | omega | (dsimp only; omega) | (simp only [World.size_alloc, World.size_setCell, World.size_drew, World.heap_drewN]; omega)))), HR.out, by omega, by omega, ht0, ht1, by (repeat' (first | (with_reducible exact Below.refl _ _) | (with_reducible assumption) | (with_reducible refine Below.setCell ?_ ?_ _) | (with_reducible refine Below.alloc ?_ ?_ _) | (with_reducible refine Below.drew ?_) | (with_reducible refine below_drewN ?_ _) | (with_reducible refine below_next ?_ (by with_reducible assumption)) | omega | (dsimp only; omega) | (simp only [World.size_alloc, World.size_setCell, World.size_drew, World.heap_drewN]; omega))), Box9.next HB.out (by (repeat' (first | (with_reducible exact Below.refl _ _) | (with_reducible assumption) | (with_reducible refine Below.setCell ?_ ?_ _) | (with_reducible refine Below.alloc ?_ ?_ _) | (with_reducible refine Below.drew ?_) | (with_reducible refine below_drewN ?_ _) | (with_reducible refine below_next ?_ (by with_reducible assumption)) | omega | (dsimp only; omega) | (simp only [World.size_alloc, World.size_setCell, World.size_drew, World.heap_drewN]; omega)))), HF.out.next (by (repeat' (first | (with_reducible exact Below.refl _ _) | (with_reducible assumption) | (with_reducible refine Below.setCell ?_ ?_ _) | (with_reducible refine Below.alloc ?_ ?_ _) | (with_reducible refine Below.drew ?_) | (with_reducible refine below_drewN ?_ _) | (with_reducible refine below_next ?_ (by with_reducible assumption)) | omega | (dsimp only; omega) | (simp only [World.size_alloc, World.size_setCell, World.size_drew, World.heap_drewN]; omega))))⟩⟩
              · have z4 : (kd == 4) = false := by simpa using k4
                by_cases k6 : kd = 6
                · have z1 : (kd == 1) = false := by rw [k6]; decide
                  have z6 : (kd == 6) = true := by rw [k6]; decide
                  clear k2 k3 k5 k4 k6
                  have HA := Lib.hid (fun W' (hb : Below W.heap.size W W') => peval_any (HTW.out.next hb).mem nn ak ab al vk vb vl on oab ovb oal ovl _ rfl)
                  have HC := Lib.hid (fun W' (hb : Below W.heap.size W W') => reval_any (HTW.out.next hb).ref nn ak ab al vk vb vl on oab ovb oal ovl _ rfl)
                  rw [HR.out.eval HTW.out.mem nn ⟨ak, ab, al⟩ ⟨vk, vb, vl⟩ oab ovb] at HA
                  obtain ⟨r, hr⟩ : ∃ r, evalG (inR R ⟨ak, ab, al⟩) (inR R ⟨vk, vb, vl⟩) (endsR R ⟨ak, ab, al⟩) (endsR R ⟨vk, vb, vl⟩) nn ⟨ak, ab, al⟩ ⟨vk, vb, vl⟩ = r := ⟨_, rfl⟩
                  rw [hr] at HA HC
                  clear hr
                  obtain ⟨⟨r1, r2, r3⟩, q⟩ := r
                  dsimp only at HA HC
                  have hA1 := cell_alloc_if
                  have hA2 := frozen_alloc_if
                  have hA3 := cell_set_if
                  go_wp2_with (first
                    | (go_at_call 19; (with_reducible refine (HA.out _ (by (repeat' (first | (with_reducible exact Below.refl _ _) | (with_reducible assumption) | (with_reducible refine Below.setCell ?_ ?_ _) | (with_reducible refine Below.alloc ?_ ?_ _) | (with_reducible refine Below.drew ?_) | (with_reducible refine below_drewN ?_ _) | (with_reducible refine below_next ?_ (by with_reducible assumption)) | omega | (dsimp only; omega) | (simp only [World.size_alloc, World.size_setCell, World.size_drew, World.heap_drewN]; omega))))).mono ?_); rintro e w' ⟨rfl, hbl⟩; obtain ⟨hc, hf, hz⟩ := cif hbl; (try simp only [World.size_alloc, World.size_setCell, World.size_drew, World.heap_drewN] at hz))
                    | (go_at_call 20; (with_reducible refine (HC.out _ (by (repeat' (first | (with_reducible exact Below.refl _ _) | (with_reducible assumption) | (with_reducible refine Below.setCell ?_ ?_ _) | (with_reducible refine Below.alloc ?_ ?_ _) | (with_reducible refine Below.drew ?_) | (with_reducible refine below_drewN ?_ _) | (with_reducible refine below_next ?_ (by with_reducible assumption)) | omega | (dsimp only; omega) | (simp only [World.size_alloc, World.size_setCell, World.size_drew, World.heap_drewN]; omega))))).mono ?_); rintro e w' ⟨rfl, hbl⟩; obtain ⟨hc, hf, hz⟩ := cif hbl; (try simp only [World.size_alloc, World.size_setCell, World.size_drew, World.heap_drewN] at hz)))
                  go_meet
                  exact ⟨rfl, tt, rfl, Lib.hid ⟨nb, last, cap, M, s, capR, R, HTW.out.next (by (repeat' (first | (with_reducible exact Below.refl _ _) | (with_reducible assumption) | (with_reducible refine Below.setCell ?_ ?_ _) | (with_reducible refine Below.alloc ?_ ?_ _) | (with_reducible refine Below.drew ?_) | (with_reducible refine below_drewN ?_ _) | (with_reducible refine below_next ?_ (by with_reducible assumption)) | omega | (dsimp only; omega) | (simp only [World.size_alloc, World.size_setCell, World.size_drew, World.heap_drewN]; omega)))), HR.out, by omega, by omega, ht0, ht1, by (repeat' (first | (with_reducible exact Below.refl _ _) | (with_reducible assumption) | (with_reducible refine Below.setCell ?_ ?_ _) | (with_reducible refine Below.alloc ?_ ?_ _) | (with_reducible refine Below.drew ?_) | (with_reducible refine below_drewN ?_ _) | (with_reducible refine below_next ?_ (by with_reducible assumption)) | omega | (dsimp only; omega) | (simp only [World.size_alloc, World.size_setCell, World.size_drew, World.heap_drewN]; omega))), Box9.next HB.out (by (repeat' (first | (with_reducible exact Below.refl _ _) | (with_reducible assumption) | (with_reducible refine Below.setCell ?_ ?_ _) | (with_reducible refine Below.alloc ?_ ?_ _) | (with_reducible refine Below.drew ?_) | (with_reducible refine below_drewN ?_ _) | (with_reducible refine below_next ?_ (by with_reducible assumption)) | omega | (dsimp only; omega) | (simp only [World.size_alloc, World.size_setCell, World.size_drew, World.heap_drewN]; omega)))), HF.out.next (by (repeat' (first | (with_reducible exact Below.refl _ _) | (with_reducible assumption) | (with_reducible refine Below.setCell ?_ ?_ _) | (with_reducible refine Below.alloc ?_ ?_ _) | (with_reducible refine Below.drew ?_) | (with_reducible refine below_drewN ?_ _) | (with_reducible refine below_next ?_ (by with_reducible assumption)) | omega | (dsimp only; omega) | (simp only [World.size_alloc, World.size_setCell, World.size_drew, World.heap_drewN]; omega))))⟩⟩
                · have z6 : (kd == 6) = false := by simpa using k6
                  by_cases k1 : kd = 1
                  · have z1 : (kd == 1) = true := by rw [k1]; decide
                    clear k2 k3 k5 k4 k6 k1
                    by_cases y1 : nn < 0 ∨ 16777216 < nn
                    · have hno := y1
                      by_cases y2 : 0 < nn
                      · have e1 : decide (0 < nn) = true := by simpa using y2
                        have e2 : decide (nn ≤ 16777216) = false := by simp; omega
                        clear y1 y2
                        have HA := Lib.hid (fun W' => alloc_no (w := W') pm nn hno)
                        have HC := Lib.hid (fun W' => ralloc_no W' rm nn hno)
                        go_upto_region 15 with (fail)
                        go_region_held3 (fun w' => w'.cell? ⟨g7, 0, none⟩ = some (.int .i64 kd) ∧ w'.cell? ⟨g7, 1, none⟩ = some (.int .i64 nn) ∧ w'.cell? ⟨g7, 2, none⟩ = some (.int .i64 ch) ∧ w'.cell? ⟨g7, 3, none⟩ = some (.int .i64 ak) ∧ w'.cell? ⟨g7, 4, none⟩ = some (.int .u64 ab) ∧ w'.cell? ⟨g7, 5, none⟩ = some (.int .i64 al) ∧ w'.cell? ⟨g7, 6, none⟩ = some (.int .i64 vk) ∧ w'.cell? ⟨g7, 7, none⟩ = some (.int .u64 vb) ∧ w'.cell? ⟨g7, 8, none⟩ = some (.int .i64 vl) ∧ Box9 w' g7 ⟨kd, nn, ch, ⟨ak, ab, al⟩, ⟨vk, vb, vl⟩⟩ ∧ Below W.heap.size W w') (first | exact ⟨HB.out.cells.1, HB.out.cells.2.1, HB.out.cells.2.2.1, HB.out.cells.2.2.2.1, HB.out.cells.2.2.2.2.1, HB.out.cells.2.2.2.2.2.1, HB.out.cells.2.2.2.2.2.2.1, HB.out.cells.2.2.2.2.2.2.2.1, HB.out.cells.2.2.2.2.2.2.2.2.1, HB.out, by (repeat' (first | (with_reducible exact Below.refl _ _) | (with_reducible assumption) | (with_reducible refine Below.setCell ?_ ?_ _) | (with_reducible refine Below.alloc ?_ ?_ _) | (with_reducible refine Below.drew ?_) | (with_reducible refine below_drewN ?_ _) | (with_reducible refine below_next ?_ (by with_reducible assumption)) | omega | (dsimp only; omega) | (simp only [World.size_alloc, World.size_setCell, World.size_drew, World.heap_drewN]; omega)))⟩)
                          (first
                            | (go_at_call 9; (with_reducible refine (HA.out _).mono ?_); rintro e w2 ⟨rfl, rfl⟩)
                            | (go_at_call 10; (with_reducible refine (HC.out _).mono ?_); rintro e w3 ⟨rfl, rfl⟩))
                        go_wp2
                        go_meet
                        exact ⟨rfl, tt, rfl, Lib.hid ⟨nb, last, cap, M, s, capR, R, HTW.out.next (by (repeat' (first | (with_reducible exact Below.refl _ _) | (with_reducible assumption) | (with_reducible refine Below.setCell ?_ ?_ _) | (with_reducible refine Below.alloc ?_ ?_ _) | (with_reducible refine Below.drew ?_) | (with_reducible refine below_drewN ?_ _) | (with_reducible refine below_next ?_ (by with_reducible assumption)) | omega | (dsimp only; omega) | (simp only [World.size_alloc, World.size_setCell, World.size_drew, World.heap_drewN]; omega)))), HR.out, by omega, by omega, ht0, ht1, by (repeat' (first | (with_reducible exact Below.refl _ _) | (with_reducible assumption) | (with_reducible refine Below.setCell ?_ ?_ _) | (with_reducible refine Below.alloc ?_ ?_ _) | (with_reducible refine Below.drew ?_) | (with_reducible refine below_drewN ?_ _) | (with_reducible refine below_next ?_ (by with_reducible assumption)) | omega | (dsimp only; omega) | (simp only [World.size_alloc, World.size_setCell, World.size_drew, World.heap_drewN]; omega))), Box9.next HB.out (by (repeat' (first | (with_reducible exact Below.refl _ _) | (with_reducible assumption) | (with_reducible refine Below.setCell ?_ ?_ _) | (with_reducible refine Below.alloc ?_ ?_ _) | (with_reducible refine Below.drew ?_) | (with_reducible refine below_drewN ?_ _) | (with_reducible refine below_next ?_ (by with_reducible assumption)) | omega | (dsimp only; omega) | (simp only [World.size_alloc, World.size_setCell, World.size_drew, World.heap_drewN]; omega)))), HF.out.next (by (repeat' (first | (with_reducible exact Below.refl _ _) | (with_reducible assumption) | (with_reducible refine Below.setCell ?_ ?_ _) | (with_reducible refine Below.alloc ?_ ?_ _) | (with_reducible refine Below.drew ?_) | (with_reducible refine below_drewN ?_ _) | (with_reducible refine below_next ?_ (by with_reducible assumption)) | omega | (dsimp only; omega) | (simp only [World.size_alloc, World.size_setCell, World.size_drew, World.heap_drewN]; omega))))⟩⟩
                      · have e1 : decide (0 < nn) = false := by simpa using y2
                        clear y1 y2
                        have HA := Lib.hid (fun W' => alloc_no (w := W') pm nn hno)
                        have HC := Lib.hid (fun W' => ralloc_no W' rm nn hno)
                        go_upto_region 15 with (fail)
                        go_region_held3 (fun w' => w'.cell? ⟨g7, 0, none⟩ = some (.int .i64 kd) ∧ w'.cell? ⟨g7, 1, none⟩ = some (.int .i64 nn) ∧ w'.cell? ⟨g7, 2, none⟩ = some (.int .i64 ch) ∧ w'.cell? ⟨g7, 3, none⟩ = some (.int .i64 ak) ∧ w'.cell? ⟨g7, 4, none⟩ = some (.int .u64 ab) ∧ w'.cell? ⟨g7, 5, none⟩ = some (.int .i64 al) ∧ w'.cell? ⟨g7, 6, none⟩ = some (.int .i64 vk) ∧ w'.cell? ⟨g7, 7, none⟩ = some (.int .u64 vb) ∧ w'.cell? ⟨g7, 8, none⟩ = some (.int .i64 vl) ∧ Box9 w' g7 ⟨kd, nn, ch, ⟨ak, ab, al⟩, ⟨vk, vb, vl⟩⟩ ∧ Below W.heap.size W w') (first | exact ⟨HB.out.cells.1, HB.out.cells.2.1, HB.out.cells.2.2.1, HB.out.cells.2.2.2.1, HB.out.cells.2.2.2.2.1, HB.out.cells.2.2.2.2.2.1, HB.out.cells.2.2.2.2.2.2.1, HB.out.cells.2.2.2.2.2.2.2.1, HB.out.cells.2.2.2.2.2.2.2.2.1, HB.out, by (repeat' (first | (with_reducible exact Below.refl _ _) | (with_reducible assumption) | (with_reducible refine Below.setCell ?_ ?_ _) | (with_reducible refine Below.alloc ?_ ?_ _) | (with_reducible refine Below.drew ?_) | (with_reducible refine below_drewN ?_ _) | (with_reducible refine below_next ?_ (by with_reducible assumption)) | omega | (dsimp only; omega) | (simp only [World.size_alloc, World.size_setCell, World.size_drew, World.heap_drewN]; omega)))⟩)
                          (first
                            | (go_at_call 9; (with_reducible refine (HA.out _).mono ?_); rintro e w2 ⟨rfl, rfl⟩)
                            | (go_at_call 10; (with_reducible refine (HC.out _).mono ?_); rintro e w3 ⟨rfl, rfl⟩))
                        go_wp2
                        go_meet
                        exact ⟨rfl, tt, rfl, Lib.hid ⟨nb, last, cap, M, s, capR, R, HTW.out.next (by (repeat' (first | (with_reducible exact Below.refl _ _) | (with_reducible assumption) | (with_reducible refine Below.setCell ?_ ?_ _) | (with_reducible refine Below.alloc ?_ ?_ _) | (with_reducible refine Below.drew ?_) | (with_reducible refine below_drewN ?_ _) | (with_reducible refine below_next ?_ (by with_reducible assumption)) | omega | (dsimp only; omega) | (simp only [World.size_alloc, World.size_setCell, World.size_drew, World.heap_drewN]; omega)))), HR.out, by omega, by omega, ht0, ht1, by (repeat' (first | (with_reducible exact Below.refl _ _) | (with_reducible assumption) | (with_reducible refine Below.setCell ?_ ?_ _) | (with_reducible refine Below.alloc ?_ ?_ _) | (with_reducible refine Below.drew ?_) | (with_reducible refine below_drewN ?_ _) | (with_reducible refine below_next ?_ (by with_reducible assumption)) | omega | (dsimp only; omega) | (simp only [World.size_alloc, World.size_setCell, World.size_drew, World.heap_drewN]; omega))), Box9.next HB.out (by (repeat' (first | (with_reducible exact Below.refl _ _) | (with_reducible assumption) | (with_reducible refine Below.setCell ?_ ?_ _) | (with_reducible refine Below.alloc ?_ ?_ _) | (with_reducible refine Below.drew ?_) | (with_reducible refine below_drewN ?_ _) | (with_reducible refine below_next ?_ (by with_reducible assumption)) | omega | (dsimp only; omega) | (simp only [World.size_alloc, World.size_setCell, World.size_drew, World.heap_drewN]; omega)))), HF.out.next (by (repeat' (first | (with_reducible exact Below.refl _ _) | (with_reducible assumption) | (with_reducible refine Below.setCell ?_ ?_ _) | (with_reducible refine Below.alloc ?_ ?_ _) | (with_reducible refine Below.drew ?_) | (with_reducible refine below_drewN ?_ _) | (with_reducible refine below_next ?_ (by with_reducible assumption)) | omega | (dsimp only; omega) | (simp only [World.size_alloc, World.size_setCell, World.size_drew, World.heap_drewN]; omega))))⟩⟩
                    · obtain ⟨n, hnn⟩ : ∃ n : Nat, nn = n := ⟨nn.toNat, by omega⟩
                      have hn : n ≤ 16777216 := by omega
                      have HNN := Lib.hid hnn
                      have hnn0 : 0 ≤ nn := by omega
                      have hnn1 : nn ≤ 16777216 := by omega
                      clear hnn
                      by_cases y2 : 0 < nn
                      · have e1 : decide (0 < nn) = true := by simpa using y2
                        have e2 : decide (nn ≤ 16777216) = true := by simp; omega
                        have e3 : wrap64 (tt + nn) = tt + nn := by unfold wrap64; omega
                        by_cases y3 : 65536 < tt + nn
                        · have e4 : decide (65536 < tt + nn) = true := by simpa using y3
                          clear hn y1 y2 y3
                          go_wp2
                          go_returns
                          exact ⟨rfl, by (repeat' (first | (with_reducible exact Below.refl _ _) | (with_reducible assumption) | (with_reducible refine Below.setCell ?_ ?_ _) | (with_reducible refine Below.alloc ?_ ?_ _) | (with_reducible refine Below.drew ?_) | (with_reducible refine below_drewN ?_ _) | (with_reducible refine below_next ?_ (by with_reducible assumption)) | omega | (dsimp only; omega) | (simp only [World.size_alloc, World.size_setCell, World.size_drew, World.heap_drewN]; omega)))⟩
                        · have e4 : decide (65536 < tt + nn) = false := by simpa using y3
                          clear y1
                          have HA := Lib.hid (fun W' (hb : Below W.heap.size W W') => alloc_yes (HTW.out.next hb).mem n hn (by omega))
                          have HC := Lib.hid (fun W' (h : RefS W' w.heap.size rm s capR R) => ralloc_yes h n hn (by omega) (by have := h.len; omega))
                          rw [HR.out.len] at HC
                          rw [← HNN.out] at HA HC
                          go_upto_region 15 with (fail)
                          go_region_held3 (fun w' => w'.cell? ⟨g7, 0, none⟩ = some (.int .i64 kd) ∧ w'.cell? ⟨g7, 1, none⟩ = some (.int .i64 nn) ∧ w'.cell? ⟨g7, 2, none⟩ = some (.int .i64 ch) ∧ w'.cell? ⟨g7, 3, none⟩ = some (.int .i64 ak) ∧ w'.cell? ⟨g7, 4, none⟩ = some (.int .u64 ab) ∧ w'.cell? ⟨g7, 5, none⟩ = some (.int .i64 al) ∧ w'.cell? ⟨g7, 6, none⟩ = some (.int .i64 vk) ∧ w'.cell? ⟨g7, 7, none⟩ = some (.int .u64 vb) ∧ w'.cell? ⟨g7, 8, none⟩ = some (.int .i64 vl) ∧ Box9 w' g7 ⟨kd, nn, ch, ⟨ak, ab, al⟩, ⟨vk, vb, vl⟩⟩) (first | exact hSX3 | exact hSX | exact HB.out.cells)
                            (first
                              | (go_at_call 9; (with_reducible refine (HA.out _ (by (repeat' (first | (with_reducible exact Below.refl _ _) | (with_reducible assumption) | (with_reducible refine Below.setCell ?_ ?_ _) | (with_reducible refine Below.alloc ?_ ?_ _) | (with_reducible refine Below.drew ?_) | (with_reducible refine below_drewN ?_ _) | (with_reducible refine below_next ?_ (by with_reducible assumption)) | omega | (dsimp only; omega) | (simp only [World.size_alloc, World.size_setCell, World.size_drew, World.heap_drewN]; omega))))).mono ?_); rintro e w2 ⟨rfl, hL⟩; have H2 := Two.prog (HTW.out.next (by (repeat' (first | (with_reducible exact Below.refl _ _) | (with_reducible assumption) | (with_reducible refine Below.setCell ?_ ?_ _) | (with_reducible refine Below.alloc ?_ ?_ _) | (with_reducible refine Below.drew ?_) | (with_reducible refine below_drewN ?_ _) | (with_reducible refine below_next ?_ (by with_reducible assumption)) | omega | (dsimp only; omega) | (simp only [World.size_alloc, World.size_setCell, World.size_drew, World.heap_drewN]; omega))))) hL (own_alloc _ n); have hf2 := H2.2 g7 (HF.out.next (by (repeat' (first | (with_reducible exact Below.refl _ _) | (with_reducible assumption) | (with_reducible refine Below.setCell ?_ ?_ _) | (with_reducible refine Below.alloc ?_ ?_ _) | (with_reducible refine Below.drew ?_) | (with_reducible refine below_drewN ?_ _) | (with_reducible refine below_next ?_ (by with_reducible assumption)) | omega | (dsimp only; omega) | (simp only [World.size_alloc, World.size_setCell, World.size_drew, World.heap_drewN]; omega))))); have HT2 := Lib.hid H2.1; have HF2 := Lib.hid hf2.2; have hBX : Box9 w2 g7 ⟨kd, nn, ch, ⟨ak, ab, al⟩, ⟨vk, vb, vl⟩⟩ := hf2.1.trans HB.out; have hl2 := hL.low; have hz2 := hL.kept.1; have hSX := hBX.cells; clear H2 hf2 hL)
                              | (go_at_call 10; (refine (HC.out _ (HT2.out.next (by (repeat' (first | (with_reducible exact Below.refl _ _) | (with_reducible assumption) | (with_reducible refine Below.setCell ?_ ?_ _) | (with_reducible refine Below.alloc ?_ ?_ _) | (with_reducible refine Below.drew ?_) | (with_reducible refine below_drewN ?_ _) | (with_reducible refine below_next ?_ (by with_reducible assumption)) | omega | (dsimp only; omega) | (simp only [World.size_alloc, World.size_setCell, World.size_drew, World.heap_drewN]; omega))))).ref).mono ?_); rintro e w3 ⟨rfl, s3, ga, gb, gp, hL3⟩; have H3 := Two.refer (HT2.out.next (by (repeat' (first | (with_reducible exact Below.refl _ _) | (with_reducible assumption) | (with_reducible refine Below.setCell ?_ ?_ _) | (with_reducible refine Below.alloc ?_ ?_ _) | (with_reducible refine Below.drew ?_) | (with_reducible refine below_drewN ?_ _) | (with_reducible refine below_next ?_ (by with_reducible assumption)) | omega | (dsimp only; omega) | (simp only [World.size_alloc, World.size_setCell, World.size_drew, World.heap_drewN]; omega))))) hL3; have hf3 := H3.2 g7 (HF2.out.next (by (repeat' (first | (with_reducible exact Below.refl _ _) | (with_reducible assumption) | (with_reducible refine Below.setCell ?_ ?_ _) | (with_reducible refine Below.alloc ?_ ?_ _) | (with_reducible refine Below.drew ?_) | (with_reducible refine below_drewN ?_ _) | (with_reducible refine below_next ?_ (by with_reducible assumption)) | omega | (dsimp only; omega) | (simp only [World.size_alloc, World.size_setCell, World.size_drew, World.heap_drewN]; omega))))); have HT3 := Lib.hid H3.1; have HF3 := Lib.hid hf3.2; have hBX3 : Box9 w3 g7 ⟨kd, nn, ch, ⟨ak, ab, al⟩, ⟨vk, vb, vl⟩⟩ := hf3.1.trans hBX; have hl3 := hL3.low; have hSX3 := hBX3.cells; clear H3 hf3 hL3))
                          have hlE : Below w.heap.size w w3 := Below.trans (Below.trans (by (repeat' (first | (with_reducible exact Below.refl _ _) | (with_reducible assumption) | (with_reducible refine Below.setCell ?_ ?_ _) | (with_reducible refine Below.alloc ?_ ?_ _) | (with_reducible refine Below.drew ?_) | (with_reducible refine below_drewN ?_ _) | (with_reducible refine below_next ?_ (by with_reducible assumption)) | omega | (dsimp only; omega) | (simp only [World.size_alloc, World.size_setCell, World.size_drew, World.heap_drewN]; omega)))) hl2) hl3
                          go_wp2
                          go_meet
                          exact ⟨rfl, _, rfl, Lib.hid ⟨_, _, _, _, _, _, _, HT3.out.next (by (repeat' (first | (with_reducible exact Below.refl _ _) | (with_reducible assumption) | (with_reducible refine Below.setCell ?_ ?_ _) | (with_reducible refine Below.alloc ?_ ?_ _) | (with_reducible refine Below.drew ?_) | (with_reducible refine below_drewN ?_ _) | (with_reducible refine below_next ?_ (by with_reducible assumption)) | omega | (dsimp only; omega) | (simp only [World.size_alloc, World.size_setCell, World.size_drew, World.heap_drewN]; omega)))), HR.out.alloc n _ _ _ _ _ _, by omega, by omega, by omega, by omega, by (repeat' (first | (with_reducible exact Below.refl _ _) | (with_reducible assumption) | (with_reducible refine Below.setCell ?_ ?_ _) | (with_reducible refine Below.alloc ?_ ?_ _) | (with_reducible refine Below.drew ?_) | (with_reducible refine below_drewN ?_ _) | (with_reducible refine below_next ?_ (by with_reducible assumption)) | omega | (dsimp only; omega) | (simp only [World.size_alloc, World.size_setCell, World.size_drew, World.heap_drewN]; omega))), Box9.next hBX3 (by (repeat' (first | (with_reducible exact Below.refl _ _) | (with_reducible assumption) | (with_reducible refine Below.setCell ?_ ?_ _) | (with_reducible refine Below.alloc ?_ ?_ _) | (with_reducible refine Below.drew ?_) | (with_reducible refine below_drewN ?_ _) | (with_reducible refine below_next ?_ (by with_reducible assumption)) | omega | (dsimp only; omega) | (simp only [World.size_alloc, World.size_setCell, World.size_drew, World.heap_drewN]; omega)))), HF3.out.next (by (repeat' (first | (with_reducible exact Below.refl _ _) | (with_reducible assumption) | (with_reducible refine Below.setCell ?_ ?_ _) | (with_reducible refine Below.alloc ?_ ?_ _) | (with_reducible refine Below.drew ?_) | (with_reducible refine below_drewN ?_ _) | (with_reducible refine below_next ?_ (by with_reducible assumption)) | omega | (dsimp only; omega) | (simp only [World.size_alloc, World.size_setCell, World.size_drew, World.heap_drewN]; omega))))⟩⟩
                      · have e1 : decide (0 < nn) = false := by simpa using y2
                        clear y1 y2
                        have HA := Lib.hid (fun W' (hb : Below W.heap.size W W') => alloc_yes (HTW.out.next hb).mem n hn (by omega))
                        have HC := Lib.hid (fun W' (h : RefS W' w.heap.size rm s capR R) => ralloc_yes h n hn (by omega) (by have := h.len; omega))
                        rw [HR.out.len] at HC
                        rw [← HNN.out] at HA HC
                        go_upto_region 15 with (fail)
                        go_region_held3 (fun w' => w'.cell? ⟨g7, 0, none⟩ = some (.int .i64 kd) ∧ w'.cell? ⟨g7, 1, none⟩ = some (.int .i64 nn) ∧ w'.cell? ⟨g7, 2, none⟩ = some (.int .i64 ch) ∧ w'.cell? ⟨g7, 3, none⟩ = some (.int .i64 ak) ∧ w'.cell? ⟨g7, 4, none⟩ = some (.int .u64 ab) ∧ w'.cell? ⟨g7, 5, none⟩ = some (.int .i64 al) ∧ w'.cell? ⟨g7, 6, none⟩ = some (.int .i64 vk) ∧ w'.cell? ⟨g7, 7, none⟩ = some (.int .u64 vb) ∧ w'.cell? ⟨g7, 8, none⟩ = some (.int .i64 vl) ∧ Box9 w' g7 ⟨kd, nn, ch, ⟨ak, ab, al⟩, ⟨vk, vb, vl⟩⟩) (first | exact hSX3 | exact hSX | exact HB.out.cells)
                          (first
                            | (go_at_call 9; (with_reducible refine (HA.out _ (by (repeat' (first | (with_reducible exact Below.refl _ _) | (with_reducible assumption) | (with_reducible refine Below.setCell ?_ ?_ _) | (with_reducible refine Below.alloc ?_ ?_ _) | (with_reducible refine Below.drew ?_) | (with_reducible refine below_drewN ?_ _) | (with_reducible refine below_next ?_ (by with_reducible assumption)) | omega | (dsimp only; omega) | (simp only [World.size_alloc, World.size_setCell, World.size_drew, World.heap_drewN]; omega))))).mono ?_); rintro e w2 ⟨rfl, hL⟩; have H2 := Two.prog (HTW.out.next (by (repeat' (first | (with_reducible exact Below.refl _ _) | (with_reducible assumption) | (with_reducible refine Below.setCell ?_ ?_ _) | (with_reducible refine Below.alloc ?_ ?_ _) | (with_reducible refine Below.drew ?_) | (with_reducible refine below_drewN ?_ _) | (with_reducible refine below_next ?_ (by with_reducible assumption)) | omega | (dsimp only; omega) | (simp only [World.size_alloc, World.size_setCell, World.size_drew, World.heap_drewN]; omega))))) hL (own_alloc _ n); have hf2 := H2.2 g7 (HF.out.next (by (repeat' (first | (with_reducible exact Below.refl _ _) | (with_reducible assumption) | (with_reducible refine Below.setCell ?_ ?_ _) | (with_reducible refine Below.alloc ?_ ?_ _) | (with_reducible refine Below.drew ?_) | (with_reducible refine below_drewN ?_ _) | (with_reducible refine below_next ?_ (by with_reducible assumption)) | omega | (dsimp only; omega) | (simp only [World.size_alloc, World.size_setCell, World.size_drew, World.heap_drewN]; omega))))); have HT2 := Lib.hid H2.1; have HF2 := Lib.hid hf2.2; have hBX : Box9 w2 g7 ⟨kd, nn, ch, ⟨ak, ab, al⟩, ⟨vk, vb, vl⟩⟩ := hf2.1.trans HB.out; have hl2 := hL.low; have hz2 := hL.kept.1; have hSX := hBX.cells; clear H2 hf2 hL)
                            | (go_at_call 10; (refine (HC.out _ (HT2.out.next (by (repeat' (first | (with_reducible exact Below.refl _ _) | (with_reducible assumption) | (with_reducible refine Below.setCell ?_ ?_ _) | (with_reducible refine Below.alloc ?_ ?_ _) | (with_reducible refine Below.drew ?_) | (with_reducible refine below_drewN ?_ _) | (with_reducible refine below_next ?_ (by with_reducible assumption)) | omega | (dsimp only; omega) | (simp only [World.size_alloc, World.size_setCell, World.size_drew, World.heap_drewN]; omega))))).ref).mono ?_); rintro e w3 ⟨rfl, s3, ga, gb, gp, hL3⟩; have H3 := Two.refer (HT2.out.next (by (repeat' (first | (with_reducible exact Below.refl _ _) | (with_reducible assumption) | (with_reducible refine Below.setCell ?_ ?_ _) | (with_reducible refine Below.alloc ?_ ?_ _) | (with_reducible refine Below.drew ?_) | (with_reducible refine below_drewN ?_ _) | (with_reducible refine below_next ?_ (by with_reducible assumption)) | omega | (dsimp only; omega) | (simp only [World.size_alloc, World.size_setCell, World.size_drew, World.heap_drewN]; omega))))) hL3; have hf3 := H3.2 g7 (HF2.out.next (by (repeat' (first | (with_reducible exact Below.refl _ _) | (with_reducible assumption) | (with_reducible refine Below.setCell ?_ ?_ _) | (with_reducible refine Below.alloc ?_ ?_ _) | (with_reducible refine Below.drew ?_) | (with_reducible refine below_drewN ?_ _) | (with_reducible refine below_next ?_ (by with_reducible assumption)) | omega | (dsimp only; omega) | (simp only [World.size_alloc, World.size_setCell, World.size_drew, World.heap_drewN]; omega))))); have HT3 := Lib.hid H3.1; have HF3 := Lib.hid hf3.2; have hBX3 : Box9 w3 g7 ⟨kd, nn, ch, ⟨ak, ab, al⟩, ⟨vk, vb, vl⟩⟩ := hf3.1.trans hBX; have hl3 := hL3.low; have hSX3 := hBX3.cells; clear H3 hf3 hL3))
                        have hlE : Below w.heap.size w w3 := Below.trans (Below.trans (by (repeat' (first | (with_reducible exact Below.refl _ _) | (with_reducible assumption) | (with_reducible refine Below.setCell ?_ ?_ _) | (with_reducible refine Below.alloc ?_ ?_ _) | (with_reducible refine Below.drew ?_) | (with_reducible refine below_drewN ?_ _) | (with_reducible refine below_next ?_ (by with_reducible assumption)) | omega | (dsimp only; omega) | (simp only [World.size_alloc, World.size_setCell, World.size_drew, World.heap_drewN]; omega)))) hl2) hl3
                        go_wp2
                        go_meet
                        exact ⟨rfl, _, rfl, Lib.hid ⟨_, _, _, _, _, _, _, HT3.out.next (by (repeat' (first | (with_reducible exact Below.refl _ _) | (with_reducible assumption) | (with_reducible refine Below.setCell ?_ ?_ _) | (with_reducible refine Below.alloc ?_ ?_ _) | (with_reducible refine Below.drew ?_) | (with_reducible refine below_drewN ?_ _) | (with_reducible refine below_next ?_ (by with_reducible assumption)) | omega | (dsimp only; omega) | (simp only [World.size_alloc, World.size_setCell, World.size_drew, World.heap_drewN]; omega)))), HR.out.alloc n _ _ _ _ _ _, by omega, by omega, by omega, by omega, by (repeat' (first | (with_reducible exact Below.refl _ _) | (with_reducible assumption) | (with_reducible refine Below.setCell ?_ ?_ _) | (with_reducible refine Below.alloc ?_ ?_ _) | (with_reducible refine Below.drew ?_) | (with_reducible refine below_drewN ?_ _) | (with_reducible refine below_next ?_ (by with_reducible assumption)) | omega | (dsimp only; omega) | (simp only [World.size_alloc, World.size_setCell, World.size_drew, World.heap_drewN]; omega))), Box9.next hBX3 (by (repeat' (first | (with_reducible exact Below.refl _ _) | (with_reducible assumption) | (with_reducible refine Below.setCell ?_ ?_ _) | (with_reducible refine Below.alloc ?_ ?_ _) | (with_reducible refine Below.drew ?_) | (with_reducible refine below_drewN ?_ _) | (with_reducible refine below_next ?_ (by with_reducible assumption)) | omega | (dsimp only; omega) | (simp only [World.size_alloc, World.size_setCell, World.size_drew, World.heap_drewN]; omega)))), HF3.out.next (by (repeat' (first | (with_reducible exact Below.refl _ _) | (with_reducible assumption) | (with_reducible refine Below.setCell ?_ ?_ _) | (with_reducible refine Below.alloc ?_ ?_ _) | (with_reducible refine Below.drew ?_) | (with_reducible refine below_drewN ?_ _) | (with_reducible refine below_next ?_ (by with_reducible assumption)) | omega | (dsimp only; omega) | (simp only [World.size_alloc, World.size_setCell, World.size_drew, World.heap_drewN]; omega))))⟩⟩
                  · have z1 : (kd == 1) = false := by simpa using k1
                    clear k2 k3 k5 k4 k6 k1
                    go_wp2
                    go_meet
                    exact ⟨rfl, tt, rfl, Lib.hid ⟨nb, last, cap, M, s, capR, R, HTW.out.next (by (repeat' (first | (with_reducible exact Below.refl _ _) | (with_reducible assumption) | (with_reducible refine Below.setCell ?_ ?_ _) | (with_reducible refine Below.alloc ?_ ?_ _) | (with_reducible refine Below.drew ?_) | (with_reducible refine below_drewN ?_ _) | (with_reducible refine below_next ?_ (by with_reducible assumption)) | omega | (dsimp only; omega) | (simp only [World.size_alloc, World.size_setCell, World.size_drew, World.heap_drewN]; omega)))), HR.out, by omega, by omega, ht0, ht1, by (repeat' (first | (with_reducible exact Below.refl _ _) | (with_reducible assumption) | (with_reducible refine Below.setCell ?_ ?_ _) | (with_reducible refine Below.alloc ?_ ?_ _) | (with_reducible refine Below.drew ?_) | (with_reducible refine below_drewN ?_ _) | (with_reducible refine below_next ?_ (by with_reducible assumption)) | omega | (dsimp only; omega) | (simp only [World.size_alloc, World.size_setCell, World.size_drew, World.heap_drewN]; omega))), Box9.next HB.out (by (repeat' (first | (with_reducible exact Below.refl _ _) | (with_reducible assumption) | (with_reducible refine Below.setCell ?_ ?_ _) | (with_reducible refine Below.alloc ?_ ?_ _) | (with_reducible refine Below.drew ?_) | (with_reducible refine below_drewN ?_ _) | (with_reducible refine below_next ?_ (by with_reducible assumption)) | omega | (dsimp only; omega) | (simp only [World.size_alloc, World.size_setCell, World.size_drew, World.heap_drewN]; omega)))), HF.out.next (by (repeat' (first | (with_reducible exact Below.refl _ _) | (with_reducible assumption) | (with_reducible refine Below.setCell ?_ ?_ _) | (with_reducible refine Below.alloc ?_ ?_ _) | (with_reducible refine Below.drew ?_) | (with_reducible refine below_drewN ?_ _) | (with_reducible refine below_next ?_ (by with_reducible assumption)) | omega | (dsimp only; omega) | (simp only [World.size_alloc, World.size_setCell, World.size_drew, World.heap_drewN]; omega))))⟩⟩
      case rest =>
        obtain ⟨rfl, t', rfl, HC⟩ := hcut
        clear HTW HR HF HB hbx hlW hcap hcapR ht0 ht1
        obtain ⟨nb, last, cap, M, s, capR, R, hT, hR, hcap, hcapR, ht0, ht1, hlow, hB, hF⟩ := HC.out
        have HST : Hid (St w wc pm bm rm (k + 1) t') := Lib.hid ⟨nb, last, cap, M, s, capR, R, hT, hR, hcap, hcapR, ht0, ht1, hlow⟩
        have HSZ := Lib.hid (fun W (hb : Below wc.heap.size wc W) => psize_any (hT.mem.next hb) nn on)
        have HRZ := Lib.hid (fun W (hb : Below wc.heap.size wc W) => rsize_any (hT.ref.next hb) nn on)
        have x1 : wc.cell? ⟨g7, 1, none⟩ = some (.int .i64 nn) := by rw [Lib.cell_of_heap hB]; rfl
        have hg := lt_of_block hB
        have hsz : sizeM M nn = sizeR R nn := hR.size nn
        rw [hsz] at HSZ
        clear hsz hB hF hT hR HC hcap hcapR
        unfold sizeR at HSZ HRZ
        cases hbk : blkA R nn with
        | none =>
          rw [hbk] at HSZ HRZ
          clear hbk
          go_wp2_with (first
            | (go_at_call 21; (with_reducible refine (HSZ.out _ (by (repeat' (first | (with_reducible exact Below.refl _ _) | (with_reducible assumption) | (with_reducible refine Below.setCell ?_ ?_ _) | (with_reducible refine Below.alloc ?_ ?_ _) | (with_reducible refine Below.drew ?_) | (with_reducible refine below_drewN ?_ _) | (with_reducible refine below_next ?_ (by with_reducible assumption)) | omega | (dsimp only; omega) | (simp only [World.size_alloc, World.size_setCell, World.size_drew, World.heap_drewN]; omega))))).mono ?_); rintro e w' ⟨rfl, hbl⟩; obtain ⟨hc, hf, hz⟩ := cif hbl; (try simp only [World.size_alloc, World.size_setCell, World.size_drew, World.heap_drewN] at hz))
            | (go_at_call 22; (with_reducible refine (HRZ.out _ (by (repeat' (first | (with_reducible exact Below.refl _ _) | (with_reducible assumption) | (with_reducible refine Below.setCell ?_ ?_ _) | (with_reducible refine Below.alloc ?_ ?_ _) | (with_reducible refine Below.drew ?_) | (with_reducible refine below_drewN ?_ _) | (with_reducible refine below_next ?_ (by with_reducible assumption)) | omega | (dsimp only; omega) | (simp only [World.size_alloc, World.size_setCell, World.size_drew, World.heap_drewN]; omega))))).mono ?_); rintro e w' ⟨rfl, rfl⟩))
          go_roundw
          case rel => exact ⟨k + 1, t', by omega, by go_num, rfl, Lib.hid (St.next HST.out (by (repeat' (first | (with_reducible exact Below.refl _ _) | (with_reducible assumption) | (with_reducible refine Below.setCell ?_ ?_ _) | (with_reducible refine Below.alloc ?_ ?_ _) | (with_reducible refine Below.drew ?_) | (with_reducible refine below_drewN ?_ _) | (with_reducible refine below_next ?_ (by with_reducible assumption)) | omega | (dsimp only; omega) | (simp only [World.size_alloc, World.size_setCell, World.size_drew, World.heap_drewN]; omega)))))⟩
          case measure => simp [intOf]; omega
        | some C =>
          rw [hbk] at HSZ HRZ
          dsimp only at HSZ HRZ
          clear hbk
          go_wp2_with (first
            | (go_at_call 21; (with_reducible refine (HSZ.out _ (by (repeat' (first | (with_reducible exact Below.refl _ _) | (with_reducible assumption) | (with_reducible refine Below.setCell ?_ ?_ _) | (with_reducible refine Below.alloc ?_ ?_ _) | (with_reducible refine Below.drew ?_) | (with_reducible refine below_drewN ?_ _) | (with_reducible refine below_next ?_ (by with_reducible assumption)) | omega | (dsimp only; omega) | (simp only [World.size_alloc, World.size_setCell, World.size_drew, World.heap_drewN]; omega))))).mono ?_); rintro e w' ⟨rfl, hbl⟩; obtain ⟨hc, hf, hz⟩ := cif hbl; (try simp only [World.size_alloc, World.size_setCell, World.size_drew, World.heap_drewN] at hz))
            | (go_at_call 22; (with_reducible refine (HRZ.out _ (by (repeat' (first | (with_reducible exact Below.refl _ _) | (with_reducible assumption) | (with_reducible refine Below.setCell ?_ ?_ _) | (with_reducible refine Below.alloc ?_ ?_ _) | (with_reducible refine Below.drew ?_) | (with_reducible refine below_drewN ?_ _) | (with_reducible refine below_next ?_ (by with_reducible assumption)) | omega | (dsimp only; omega) | (simp only [World.size_alloc, World.size_setCell, World.size_drew, World.heap_drewN]; omega))))).mono ?_); rintro e w' ⟨rfl, rfl⟩))
          go_roundw
          case rel => exact ⟨k + 1, t', by omega, by go_num, rfl, Lib.hid (St.next HST.out (by (repeat' (first | (with_reducible exact Below.refl _ _) | (with_reducible assumption) | (with_reducible refine Below.setCell ?_ ?_ _) | (with_reducible refine Below.alloc ?_ ?_ _) | (with_reducible refine Below.drew ?_) | (with_reducible refine below_drewN ?_ _) | (with_reducible refine below_next ?_ (by with_reducible assumption)) | omega | (dsimp only; omega) | (simp only [World.size_alloc, World.size_setCell, World.size_drew, World.heap_drewN]; omega)))))⟩
          case measure => simp [intOf]; omega
    · have hkn : k = l.length := by omega
      go_wp2
      go_returns
      exact ⟨rfl, hlow⟩

end Go.Proofs.Ytddipbpllogbaaa
