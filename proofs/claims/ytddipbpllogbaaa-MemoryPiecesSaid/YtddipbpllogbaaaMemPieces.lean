/-
  MemoryPieces: the walk.
-/
import Derived.Test.YtddipbpllogbaaaMemEnds
import Derived.Test.YtddipbpllogbaaaMemPlain
namespace Go.Proofs.Ytddipbpllogbaaa
open Go.RowKit
set_option linter.unusedVariables false
set_option linter.unusedSimpArgs false

def Box3 (W : World) (g : Nat) (x y z : Int) : Prop := W.heap[g]? = some (.cells #[.int .i64 x, .int .u64 y, .int .i64 z] 32 (0, 0))
theorem Box3.kept {W W' : World} {g : Nat} {x y z : Int} (h : Box3 W g x y z) (k : KeptT W W') : Box3 W' g x y z := (kept3 k h).1
theorem Box3.next {W W' : World} {g : Nat} {x y z : Int} (h : Box3 W g x y z) (k : Below W.heap.size W W') : Box3 W' g x y z := (kept3 (KeptT.of_below k) h).1
theorem Box3.cells {W : World} {g : Nat} {x y z : Int} (h : Box3 W g x y z) : W.cell? ⟨g, 0, none⟩ = some (.int .i64 x) ∧ W.cell? ⟨g, 1, none⟩ = some (.int .u64 y) ∧ W.cell? ⟨g, 2, none⟩ = some (.int .i64 z) ∧ Box3 W g x y z :=
  ⟨(kept3 (KeptT.refl W) h).2.1, (kept3 (KeptT.refl W) h).2.2.1, (kept3 (KeptT.refl W) h).2.2.2, h⟩
theorem Box3.keptC {W W' : World} {g : Nat} {x y z : Int} (k : KeptT W W') (h : W.cell? ⟨g, 0, none⟩ = some (.int .i64 x) ∧ W.cell? ⟨g, 1, none⟩ = some (.int .u64 y) ∧ W.cell? ⟨g, 2, none⟩ = some (.int .i64 z) ∧ Box3 W g x y z) : Box3 W' g x y z := h.2.2.2.kept k
theorem Box3.made (W : World) (x y z : Int) : Box3 (W.alloc (.cells #[.int .i64 x, .int .u64 y, .int .i64 z] 32)) W.heap.size x y z := heap_alloc_new _ _
theorem Box3.lt {W : World} {g : Nat} {x y z : Int} (h : Box3 W g x y z) : g < W.heap.size := lt_of_block h
theorem Box3.set {W : World} {g : Nat} {x y z : Int} (h : Box3 W g x y z) (x' y' z' : Int) : Box3 (((W.setCell ⟨g, 0, none⟩ (.int .i64 x')).setCell ⟨g, 1, none⟩ (.int .u64 y')).setCell ⟨g, 2, none⟩ (.int .i64 z')) g x' y' z' := by
  unfold Box3
  rw [heap_set_at (heap_set_at (heap_set_at h 0 _) 1 _) 2 _]
  rfl
def P3 (W : World) (g11 g12 g15 : Nat) (ob lb vk : Int) : Prop := Box3 W g11 4 ob lb ∧ Box3 W g12 4 ob lb ∧ Box3 W g15 vk 7 0
theorem P3.cells {W : World} {g11 g12 g15 : Nat} {ob lb vk : Int} (h : P3 W g11 g12 g15 ob lb vk) : W.cell? ⟨g15, 0, none⟩ = some (.int .i64 vk) ∧ W.cell? ⟨g15, 1, none⟩ = some (.int .u64 7) ∧ W.cell? ⟨g15, 2, none⟩ = some (.int .i64 0) ∧ P3 W g11 g12 g15 ob lb vk :=
  ⟨h.2.2.cells.1, h.2.2.cells.2.1, h.2.2.cells.2.2.1, h⟩
theorem P3.keptC {W W' : World} {g11 g12 g15 : Nat} {ob lb vk : Int} (k : KeptT W W') (h : W.cell? ⟨g15, 0, none⟩ = some (.int .i64 vk) ∧ W.cell? ⟨g15, 1, none⟩ = some (.int .u64 7) ∧ W.cell? ⟨g15, 2, none⟩ = some (.int .i64 0) ∧ P3 W g11 g12 g15 ob lb vk) : P3 W' g11 g12 g15 ob lb vk :=
  ⟨h.2.2.2.1.kept k, h.2.2.2.2.1.kept k, h.2.2.2.2.2.kept k⟩
theorem neqV_yes' (x y z : Int) (w : World) : (binOp .eql 32 (.agg #[.int .i64 x, .int .u64 y, .int .i64 z]) (.agg #[.int .i64 x, .int .u64 y, .int .i64 z])).run Try.prog w = .ok (.bool true) w := by
  simp [go_sem]

theorem mp_store' (s : Nat) (ob lb : Int) : storeA (setK M0 1 (some (newB s 24))) 6 ⟨4, 8, 1⟩ ⟨4, ob, lb⟩ = some (MP s ⟨4, ob, lb⟩) := mp_store s ob lb

set_option maxRecDepth 100000 in
set_option maxHeartbeats 16000000 in
theorem pieces_core (block off chunk a : Int) (w : World) (hb : I64 block) (ho : I64 off) (ha : I64 a) :
    Calls Try.prog 5 #[.int .i64 block, .int .i64 off, .int .i64 chunk, .int .i64 a] w fun e w' => e = .returned (.bool true) ∧ Below w.heap.size w w' := by
  have HPB := Lib.hid (fun w => ptrOf_any block off w)
  have HP1 := Lib.hid (fun w => ptr_at (b := 1) (off := off) (by omega) w)
  have HP18 := Lib.hid (fun w => ptr_at (b := 1) (off := 8) (by omega) w)
  rw [show (8 : Int) % 18446744073709551616 = 8 from by decide] at HP18
  obtain ⟨ob, hob⟩ : ∃ ob, off % 18446744073709551616 = ob := ⟨_, rfl⟩
  rw [hob] at HP1
  have HOB : Hid (U64 ob) := Lib.hid (by unfold U64; omega)
  have hA1 := cell_alloc_if
  have hA2 := frozen_alloc_if
  have hA3 := cell_set_if
  go_enter Try.func5, Try.ntmps5
  go_upto_if 30 with (first
    | (go_at_call 7; (with_reducible refine (fixed_any _).mono ?_); rintro e wF ⟨rfl, hbF⟩; have hzF := hbF.size; (try simp only [World.size_alloc, World.size_setCell, World.size_drew, World.heap_drewN] at hzF))
    | (go_at_call 8; refine (new_any _ w.heap.size (by omega)).mono ?_; rintro e w1 ⟨pm, bm, rfl, hm1, hb1⟩; have HM1 := Lib.hid (show MemS _ _ _ _ _ _ _ M0 from hm1); have hzN := hb1.size; (try simp only [World.size_alloc, World.size_setCell, World.size_drew, World.heap_drewN] at hzN); clear hm1)
    | (go_at_call 9; (with_reducible refine (alloc_lit HM1.out 24 24 1 (by decide) (by decide) (by omega) (by omega)).mono ?_); rintro e w2 ⟨rfl, hL⟩; have HM2 := Lib.hid hL.mem; have hlow2 : Below w.heap.size w w2 := Below.trans (by (repeat' (first | (with_reducible exact Below.refl _ _) | (with_reducible assumption) | (with_reducible refine Below.setCell ?_ ?_ _) | (with_reducible refine Below.alloc ?_ ?_ _) | (with_reducible refine Below.drew ?_) | (with_reducible refine below_drewN ?_ _) | (with_reducible refine below_next ?_ (by with_reducible assumption)) | omega | (dsimp only; omega) | (simp only [World.size_alloc, World.size_setCell, World.size_drew, World.heap_drewN]; omega)))) hL.low; have hz2 := hL.kept.1; clear hL)
    | (go_at_call 23; (with_reducible refine (HPB.out _).mono ?_); rintro e wP ⟨rfl, hbP⟩; have hzP := hbP.size; (try simp only [World.size_alloc, World.size_setCell, World.size_drew, World.heap_drewN] at hzP)))
  go_cut [11] (fun s11 wx => ∃ (g : Nat) (lb : Int), s11 = .pointer (some ⟨g, 0, none⟩) ∧ Box3 wx g 4 ob lb ∧ I64 lb ∧ Hid (MemS wx w.heap.size pm bm 1 1 1 (setK M0 1 (some (newB w1.heap.size 24)))) ∧ Below w.heap.size w wx)
  case first =>
    have hmade := Box3.made wP (ptrV block off).k (ptrV block off).b (ptrV block off).l
    have hlt : wP.heap.size < wP.heap.size + 1 := Nat.lt_succ_self _
    by_cases c0 : block = 0
    · have d : (block == 0) = true := by simpa using c0
      have HMD := Lib.hid hmade
      clear hmade c0
      go_wp2_with (go_at_call 23; (with_reducible refine (HP1.out _).mono ?_); rintro e wQ ⟨rfl, hbQ⟩; obtain ⟨hcQ, hfQ, hzQ⟩ := cif hbQ; (try simp only [World.size_alloc, World.size_setCell, World.size_drew, World.heap_drewN] at hzQ))
      go_meet
      refine ⟨_, 1, rfl, (HMD.out.next hbQ).set 4 ob 1, by unfold I64; omega, Lib.hid (HM2.out.next (by (repeat' (first | (with_reducible exact Below.refl _ _) | (with_reducible assumption) | (with_reducible refine Below.setCell ?_ ?_ _) | (with_reducible refine Below.alloc ?_ ?_ _) | (with_reducible refine Below.drew ?_) | (with_reducible refine below_drewN ?_ _) | (with_reducible refine below_next ?_ (by with_reducible assumption)) | omega | (dsimp only; omega) | (simp only [World.size_alloc, World.size_setCell, World.size_drew, World.heap_drewN]; omega))))), by (repeat' (first | (with_reducible exact Below.refl _ _) | (with_reducible assumption) | (with_reducible refine Below.setCell ?_ ?_ _) | (with_reducible refine Below.alloc ?_ ?_ _) | (with_reducible refine Below.drew ?_) | (with_reducible refine below_drewN ?_ _) | (with_reducible refine below_next ?_ (by with_reducible assumption)) | omega | (dsimp only; omega) | (simp only [World.size_alloc, World.size_setCell, World.size_drew, World.heap_drewN]; omega)))⟩
    · have d : (block == 0) = false := by simpa using c0
      have e : ptrV block off = ⟨4, ob, block⟩ := by unfold ptrV; rw [if_neg c0, hob]
      rw [e] at hmade
      have HMD := Lib.hid hmade
      have HE := Lib.hid e
      clear hmade c0 e
      go_wp2
      go_meet
      refine ⟨_, block, rfl, ?_, hb, Lib.hid (HM2.out.next (by (repeat' (first | (with_reducible exact Below.refl _ _) | (with_reducible assumption) | (with_reducible refine Below.setCell ?_ ?_ _) | (with_reducible refine Below.alloc ?_ ?_ _) | (with_reducible refine Below.drew ?_) | (with_reducible refine below_drewN ?_ _) | (with_reducible refine below_next ?_ (by with_reducible assumption)) | omega | (dsimp only; omega) | (simp only [World.size_alloc, World.size_setCell, World.size_drew, World.heap_drewN]; omega))))), by (repeat' (first | (with_reducible exact Below.refl _ _) | (with_reducible assumption) | (with_reducible refine Below.setCell ?_ ?_ _) | (with_reducible refine Below.alloc ?_ ?_ _) | (with_reducible refine Below.drew ?_) | (with_reducible refine below_drewN ?_ _) | (with_reducible refine below_next ?_ (by with_reducible assumption)) | omega | (dsimp only; omega) | (simp only [World.size_alloc, World.size_setCell, World.size_drew, World.heap_drewN]; omega)))⟩
      rw [HE.out]
      exact HMD.out
  case rest =>
    obtain ⟨g11, lb, rfl, q11, hlb, HMA, hlowA⟩ := hcut
    obtain ⟨ja, hja, hj1, hj2⟩ : ∃ ja : Int, wrap64 ((IntKind.u64.wrap a).tmod 24) = ja ∧ 0 ≤ ja ∧ ja < 24 := by
      have h0 : IntKind.u64.wrap a = a % 18446744073709551616 := IntKind.wrap_u64 a
      have h2 : (IntKind.u64.wrap a).tmod 24 = (a % 18446744073709551616) % 24 := by rw [h0]; exact Int.tmod_eq_emod_of_nonneg (by omega)
      refine ⟨(a % 18446744073709551616) % 24, ?_, by omega, by omega⟩
      rw [h2]; unfold wrap64; omega
    have HPJ := Lib.hid (fun w => ptr_at (b := 1) (off := ja) (by omega) w)
    rw [show ja % 18446744073709551616 = ja from by omega] at HPJ
    obtain ⟨n, hn⟩ : ∃ n, sizeV chunk = n := ⟨_, rfl⟩
    have HN := Lib.hid (size_any chunk)
    rw [hn] at HN
    obtain ⟨kv, hkv⟩ : ∃ kv, kindV chunk = kv := ⟨_, rfl⟩
    have HKV := Lib.hid (kind_any chunk)
    rw [hkv] at HKV
    have hbo := both_any w1.heap.size ob lb ja chunk ⟨hj1, hj2⟩
    unfold both at hbo
    simp only [Prod.mk.injEq] at hbo
    obtain ⟨hbo1, hbo2⟩ := hbo
    rw [hn] at hbo1 hbo2
    obtain ⟨M3, hM3⟩ : ∃ M3, (storeA (MP w1.heap.size ⟨4, ob, lb⟩) chunk ⟨4, ja, 1⟩ (valFor chunk)).getD (MP w1.heap.size ⟨4, ob, lb⟩) = M3 := ⟨_, rfl⟩
    rw [hM3] at hbo2
    obtain ⟨st, hst⟩ : ∃ st, decide (fitsA n ja) = st := ⟨_, rfl⟩
    rw [hst] at hbo1
    obtain ⟨y, hy⟩ : ∃ y, nowV n ja ⟨4, ob, lb⟩ = y := ⟨_, rfl⟩
    rw [hy] at hbo2
    obtain ⟨y1, y2, y3⟩ := y
    have HST : Hid (∀ W, MemS W w.heap.size pm bm 1 1 2 (MP w1.heap.size ⟨4, ob, lb⟩) → Calls Try.prog 17 #[.pointer (some ⟨pm, 0, none⟩), .int .i64 chunk, .agg #[.int .i64 4, .int .u64 ja, .int .i64 1], .agg #[.int .i64 (valFor chunk).k, .int .u64 7, .int .i64 0]] W fun e w' => e = .returned (.bool st) ∧ Left W w' w.heap.size pm bm 1 1 3 M3) := Lib.hid (fun W h => by
      have e7 : (valFor chunk).b = 7 ∧ (valFor chunk).l = 0 := by unfold valFor; split <;> (try split) <;> exact ⟨rfl, rfl⟩
      have h1 := store_any h chunk 4 ja 1 (valFor chunk).k 7 0 (by unfold I64; omega) (by unfold U64; omega) (by omega)
      rw [show (⟨(valFor chunk).k, 7, 0⟩ : V) = valFor chunk from by obtain ⟨a1, a2⟩ := e7; cases hv : valFor chunk; rw [hv] at a1 a2; simp at a1 a2; simp [a1, a2]] at h1
      rw [hbo1, hM3] at h1
      exact h1)
    have HLD : Hid (∀ W, MemS W w.heap.size pm bm 1 1 3 M3 → Calls Try.prog 15 #[.pointer (some ⟨pm, 0, none⟩), .int .i64 6, .agg #[.int .i64 4, .int .u64 8, .int .i64 1]] W fun e w' => e = .returned (.tuple #[.agg #[.int .i64 y1, .int .u64 y2, .int .i64 y3], .bool true]) ∧ Below W.heap.size W w') := Lib.hid (fun W h => load_some h 6 8 1 y1 y2 y3 (by unfold I64; omega) hbo2)
    obtain ⟨c0, c1, c2, _⟩ := q11.cells
    have hzA := hlowA.size
    have HQ11 := Lib.hid q11
    have hI7 := Lib.hid (intOf_any 7)
    rw [show (7 : Int) % 4294967296 = 7 from by decide] at hI7
    have hL7 := Lib.hid (longOf_any 7)
    rw [show (7 : Int) % 18446744073709551616 = 7 from by decide] at hL7
    have HY := Lib.hid hy
    have HSTE := Lib.hid hst
    have HNE := Lib.hid hn
    have HKE := Lib.hid hkv
    clear hbo1 hbo2 hM3 hy hst q11 hn hkv
    go_wp2
    go_region_held3 (fun w' => w'.cell? ⟨g11, 0, none⟩ = some (.int .i64 4) ∧ w'.cell? ⟨g11, 1, none⟩ = some (.int .u64 ob) ∧ w'.cell? ⟨g11, 2, none⟩ = some (.int .i64 lb) ∧ Box3 w' g11 4 ob lb) (first | exact hBX.cells | exact HQ11.out.cells)
      (first
        | (go_at_call 23; (with_reducible refine (HP18.out _).mono ?_); rintro e wP8 ⟨rfl, hbP8⟩; have hzP8 := hbP8.size; (try simp only [World.size_alloc, World.size_setCell, World.size_drew, World.heap_drewN] at hzP8); have hBX := Box3.keptC (KeptT.of_below hbP8) (by assumption))
        | (go_at_call 17; (with_reducible refine (store_lit (HMA.out.next (by (repeat' (first | (with_reducible exact Below.refl _ _) | (with_reducible assumption) | (with_reducible refine Below.setCell ?_ ?_ _) | (with_reducible refine Below.alloc ?_ ?_ _) | (with_reducible refine Below.drew ?_) | (with_reducible refine below_drewN ?_ _) | (with_reducible refine below_next ?_ (by with_reducible assumption)) | omega | (dsimp only; omega) | (simp only [World.size_alloc, World.size_setCell, World.size_drew, World.heap_drewN]; omega))))) 6 8 1 4 ob lb (by unfold I64; omega) HOB.out (by omega) (mp_store' _ _ _)).mono ?_); rintro e wS ⟨rfl, hL⟩; have HMS := Lib.hid hL.mem; have hlowS : Below w.heap.size w wS := Below.trans (by (repeat' (first | (with_reducible exact Below.refl _ _) | (with_reducible assumption) | (with_reducible refine Below.setCell ?_ ?_ _) | (with_reducible refine Below.alloc ?_ ?_ _) | (with_reducible refine Below.drew ?_) | (with_reducible refine below_drewN ?_ _) | (with_reducible refine below_next ?_ (by with_reducible assumption)) | omega | (dsimp only; omega) | (simp only [World.size_alloc, World.size_setCell, World.size_drew, World.heap_drewN]; omega)))) hL.low; have hzS := hL.kept.1; (try simp only [World.size_alloc, World.size_setCell, World.size_drew, World.heap_drewN] at hzS); have hBX := Box3.keptC hL.kept (by assumption); clear hL))
    have q11S := Lib.hid hBX
    have l11 := hBX.lt
    clear hBX c0 c1 c2 HQ11
    by_cases k2 : kv = 2
    · have d2 : (kv == 2) = true := by simpa using k2
      go_upto_region 19 with (first
      | (go_at_call 23; (with_reducible refine (HP18.out _).mono ?_); rintro e wq ⟨rfl, hbq⟩; have hzq := hbq.size; (try simp only [World.size_alloc, World.size_setCell, World.size_drew, World.heap_drewN] at hzq))
      | (go_at_call 15; (with_reducible refine (load_some (HMS.out.next (by (repeat' (first | (with_reducible exact Below.refl _ _) | (with_reducible assumption) | (with_reducible refine Below.setCell ?_ ?_ _) | (with_reducible refine Below.alloc ?_ ?_ _) | (with_reducible refine Below.drew ?_) | (with_reducible refine below_drewN ?_ _) | (with_reducible refine below_next ?_ (by with_reducible assumption)) | omega | (dsimp only; omega) | (simp only [World.size_alloc, World.size_setCell, World.size_drew, World.heap_drewN]; omega))))) 6 8 1 4 ob lb (by unfold I64; omega) (mp_load _ _ _)).mono ?_); rintro e wL ⟨rfl, hbL⟩; have hzL := hbL.size; (try simp only [World.size_alloc, World.size_setCell, World.size_drew, World.heap_drewN] at hzL))
      | (go_at_call 24; (with_reducible refine (HN.out _).mono ?_); rintro e wq ⟨rfl, rfl⟩)
      | (go_at_call 26; (with_reducible refine (HKV.out _).mono ?_); rintro e wq ⟨rfl, rfl⟩)
      | (go_at_call 25; (with_reducible refine (hI7.out _).mono ?_); rintro e wI ⟨rfl, hbI⟩; have hzI := hbI.size; (try simp only [World.size_alloc, World.size_setCell, World.size_drew, World.heap_drewN] at hzI))
      | (go_at_call 27; (with_reducible refine (hL7.out _).mono ?_); rintro e wV ⟨rfl, hbV⟩; obtain ⟨hcV, hfV, hzV⟩ := cif hbV; (try simp only [World.size_alloc, World.size_setCell, World.size_drew, World.heap_drewN] at hzV))
      | (go_at_call 28; (with_reducible refine (doubleOf_any _ _).mono ?_); rintro e wV ⟨rfl, hbV⟩; obtain ⟨hcV, hfV, hzV⟩ := cif hbV; (try simp only [World.size_alloc, World.size_setCell, World.size_drew, World.heap_drewN] at hzV)))
      obtain ⟨WB, hWB⟩ : ∃ WB, WB = ((wV.setCell ⟨wI.heap.size, 0, none⟩ (.int .i64 2)).setCell ⟨wI.heap.size, 1, none⟩ (.int .u64 7)).setCell ⟨wI.heap.size, 2, none⟩ (.int .i64 0) := ⟨_, rfl⟩
      have h15 : Box3 WB wI.heap.size 2 7 0 := by rw [hWB]; exact ((Box3.made wI 1 7 0).next hbV).set 2 7 0
      have ek : (valFor chunk).k = 2 := by simp [valFor, HKE.out, k2]
      rw [ek] at HST
      clear ek
      have hSB : Below wS.heap.size wS WB := by rw [hWB]; (repeat' (first | (with_reducible exact Below.refl _ _) | (with_reducible assumption) | (with_reducible refine Below.setCell ?_ ?_ _) | (with_reducible refine Below.alloc ?_ ?_ _) | (with_reducible refine Below.drew ?_) | (with_reducible refine below_drewN ?_ _) | (with_reducible refine below_next ?_ (by with_reducible assumption)) | omega | (dsimp only; omega) | (simp only [World.size_alloc, World.size_setCell, World.size_drew, World.heap_drewN]; omega)))
      have HMB := Lib.hid (HMS.out.next hSB)
      have hlowB : Below w.heap.size w WB := below_step hlowS hSB
      have hzB := hSB.size
      have hP3 : P3 WB g11 wL.heap.size wI.heap.size ob lb 2 := ⟨q11S.out.next hSB, (Box3.made wL 4 ob lb).next (by rw [hWB]; (repeat' (first | (with_reducible exact Below.refl _ _) | (with_reducible assumption) | (with_reducible refine Below.setCell ?_ ?_ _) | (with_reducible refine Below.alloc ?_ ?_ _) | (with_reducible refine Below.drew ?_) | (with_reducible refine below_drewN ?_ _) | (with_reducible refine below_next ?_ (by with_reducible assumption)) | omega | (dsimp only; omega) | (simp only [World.size_alloc, World.size_setCell, World.size_drew, World.heap_drewN]; omega)))), h15⟩
      obtain ⟨g12, hg12⟩ : ∃ g, g = wL.heap.size := ⟨_, rfl⟩
      obtain ⟨g15, hg15⟩ : ∃ g, g = wI.heap.size := ⟨_, rfl⟩
      rw [← hg12, ← hg15] at hP3
      rw [← hWB, ← hg15, ← hg12]
      have HP3 := Lib.hid hP3
      clear hP3 hg12 hg15 h15 hWB hSB hbL hbI q11S
      go_region_held3 (fun w' => w'.cell? ⟨g15, 0, none⟩ = some (.int .i64 2) ∧ w'.cell? ⟨g15, 1, none⟩ = some (.int .u64 7) ∧ w'.cell? ⟨g15, 2, none⟩ = some (.int .i64 0) ∧ P3 w' g11 g12 g15 ob lb 2) (first | exact hPX.cells | exact HP3.out.cells)
        (first
          | (go_at_call 23; (with_reducible refine (HPJ.out _).mono ?_); rintro e wJ ⟨rfl, hbJ⟩; have hzJ := hbJ.size; (try simp only [World.size_alloc, World.size_setCell, World.size_drew, World.heap_drewN] at hzJ); have hPX := P3.keptC (KeptT.of_below hbJ) (by assumption))
          | (go_at_call 17; (with_reducible refine (HST.out _ (HMB.out.next (by (repeat' (first | (with_reducible exact Below.refl _ _) | (with_reducible assumption) | (with_reducible refine Below.setCell ?_ ?_ _) | (with_reducible refine Below.alloc ?_ ?_ _) | (with_reducible refine Below.drew ?_) | (with_reducible refine below_drewN ?_ _) | (with_reducible refine below_next ?_ (by with_reducible assumption)) | omega | (dsimp only; omega) | (simp only [World.size_alloc, World.size_setCell, World.size_drew, World.heap_drewN]; omega)))))).mono ?_); rintro e wT ⟨rfl, hL⟩; have HMT := Lib.hid hL.mem; have hlowT : Below w.heap.size w wT := Below.trans (by (repeat' (first | (with_reducible exact Below.refl _ _) | (with_reducible assumption) | (with_reducible refine Below.setCell ?_ ?_ _) | (with_reducible refine Below.alloc ?_ ?_ _) | (with_reducible refine Below.drew ?_) | (with_reducible refine below_drewN ?_ _) | (with_reducible refine below_next ?_ (by with_reducible assumption)) | omega | (dsimp only; omega) | (simp only [World.size_alloc, World.size_setCell, World.size_drew, World.heap_drewN]; omega)))) hL.low; have hzT := hL.kept.1; (try simp only [World.size_alloc, World.size_setCell, World.size_drew, World.heap_drewN] at hzT); have hPX := P3.keptC hL.kept (by assumption); clear hL))
      have HPX := Lib.hid hPX
      have hx11 := hPX.1.lt
      have hx12 := hPX.2.1.lt
      clear hPX
      go_upto_region 21 with (first
        | (go_at_call 23; (with_reducible refine (HP18.out _).mono ?_); rintro e wR ⟨rfl, hbR⟩; have hzR := hbR.size; (try simp only [World.size_alloc, World.size_setCell, World.size_drew, World.heap_drewN] at hzR))
        | (go_at_call 15; (with_reducible refine (HLD.out _ (HMT.out.next (by (repeat' (first | (with_reducible exact Below.refl _ _) | (with_reducible assumption) | (with_reducible refine Below.setCell ?_ ?_ _) | (with_reducible refine Below.alloc ?_ ?_ _) | (with_reducible refine Below.drew ?_) | (with_reducible refine below_drewN ?_ _) | (with_reducible refine below_next ?_ (by with_reducible assumption)) | omega | (dsimp only; omega) | (simp only [World.size_alloc, World.size_setCell, World.size_drew, World.heap_drewN]; omega)))))).mono ?_); rintro e wM ⟨rfl, hbM⟩; have hzM := hbM.size; (try simp only [World.size_alloc, World.size_setCell, World.size_drew, World.heap_drewN] at hzM)))
      obtain ⟨WC, hWC⟩ : ∃ WC, WC = wM.alloc (.cells #[.int .i64 y1, .int .u64 y2, .int .i64 y3] 32) := ⟨_, rfl⟩
      have hTC : Below wT.heap.size wT WC := by rw [hWC]; (repeat' (first | (with_reducible exact Below.refl _ _) | (with_reducible assumption) | (with_reducible refine Below.setCell ?_ ?_ _) | (with_reducible refine Below.alloc ?_ ?_ _) | (with_reducible refine Below.drew ?_) | (with_reducible refine below_drewN ?_ _) | (with_reducible refine below_next ?_ (by with_reducible assumption)) | omega | (dsimp only; omega) | (simp only [World.size_alloc, World.size_setCell, World.size_drew, World.heap_drewN]; omega)))
      have hlowC : Below w.heap.size w WC := below_step hlowT hTC
      have z17 : Box3 WC wM.heap.size y1 y2 y3 := by rw [hWC]; exact Box3.made _ _ _ _
      obtain ⟨a0, a1, a2, _⟩ := (HPX.out.1.next hTC).cells
      obtain ⟨b0, b1, b2, _⟩ := (HPX.out.2.1.next hTC).cells
      obtain ⟨d0, d1, d2', _⟩ := z17.cells
      have hzC := hTC.size
      have hl17 := z17.lt
      obtain ⟨g17, hg17⟩ : ∃ g, g = wM.heap.size := ⟨_, rfl⟩
      rw [← hg17] at d0 d1 d2' hl17
      rw [← hg17, ← hWC]
      have hl11 : g11 < WC.heap.size := by omega
      have hl12 : g12 < WC.heap.size := by omega
      clear hg17 hWC hTC z17 hbR hbM
      have hneq := neqV_same 4 ob lb
      have hyes := neqV_yes' 4 ob lb
      have hy := HY.out
      have hst := HSTE.out
      unfold nowV at hy
      rcases (by have := sizeV_cases chunk; rw [HNE.out] at this; omega : n = 0 ∨ (1 ≤ n ∧ n ≤ 8)) with hn0 | hn1
      · have hf : ¬ fitsA n ja := by unfold fitsA; omega
        rw [if_neg (fun h => hf h.1)] at hy
        simp only [hf, decide_false] at hst
        subst hst hn0
        injection hy with hy1 hy2 hy3
        subst hy1 hy2 hy3
        clear hf
        go_wp2
        refine wp_region_ext (by kernel_rfl) (by kernel_rfl) ?_
        repeat (first | go_big_quiet_skip | (go_big_quiet_want; go_big_quiet_op; first | go_big_quiet_on | (apply Exists.intro; refine ⟨fun W hW => ?_, ?_⟩; (focus (first
          | (go_at_call 27; (with_reducible refine (hL7.out _).mono ?_); rintro e w1 ⟨rfl, hb⟩; exact ⟨rfl, Ext.next hW hb⟩)
          | exact rfl | (obtain ⟨hcW, hfW, hzW⟩ := cif (Ext.of hW); (try simp only [World.size_alloc, World.size_setCell, World.size_drew, World.heap_drewN] at hzW); simp [go_sem, *, ↓IntWalk.iteOmega]; (try exact rfl)))); go_big_quiet_on)))
        refine wpQuiet_nil ?_
        intro w' hw'
        have hbl := Ext.of hw'
        obtain ⟨hc, hf, hz⟩ := cif hbl
        (try simp only [World.size_alloc, World.size_setCell, World.size_drew, World.heap_drewN] at hz)
        clear hw'
        go_wp2
        go_returns
        exact ⟨rfl, below_step hlowC hbl⟩
      · have dn : decide (0 < n) = true := by simp; omega
        have dz : (n == 0) = false := by simp; omega
        have tm : ja.tmod n = ja % n := Int.tmod_eq_emod_of_nonneg hj1
        by_cases c1 : ja % n = 0
        · have e1 : (ja % n == 0) = true := by simpa using c1
          by_cases c2 : ja + n ≤ 24
          · have e2 : decide (ja + n ≤ 24) = true := by simpa using c2
            have hf : fitsA n ja := ⟨by omega, c1, c2⟩
            simp only [hf, decide_true] at hst
            subst hst
            by_cases c3 : ja < 16
            · have e3 : decide (ja < 16) = true := by simpa using c3
              by_cases c4 : 8 < ja + n
              · have e4 : decide (8 < ja + n) = true := by simpa using c4
                rw [if_pos ⟨hf, c3, c4⟩] at hy
                by_cases c5 : ja = 8
                · by_cases c6 : n = 8
                  · rw [if_pos ⟨c5, c6⟩] at hy
                    injection hy with hy1 hy2 hy3
                    subst hy1 hy2 hy3 c5 c6
                    clear hf tm c1 c2 c3 c4 e1 e2 e3 e4 dn dz
                    go_wp2
                    refine wp_region_ext (by kernel_rfl) (by kernel_rfl) ?_
                    repeat (first | go_big_quiet_skip | (go_big_quiet_want; go_big_quiet_op; first | go_big_quiet_on | (apply Exists.intro; refine ⟨fun W hW => ?_, ?_⟩; (focus (first
                      | (go_at_call 27; (with_reducible refine (hL7.out _).mono ?_); rintro e w1 ⟨rfl, hb⟩; exact ⟨rfl, Ext.next hW hb⟩)
                      | exact rfl | (obtain ⟨hcW, hfW, hzW⟩ := cif (Ext.of hW); (try simp only [World.size_alloc, World.size_setCell, World.size_drew, World.heap_drewN] at hzW); simp [go_sem, *, ↓IntWalk.iteOmega]; (try exact rfl)))); go_big_quiet_on)))
                    refine wpQuiet_nil ?_
                    intro w' hw'
                    have hbl := Ext.of hw'
                    obtain ⟨hc, hf, hz⟩ := cif hbl
                    (try simp only [World.size_alloc, World.size_setCell, World.size_drew, World.heap_drewN] at hz)
                    clear hw'
                    go_wp2
                    go_returns
                    exact ⟨rfl, below_step hlowC hbl⟩
                  · rw [if_neg (fun h => c6 h.2)] at hy
                    injection hy with hy1 hy2 hy3
                    have h124 : n = 1 ∨ n = 2 ∨ n = 4 := by have := sizeV_cases chunk; rw [HNE.out] at this; omega
                    subst hy1 hy2 hy3 c5
                    clear hf tm c1 c2 c3 c4 c6 e1 e2 e3 e4 dn dz hn1
                    rcases h124 with rfl | rfl | rfl
                    · skip
                      go_wp2
                      refine wp_region_ext (by kernel_rfl) (by kernel_rfl) ?_
                      repeat (first | go_big_quiet_skip | (go_big_quiet_want; go_big_quiet_op; first | go_big_quiet_on | (apply Exists.intro; refine ⟨fun W hW => ?_, ?_⟩; (focus (first
                        | (go_at_call 27; (with_reducible refine (hL7.out _).mono ?_); rintro e w1 ⟨rfl, hb⟩; exact ⟨rfl, Ext.next hW hb⟩)
                        | exact rfl | (obtain ⟨hcW, hfW, hzW⟩ := cif (Ext.of hW); (try simp only [World.size_alloc, World.size_setCell, World.size_drew, World.heap_drewN] at hzW); simp [go_sem, *, ↓IntWalk.iteOmega]; (try exact rfl)))); go_big_quiet_on)))
                      refine wpQuiet_nil ?_
                      intro w' hw'
                      have hbl := Ext.of hw'
                      obtain ⟨hc, hf, hz⟩ := cif hbl
                      (try simp only [World.size_alloc, World.size_setCell, World.size_drew, World.heap_drewN] at hz)
                      clear hw'
                      go_wp2
                      go_returns
                      exact ⟨rfl, below_step hlowC hbl⟩
                    · skip
                      go_wp2
                      refine wp_region_ext (by kernel_rfl) (by kernel_rfl) ?_
                      repeat (first | go_big_quiet_skip | (go_big_quiet_want; go_big_quiet_op; first | go_big_quiet_on | (apply Exists.intro; refine ⟨fun W hW => ?_, ?_⟩; (focus (first
                        | (go_at_call 27; (with_reducible refine (hL7.out _).mono ?_); rintro e w1 ⟨rfl, hb⟩; exact ⟨rfl, Ext.next hW hb⟩)
                        | exact rfl | (obtain ⟨hcW, hfW, hzW⟩ := cif (Ext.of hW); (try simp only [World.size_alloc, World.size_setCell, World.size_drew, World.heap_drewN] at hzW); simp [go_sem, *, ↓IntWalk.iteOmega]; (try exact rfl)))); go_big_quiet_on)))
                      refine wpQuiet_nil ?_
                      intro w' hw'
                      have hbl := Ext.of hw'
                      obtain ⟨hc, hf, hz⟩ := cif hbl
                      (try simp only [World.size_alloc, World.size_setCell, World.size_drew, World.heap_drewN] at hz)
                      clear hw'
                      go_wp2
                      go_returns
                      exact ⟨rfl, below_step hlowC hbl⟩
                    · skip
                      go_wp2
                      refine wp_region_ext (by kernel_rfl) (by kernel_rfl) ?_
                      repeat (first | go_big_quiet_skip | (go_big_quiet_want; go_big_quiet_op; first | go_big_quiet_on | (apply Exists.intro; refine ⟨fun W hW => ?_, ?_⟩; (focus (first
                        | (go_at_call 27; (with_reducible refine (hL7.out _).mono ?_); rintro e w1 ⟨rfl, hb⟩; exact ⟨rfl, Ext.next hW hb⟩)
                        | exact rfl | (obtain ⟨hcW, hfW, hzW⟩ := cif (Ext.of hW); (try simp only [World.size_alloc, World.size_setCell, World.size_drew, World.heap_drewN] at hzW); simp [go_sem, *, ↓IntWalk.iteOmega]; (try exact rfl)))); go_big_quiet_on)))
                      refine wpQuiet_nil ?_
                      intro w' hw'
                      have hbl := Ext.of hw'
                      obtain ⟨hc, hf, hz⟩ := cif hbl
                      (try simp only [World.size_alloc, World.size_setCell, World.size_drew, World.heap_drewN] at hz)
                      clear hw'
                      go_wp2
                      go_returns
                      exact ⟨rfl, below_step hlowC hbl⟩
                · rw [if_neg (fun h => c5 h.1)] at hy
                  injection hy with hy1 hy2 hy3
                  have e5 : (ja == 8) = false := by simpa using c5
                  subst hy1 hy2 hy3
                  clear hf tm c1 c2 c3 c4 c5
                  go_wp2
                  refine wp_region_ext (by kernel_rfl) (by kernel_rfl) ?_
                  repeat (first | go_big_quiet_skip | (go_big_quiet_want; go_big_quiet_op; first | go_big_quiet_on | (apply Exists.intro; refine ⟨fun W hW => ?_, ?_⟩; (focus (first
                    | (go_at_call 27; (with_reducible refine (hL7.out _).mono ?_); rintro e w1 ⟨rfl, hb⟩; exact ⟨rfl, Ext.next hW hb⟩)
                    | exact rfl | (obtain ⟨hcW, hfW, hzW⟩ := cif (Ext.of hW); (try simp only [World.size_alloc, World.size_setCell, World.size_drew, World.heap_drewN] at hzW); simp [go_sem, *, ↓IntWalk.iteOmega]; (try exact rfl)))); go_big_quiet_on)))
                  refine wpQuiet_nil ?_
                  intro w' hw'
                  have hbl := Ext.of hw'
                  obtain ⟨hc, hf, hz⟩ := cif hbl
                  (try simp only [World.size_alloc, World.size_setCell, World.size_drew, World.heap_drewN] at hz)
                  clear hw'
                  go_wp2
                  go_returns
                  exact ⟨rfl, below_step hlowC hbl⟩
              · have e4 : decide (8 < ja + n) = false := by simpa using c4
                rw [if_neg (fun h => c4 h.2.2)] at hy
                injection hy with hy1 hy2 hy3
                subst hy1 hy2 hy3
                clear hf tm c1 c2 c3 c4
                go_wp2
                refine wp_region_ext (by kernel_rfl) (by kernel_rfl) ?_
                repeat (first | go_big_quiet_skip | (go_big_quiet_want; go_big_quiet_op; first | go_big_quiet_on | (apply Exists.intro; refine ⟨fun W hW => ?_, ?_⟩; (focus (first
                  | (go_at_call 27; (with_reducible refine (hL7.out _).mono ?_); rintro e w1 ⟨rfl, hb⟩; exact ⟨rfl, Ext.next hW hb⟩)
                  | exact rfl | (obtain ⟨hcW, hfW, hzW⟩ := cif (Ext.of hW); (try simp only [World.size_alloc, World.size_setCell, World.size_drew, World.heap_drewN] at hzW); simp [go_sem, *, ↓IntWalk.iteOmega]; (try exact rfl)))); go_big_quiet_on)))
                refine wpQuiet_nil ?_
                intro w' hw'
                have hbl := Ext.of hw'
                obtain ⟨hc, hf, hz⟩ := cif hbl
                (try simp only [World.size_alloc, World.size_setCell, World.size_drew, World.heap_drewN] at hz)
                clear hw'
                go_wp2
                go_returns
                exact ⟨rfl, below_step hlowC hbl⟩
            · have e3 : decide (ja < 16) = false := by simpa using c3
              rw [if_neg (fun h => c3 h.2.1)] at hy
              injection hy with hy1 hy2 hy3
              subst hy1 hy2 hy3
              clear hf tm c1 c2 c3
              go_wp2
              refine wp_region_ext (by kernel_rfl) (by kernel_rfl) ?_
              repeat (first | go_big_quiet_skip | (go_big_quiet_want; go_big_quiet_op; first | go_big_quiet_on | (apply Exists.intro; refine ⟨fun W hW => ?_, ?_⟩; (focus (first
                | (go_at_call 27; (with_reducible refine (hL7.out _).mono ?_); rintro e w1 ⟨rfl, hb⟩; exact ⟨rfl, Ext.next hW hb⟩)
                | exact rfl | (obtain ⟨hcW, hfW, hzW⟩ := cif (Ext.of hW); (try simp only [World.size_alloc, World.size_setCell, World.size_drew, World.heap_drewN] at hzW); simp [go_sem, *, ↓IntWalk.iteOmega]; (try exact rfl)))); go_big_quiet_on)))
              refine wpQuiet_nil ?_
              intro w' hw'
              have hbl := Ext.of hw'
              obtain ⟨hc, hf, hz⟩ := cif hbl
              (try simp only [World.size_alloc, World.size_setCell, World.size_drew, World.heap_drewN] at hz)
              clear hw'
              go_wp2
              go_returns
              exact ⟨rfl, below_step hlowC hbl⟩
          · have e2 : decide (ja + n ≤ 24) = false := by simpa using c2
            have hf : ¬ fitsA n ja := fun h => c2 h.2.2
            rw [if_neg (fun h => hf h.1)] at hy
            simp only [hf, decide_false] at hst
            subst hst
            injection hy with hy1 hy2 hy3
            subst hy1 hy2 hy3
            clear hf tm c1 c2
            go_wp2
            refine wp_region_ext (by kernel_rfl) (by kernel_rfl) ?_
            repeat (first | go_big_quiet_skip | (go_big_quiet_want; go_big_quiet_op; first | go_big_quiet_on | (apply Exists.intro; refine ⟨fun W hW => ?_, ?_⟩; (focus (first
              | (go_at_call 27; (with_reducible refine (hL7.out _).mono ?_); rintro e w1 ⟨rfl, hb⟩; exact ⟨rfl, Ext.next hW hb⟩)
              | exact rfl | (obtain ⟨hcW, hfW, hzW⟩ := cif (Ext.of hW); (try simp only [World.size_alloc, World.size_setCell, World.size_drew, World.heap_drewN] at hzW); simp [go_sem, *, ↓IntWalk.iteOmega]; (try exact rfl)))); go_big_quiet_on)))
            refine wpQuiet_nil ?_
            intro w' hw'
            have hbl := Ext.of hw'
            obtain ⟨hc, hf, hz⟩ := cif hbl
            (try simp only [World.size_alloc, World.size_setCell, World.size_drew, World.heap_drewN] at hz)
            clear hw'
            go_wp2
            go_returns
            exact ⟨rfl, below_step hlowC hbl⟩
        · have e1 : (ja % n == 0) = false := by simpa using c1
          have hf : ¬ fitsA n ja := fun h => c1 h.2.1
          rw [if_neg (fun h => hf h.1)] at hy
          simp only [hf, decide_false] at hst
          subst hst
          injection hy with hy1 hy2 hy3
          subst hy1 hy2 hy3
          clear hf tm c1
          go_wp2
          refine wp_region_ext (by kernel_rfl) (by kernel_rfl) ?_
          repeat (first | go_big_quiet_skip | (go_big_quiet_want; go_big_quiet_op; first | go_big_quiet_on | (apply Exists.intro; refine ⟨fun W hW => ?_, ?_⟩; (focus (first
            | (go_at_call 27; (with_reducible refine (hL7.out _).mono ?_); rintro e w1 ⟨rfl, hb⟩; exact ⟨rfl, Ext.next hW hb⟩)
            | exact rfl | (obtain ⟨hcW, hfW, hzW⟩ := cif (Ext.of hW); (try simp only [World.size_alloc, World.size_setCell, World.size_drew, World.heap_drewN] at hzW); simp [go_sem, *, ↓IntWalk.iteOmega]; (try exact rfl)))); go_big_quiet_on)))
          refine wpQuiet_nil ?_
          intro w' hw'
          have hbl := Ext.of hw'
          obtain ⟨hc, hf, hz⟩ := cif hbl
          (try simp only [World.size_alloc, World.size_setCell, World.size_drew, World.heap_drewN] at hz)
          clear hw'
          go_wp2
          go_returns
          exact ⟨rfl, below_step hlowC hbl⟩
    · have d2 : (kv == 2) = false := by simpa using k2
      by_cases k3 : kv = 3
      · have d3 : (kv == 3) = true := by simpa using k3
        go_upto_region 19 with (first
      | (go_at_call 23; (with_reducible refine (HP18.out _).mono ?_); rintro e wq ⟨rfl, hbq⟩; have hzq := hbq.size; (try simp only [World.size_alloc, World.size_setCell, World.size_drew, World.heap_drewN] at hzq))
      | (go_at_call 15; (with_reducible refine (load_some (HMS.out.next (by (repeat' (first | (with_reducible exact Below.refl _ _) | (with_reducible assumption) | (with_reducible refine Below.setCell ?_ ?_ _) | (with_reducible refine Below.alloc ?_ ?_ _) | (with_reducible refine Below.drew ?_) | (with_reducible refine below_drewN ?_ _) | (with_reducible refine below_next ?_ (by with_reducible assumption)) | omega | (dsimp only; omega) | (simp only [World.size_alloc, World.size_setCell, World.size_drew, World.heap_drewN]; omega))))) 6 8 1 4 ob lb (by unfold I64; omega) (mp_load _ _ _)).mono ?_); rintro e wL ⟨rfl, hbL⟩; have hzL := hbL.size; (try simp only [World.size_alloc, World.size_setCell, World.size_drew, World.heap_drewN] at hzL))
      | (go_at_call 24; (with_reducible refine (HN.out _).mono ?_); rintro e wq ⟨rfl, rfl⟩)
      | (go_at_call 26; (with_reducible refine (HKV.out _).mono ?_); rintro e wq ⟨rfl, rfl⟩)
      | (go_at_call 25; (with_reducible refine (hI7.out _).mono ?_); rintro e wI ⟨rfl, hbI⟩; have hzI := hbI.size; (try simp only [World.size_alloc, World.size_setCell, World.size_drew, World.heap_drewN] at hzI))
      | (go_at_call 27; (with_reducible refine (hL7.out _).mono ?_); rintro e wV ⟨rfl, hbV⟩; obtain ⟨hcV, hfV, hzV⟩ := cif hbV; (try simp only [World.size_alloc, World.size_setCell, World.size_drew, World.heap_drewN] at hzV))
      | (go_at_call 28; (with_reducible refine (doubleOf_any _ _).mono ?_); rintro e wV ⟨rfl, hbV⟩; obtain ⟨hcV, hfV, hzV⟩ := cif hbV; (try simp only [World.size_alloc, World.size_setCell, World.size_drew, World.heap_drewN] at hzV)))
        obtain ⟨WB, hWB⟩ : ∃ WB, WB = ((wV.setCell ⟨wI.heap.size, 0, none⟩ (.int .i64 3)).setCell ⟨wI.heap.size, 1, none⟩ (.int .u64 7)).setCell ⟨wI.heap.size, 2, none⟩ (.int .i64 0) := ⟨_, rfl⟩
        have h15 : Box3 WB wI.heap.size 3 7 0 := by rw [hWB]; exact ((Box3.made wI 1 7 0).next hbV).set 3 7 0
        have ek : (valFor chunk).k = 3 := by simp [valFor, HKE.out, k3]
        rw [ek] at HST
        clear ek
        have hSB : Below wS.heap.size wS WB := by rw [hWB]; (repeat' (first | (with_reducible exact Below.refl _ _) | (with_reducible assumption) | (with_reducible refine Below.setCell ?_ ?_ _) | (with_reducible refine Below.alloc ?_ ?_ _) | (with_reducible refine Below.drew ?_) | (with_reducible refine below_drewN ?_ _) | (with_reducible refine below_next ?_ (by with_reducible assumption)) | omega | (dsimp only; omega) | (simp only [World.size_alloc, World.size_setCell, World.size_drew, World.heap_drewN]; omega)))
        have HMB := Lib.hid (HMS.out.next hSB)
        have hlowB : Below w.heap.size w WB := below_step hlowS hSB
        have hzB := hSB.size
        have hP3 : P3 WB g11 wL.heap.size wI.heap.size ob lb 3 := ⟨q11S.out.next hSB, (Box3.made wL 4 ob lb).next (by rw [hWB]; (repeat' (first | (with_reducible exact Below.refl _ _) | (with_reducible assumption) | (with_reducible refine Below.setCell ?_ ?_ _) | (with_reducible refine Below.alloc ?_ ?_ _) | (with_reducible refine Below.drew ?_) | (with_reducible refine below_drewN ?_ _) | (with_reducible refine below_next ?_ (by with_reducible assumption)) | omega | (dsimp only; omega) | (simp only [World.size_alloc, World.size_setCell, World.size_drew, World.heap_drewN]; omega)))), h15⟩
        obtain ⟨g12, hg12⟩ : ∃ g, g = wL.heap.size := ⟨_, rfl⟩
        obtain ⟨g15, hg15⟩ : ∃ g, g = wI.heap.size := ⟨_, rfl⟩
        rw [← hg12, ← hg15] at hP3
        rw [← hWB, ← hg15, ← hg12]
        have HP3 := Lib.hid hP3
        clear hP3 hg12 hg15 h15 hWB hSB hbL hbI q11S
        go_region_held3 (fun w' => w'.cell? ⟨g15, 0, none⟩ = some (.int .i64 3) ∧ w'.cell? ⟨g15, 1, none⟩ = some (.int .u64 7) ∧ w'.cell? ⟨g15, 2, none⟩ = some (.int .i64 0) ∧ P3 w' g11 g12 g15 ob lb 3) (first | exact hPX.cells | exact HP3.out.cells)
          (first
            | (go_at_call 23; (with_reducible refine (HPJ.out _).mono ?_); rintro e wJ ⟨rfl, hbJ⟩; have hzJ := hbJ.size; (try simp only [World.size_alloc, World.size_setCell, World.size_drew, World.heap_drewN] at hzJ); have hPX := P3.keptC (KeptT.of_below hbJ) (by assumption))
            | (go_at_call 17; (with_reducible refine (HST.out _ (HMB.out.next (by (repeat' (first | (with_reducible exact Below.refl _ _) | (with_reducible assumption) | (with_reducible refine Below.setCell ?_ ?_ _) | (with_reducible refine Below.alloc ?_ ?_ _) | (with_reducible refine Below.drew ?_) | (with_reducible refine below_drewN ?_ _) | (with_reducible refine below_next ?_ (by with_reducible assumption)) | omega | (dsimp only; omega) | (simp only [World.size_alloc, World.size_setCell, World.size_drew, World.heap_drewN]; omega)))))).mono ?_); rintro e wT ⟨rfl, hL⟩; have HMT := Lib.hid hL.mem; have hlowT : Below w.heap.size w wT := Below.trans (by (repeat' (first | (with_reducible exact Below.refl _ _) | (with_reducible assumption) | (with_reducible refine Below.setCell ?_ ?_ _) | (with_reducible refine Below.alloc ?_ ?_ _) | (with_reducible refine Below.drew ?_) | (with_reducible refine below_drewN ?_ _) | (with_reducible refine below_next ?_ (by with_reducible assumption)) | omega | (dsimp only; omega) | (simp only [World.size_alloc, World.size_setCell, World.size_drew, World.heap_drewN]; omega)))) hL.low; have hzT := hL.kept.1; (try simp only [World.size_alloc, World.size_setCell, World.size_drew, World.heap_drewN] at hzT); have hPX := P3.keptC hL.kept (by assumption); clear hL))
        have HPX := Lib.hid hPX
        have hx11 := hPX.1.lt
        have hx12 := hPX.2.1.lt
        clear hPX
        go_upto_region 21 with (first
          | (go_at_call 23; (with_reducible refine (HP18.out _).mono ?_); rintro e wR ⟨rfl, hbR⟩; have hzR := hbR.size; (try simp only [World.size_alloc, World.size_setCell, World.size_drew, World.heap_drewN] at hzR))
          | (go_at_call 15; (with_reducible refine (HLD.out _ (HMT.out.next (by (repeat' (first | (with_reducible exact Below.refl _ _) | (with_reducible assumption) | (with_reducible refine Below.setCell ?_ ?_ _) | (with_reducible refine Below.alloc ?_ ?_ _) | (with_reducible refine Below.drew ?_) | (with_reducible refine below_drewN ?_ _) | (with_reducible refine below_next ?_ (by with_reducible assumption)) | omega | (dsimp only; omega) | (simp only [World.size_alloc, World.size_setCell, World.size_drew, World.heap_drewN]; omega)))))).mono ?_); rintro e wM ⟨rfl, hbM⟩; have hzM := hbM.size; (try simp only [World.size_alloc, World.size_setCell, World.size_drew, World.heap_drewN] at hzM)))
        obtain ⟨WC, hWC⟩ : ∃ WC, WC = wM.alloc (.cells #[.int .i64 y1, .int .u64 y2, .int .i64 y3] 32) := ⟨_, rfl⟩
        have hTC : Below wT.heap.size wT WC := by rw [hWC]; (repeat' (first | (with_reducible exact Below.refl _ _) | (with_reducible assumption) | (with_reducible refine Below.setCell ?_ ?_ _) | (with_reducible refine Below.alloc ?_ ?_ _) | (with_reducible refine Below.drew ?_) | (with_reducible refine below_drewN ?_ _) | (with_reducible refine below_next ?_ (by with_reducible assumption)) | omega | (dsimp only; omega) | (simp only [World.size_alloc, World.size_setCell, World.size_drew, World.heap_drewN]; omega)))
        have hlowC : Below w.heap.size w WC := below_step hlowT hTC
        have z17 : Box3 WC wM.heap.size y1 y2 y3 := by rw [hWC]; exact Box3.made _ _ _ _
        obtain ⟨a0, a1, a2, _⟩ := (HPX.out.1.next hTC).cells
        obtain ⟨b0, b1, b2, _⟩ := (HPX.out.2.1.next hTC).cells
        obtain ⟨d0, d1, d2', _⟩ := z17.cells
        have hzC := hTC.size
        have hl17 := z17.lt
        obtain ⟨g17, hg17⟩ : ∃ g, g = wM.heap.size := ⟨_, rfl⟩
        rw [← hg17] at d0 d1 d2' hl17
        rw [← hg17, ← hWC]
        have hl11 : g11 < WC.heap.size := by omega
        have hl12 : g12 < WC.heap.size := by omega
        clear hg17 hWC hTC z17 hbR hbM
        have hneq := neqV_same 4 ob lb
        have hyes := neqV_yes' 4 ob lb
        have hy := HY.out
        have hst := HSTE.out
        unfold nowV at hy
        rcases (by have := sizeV_cases chunk; rw [HNE.out] at this; omega : n = 0 ∨ (1 ≤ n ∧ n ≤ 8)) with hn0 | hn1
        · have hf : ¬ fitsA n ja := by unfold fitsA; omega
          rw [if_neg (fun h => hf h.1)] at hy
          simp only [hf, decide_false] at hst
          subst hst hn0
          injection hy with hy1 hy2 hy3
          subst hy1 hy2 hy3
          clear hf
          go_wp2
          refine wp_region_ext (by kernel_rfl) (by kernel_rfl) ?_
          repeat (first | go_big_quiet_skip | (go_big_quiet_want; go_big_quiet_op; first | go_big_quiet_on | (apply Exists.intro; refine ⟨fun W hW => ?_, ?_⟩; (focus (first
            | (go_at_call 27; (with_reducible refine (hL7.out _).mono ?_); rintro e w1 ⟨rfl, hb⟩; exact ⟨rfl, Ext.next hW hb⟩)
            | exact rfl | (obtain ⟨hcW, hfW, hzW⟩ := cif (Ext.of hW); (try simp only [World.size_alloc, World.size_setCell, World.size_drew, World.heap_drewN] at hzW); simp [go_sem, *, ↓IntWalk.iteOmega]; (try exact rfl)))); go_big_quiet_on)))
          refine wpQuiet_nil ?_
          intro w' hw'
          have hbl := Ext.of hw'
          obtain ⟨hc, hf, hz⟩ := cif hbl
          (try simp only [World.size_alloc, World.size_setCell, World.size_drew, World.heap_drewN] at hz)
          clear hw'
          go_wp2
          go_returns
          exact ⟨rfl, below_step hlowC hbl⟩
        · have dn : decide (0 < n) = true := by simp; omega
          have dz : (n == 0) = false := by simp; omega
          have tm : ja.tmod n = ja % n := Int.tmod_eq_emod_of_nonneg hj1
          by_cases c1 : ja % n = 0
          · have e1 : (ja % n == 0) = true := by simpa using c1
            by_cases c2 : ja + n ≤ 24
            · have e2 : decide (ja + n ≤ 24) = true := by simpa using c2
              have hf : fitsA n ja := ⟨by omega, c1, c2⟩
              simp only [hf, decide_true] at hst
              subst hst
              by_cases c3 : ja < 16
              · have e3 : decide (ja < 16) = true := by simpa using c3
                by_cases c4 : 8 < ja + n
                · have e4 : decide (8 < ja + n) = true := by simpa using c4
                  rw [if_pos ⟨hf, c3, c4⟩] at hy
                  by_cases c5 : ja = 8
                  · by_cases c6 : n = 8
                    · rw [if_pos ⟨c5, c6⟩] at hy
                      injection hy with hy1 hy2 hy3
                      subst hy1 hy2 hy3 c5 c6
                      clear hf tm c1 c2 c3 c4 e1 e2 e3 e4 dn dz
                      go_wp2
                      refine wp_region_ext (by kernel_rfl) (by kernel_rfl) ?_
                      repeat (first | go_big_quiet_skip | (go_big_quiet_want; go_big_quiet_op; first | go_big_quiet_on | (apply Exists.intro; refine ⟨fun W hW => ?_, ?_⟩; (focus (first
                        | (go_at_call 27; (with_reducible refine (hL7.out _).mono ?_); rintro e w1 ⟨rfl, hb⟩; exact ⟨rfl, Ext.next hW hb⟩)
                        | exact rfl | (obtain ⟨hcW, hfW, hzW⟩ := cif (Ext.of hW); (try simp only [World.size_alloc, World.size_setCell, World.size_drew, World.heap_drewN] at hzW); simp [go_sem, *, ↓IntWalk.iteOmega]; (try exact rfl)))); go_big_quiet_on)))
                      refine wpQuiet_nil ?_
                      intro w' hw'
                      have hbl := Ext.of hw'
                      obtain ⟨hc, hf, hz⟩ := cif hbl
                      (try simp only [World.size_alloc, World.size_setCell, World.size_drew, World.heap_drewN] at hz)
                      clear hw'
                      go_wp2
                      go_returns
                      exact ⟨rfl, below_step hlowC hbl⟩
                    · rw [if_neg (fun h => c6 h.2)] at hy
                      injection hy with hy1 hy2 hy3
                      have h124 : n = 1 ∨ n = 2 ∨ n = 4 := by have := sizeV_cases chunk; rw [HNE.out] at this; omega
                      subst hy1 hy2 hy3 c5
                      clear hf tm c1 c2 c3 c4 c6 e1 e2 e3 e4 dn dz hn1
                      rcases h124 with rfl | rfl | rfl
                      · skip
                        go_wp2
                        refine wp_region_ext (by kernel_rfl) (by kernel_rfl) ?_
                        repeat (first | go_big_quiet_skip | (go_big_quiet_want; go_big_quiet_op; first | go_big_quiet_on | (apply Exists.intro; refine ⟨fun W hW => ?_, ?_⟩; (focus (first
                          | (go_at_call 27; (with_reducible refine (hL7.out _).mono ?_); rintro e w1 ⟨rfl, hb⟩; exact ⟨rfl, Ext.next hW hb⟩)
                          | exact rfl | (obtain ⟨hcW, hfW, hzW⟩ := cif (Ext.of hW); (try simp only [World.size_alloc, World.size_setCell, World.size_drew, World.heap_drewN] at hzW); simp [go_sem, *, ↓IntWalk.iteOmega]; (try exact rfl)))); go_big_quiet_on)))
                        refine wpQuiet_nil ?_
                        intro w' hw'
                        have hbl := Ext.of hw'
                        obtain ⟨hc, hf, hz⟩ := cif hbl
                        (try simp only [World.size_alloc, World.size_setCell, World.size_drew, World.heap_drewN] at hz)
                        clear hw'
                        go_wp2
                        go_returns
                        exact ⟨rfl, below_step hlowC hbl⟩
                      · skip
                        go_wp2
                        refine wp_region_ext (by kernel_rfl) (by kernel_rfl) ?_
                        repeat (first | go_big_quiet_skip | (go_big_quiet_want; go_big_quiet_op; first | go_big_quiet_on | (apply Exists.intro; refine ⟨fun W hW => ?_, ?_⟩; (focus (first
                          | (go_at_call 27; (with_reducible refine (hL7.out _).mono ?_); rintro e w1 ⟨rfl, hb⟩; exact ⟨rfl, Ext.next hW hb⟩)
                          | exact rfl | (obtain ⟨hcW, hfW, hzW⟩ := cif (Ext.of hW); (try simp only [World.size_alloc, World.size_setCell, World.size_drew, World.heap_drewN] at hzW); simp [go_sem, *, ↓IntWalk.iteOmega]; (try exact rfl)))); go_big_quiet_on)))
                        refine wpQuiet_nil ?_
                        intro w' hw'
                        have hbl := Ext.of hw'
                        obtain ⟨hc, hf, hz⟩ := cif hbl
                        (try simp only [World.size_alloc, World.size_setCell, World.size_drew, World.heap_drewN] at hz)
                        clear hw'
                        go_wp2
                        go_returns
                        exact ⟨rfl, below_step hlowC hbl⟩
                      · skip
                        go_wp2
                        refine wp_region_ext (by kernel_rfl) (by kernel_rfl) ?_
                        repeat (first | go_big_quiet_skip | (go_big_quiet_want; go_big_quiet_op; first | go_big_quiet_on | (apply Exists.intro; refine ⟨fun W hW => ?_, ?_⟩; (focus (first
                          | (go_at_call 27; (with_reducible refine (hL7.out _).mono ?_); rintro e w1 ⟨rfl, hb⟩; exact ⟨rfl, Ext.next hW hb⟩)
                          | exact rfl | (obtain ⟨hcW, hfW, hzW⟩ := cif (Ext.of hW); (try simp only [World.size_alloc, World.size_setCell, World.size_drew, World.heap_drewN] at hzW); simp [go_sem, *, ↓IntWalk.iteOmega]; (try exact rfl)))); go_big_quiet_on)))
                        refine wpQuiet_nil ?_
                        intro w' hw'
                        have hbl := Ext.of hw'
                        obtain ⟨hc, hf, hz⟩ := cif hbl
                        (try simp only [World.size_alloc, World.size_setCell, World.size_drew, World.heap_drewN] at hz)
                        clear hw'
                        go_wp2
                        go_returns
                        exact ⟨rfl, below_step hlowC hbl⟩
                  · rw [if_neg (fun h => c5 h.1)] at hy
                    injection hy with hy1 hy2 hy3
                    have e5 : (ja == 8) = false := by simpa using c5
                    subst hy1 hy2 hy3
                    clear hf tm c1 c2 c3 c4 c5
                    go_wp2
                    refine wp_region_ext (by kernel_rfl) (by kernel_rfl) ?_
                    repeat (first | go_big_quiet_skip | (go_big_quiet_want; go_big_quiet_op; first | go_big_quiet_on | (apply Exists.intro; refine ⟨fun W hW => ?_, ?_⟩; (focus (first
                      | (go_at_call 27; (with_reducible refine (hL7.out _).mono ?_); rintro e w1 ⟨rfl, hb⟩; exact ⟨rfl, Ext.next hW hb⟩)
                      | exact rfl | (obtain ⟨hcW, hfW, hzW⟩ := cif (Ext.of hW); (try simp only [World.size_alloc, World.size_setCell, World.size_drew, World.heap_drewN] at hzW); simp [go_sem, *, ↓IntWalk.iteOmega]; (try exact rfl)))); go_big_quiet_on)))
                    refine wpQuiet_nil ?_
                    intro w' hw'
                    have hbl := Ext.of hw'
                    obtain ⟨hc, hf, hz⟩ := cif hbl
                    (try simp only [World.size_alloc, World.size_setCell, World.size_drew, World.heap_drewN] at hz)
                    clear hw'
                    go_wp2
                    go_returns
                    exact ⟨rfl, below_step hlowC hbl⟩
                · have e4 : decide (8 < ja + n) = false := by simpa using c4
                  rw [if_neg (fun h => c4 h.2.2)] at hy
                  injection hy with hy1 hy2 hy3
                  subst hy1 hy2 hy3
                  clear hf tm c1 c2 c3 c4
                  go_wp2
                  refine wp_region_ext (by kernel_rfl) (by kernel_rfl) ?_
                  repeat (first | go_big_quiet_skip | (go_big_quiet_want; go_big_quiet_op; first | go_big_quiet_on | (apply Exists.intro; refine ⟨fun W hW => ?_, ?_⟩; (focus (first
                    | (go_at_call 27; (with_reducible refine (hL7.out _).mono ?_); rintro e w1 ⟨rfl, hb⟩; exact ⟨rfl, Ext.next hW hb⟩)
                    | exact rfl | (obtain ⟨hcW, hfW, hzW⟩ := cif (Ext.of hW); (try simp only [World.size_alloc, World.size_setCell, World.size_drew, World.heap_drewN] at hzW); simp [go_sem, *, ↓IntWalk.iteOmega]; (try exact rfl)))); go_big_quiet_on)))
                  refine wpQuiet_nil ?_
                  intro w' hw'
                  have hbl := Ext.of hw'
                  obtain ⟨hc, hf, hz⟩ := cif hbl
                  (try simp only [World.size_alloc, World.size_setCell, World.size_drew, World.heap_drewN] at hz)
                  clear hw'
                  go_wp2
                  go_returns
                  exact ⟨rfl, below_step hlowC hbl⟩
              · have e3 : decide (ja < 16) = false := by simpa using c3
                rw [if_neg (fun h => c3 h.2.1)] at hy
                injection hy with hy1 hy2 hy3
                subst hy1 hy2 hy3
                clear hf tm c1 c2 c3
                go_wp2
                refine wp_region_ext (by kernel_rfl) (by kernel_rfl) ?_
                repeat (first | go_big_quiet_skip | (go_big_quiet_want; go_big_quiet_op; first | go_big_quiet_on | (apply Exists.intro; refine ⟨fun W hW => ?_, ?_⟩; (focus (first
                  | (go_at_call 27; (with_reducible refine (hL7.out _).mono ?_); rintro e w1 ⟨rfl, hb⟩; exact ⟨rfl, Ext.next hW hb⟩)
                  | exact rfl | (obtain ⟨hcW, hfW, hzW⟩ := cif (Ext.of hW); (try simp only [World.size_alloc, World.size_setCell, World.size_drew, World.heap_drewN] at hzW); simp [go_sem, *, ↓IntWalk.iteOmega]; (try exact rfl)))); go_big_quiet_on)))
                refine wpQuiet_nil ?_
                intro w' hw'
                have hbl := Ext.of hw'
                obtain ⟨hc, hf, hz⟩ := cif hbl
                (try simp only [World.size_alloc, World.size_setCell, World.size_drew, World.heap_drewN] at hz)
                clear hw'
                go_wp2
                go_returns
                exact ⟨rfl, below_step hlowC hbl⟩
            · have e2 : decide (ja + n ≤ 24) = false := by simpa using c2
              have hf : ¬ fitsA n ja := fun h => c2 h.2.2
              rw [if_neg (fun h => hf h.1)] at hy
              simp only [hf, decide_false] at hst
              subst hst
              injection hy with hy1 hy2 hy3
              subst hy1 hy2 hy3
              clear hf tm c1 c2
              go_wp2
              refine wp_region_ext (by kernel_rfl) (by kernel_rfl) ?_
              repeat (first | go_big_quiet_skip | (go_big_quiet_want; go_big_quiet_op; first | go_big_quiet_on | (apply Exists.intro; refine ⟨fun W hW => ?_, ?_⟩; (focus (first
                | (go_at_call 27; (with_reducible refine (hL7.out _).mono ?_); rintro e w1 ⟨rfl, hb⟩; exact ⟨rfl, Ext.next hW hb⟩)
                | exact rfl | (obtain ⟨hcW, hfW, hzW⟩ := cif (Ext.of hW); (try simp only [World.size_alloc, World.size_setCell, World.size_drew, World.heap_drewN] at hzW); simp [go_sem, *, ↓IntWalk.iteOmega]; (try exact rfl)))); go_big_quiet_on)))
              refine wpQuiet_nil ?_
              intro w' hw'
              have hbl := Ext.of hw'
              obtain ⟨hc, hf, hz⟩ := cif hbl
              (try simp only [World.size_alloc, World.size_setCell, World.size_drew, World.heap_drewN] at hz)
              clear hw'
              go_wp2
              go_returns
              exact ⟨rfl, below_step hlowC hbl⟩
          · have e1 : (ja % n == 0) = false := by simpa using c1
            have hf : ¬ fitsA n ja := fun h => c1 h.2.1
            rw [if_neg (fun h => hf h.1)] at hy
            simp only [hf, decide_false] at hst
            subst hst
            injection hy with hy1 hy2 hy3
            subst hy1 hy2 hy3
            clear hf tm c1
            go_wp2
            refine wp_region_ext (by kernel_rfl) (by kernel_rfl) ?_
            repeat (first | go_big_quiet_skip | (go_big_quiet_want; go_big_quiet_op; first | go_big_quiet_on | (apply Exists.intro; refine ⟨fun W hW => ?_, ?_⟩; (focus (first
              | (go_at_call 27; (with_reducible refine (hL7.out _).mono ?_); rintro e w1 ⟨rfl, hb⟩; exact ⟨rfl, Ext.next hW hb⟩)
              | exact rfl | (obtain ⟨hcW, hfW, hzW⟩ := cif (Ext.of hW); (try simp only [World.size_alloc, World.size_setCell, World.size_drew, World.heap_drewN] at hzW); simp [go_sem, *, ↓IntWalk.iteOmega]; (try exact rfl)))); go_big_quiet_on)))
            refine wpQuiet_nil ?_
            intro w' hw'
            have hbl := Ext.of hw'
            obtain ⟨hc, hf, hz⟩ := cif hbl
            (try simp only [World.size_alloc, World.size_setCell, World.size_drew, World.heap_drewN] at hz)
            clear hw'
            go_wp2
            go_returns
            exact ⟨rfl, below_step hlowC hbl⟩
      · have d3 : (kv == 3) = false := by simpa using k3
        go_upto_region 19 with (first
      | (go_at_call 23; (with_reducible refine (HP18.out _).mono ?_); rintro e wq ⟨rfl, hbq⟩; have hzq := hbq.size; (try simp only [World.size_alloc, World.size_setCell, World.size_drew, World.heap_drewN] at hzq))
      | (go_at_call 15; (with_reducible refine (load_some (HMS.out.next (by (repeat' (first | (with_reducible exact Below.refl _ _) | (with_reducible assumption) | (with_reducible refine Below.setCell ?_ ?_ _) | (with_reducible refine Below.alloc ?_ ?_ _) | (with_reducible refine Below.drew ?_) | (with_reducible refine below_drewN ?_ _) | (with_reducible refine below_next ?_ (by with_reducible assumption)) | omega | (dsimp only; omega) | (simp only [World.size_alloc, World.size_setCell, World.size_drew, World.heap_drewN]; omega))))) 6 8 1 4 ob lb (by unfold I64; omega) (mp_load _ _ _)).mono ?_); rintro e wL ⟨rfl, hbL⟩; have hzL := hbL.size; (try simp only [World.size_alloc, World.size_setCell, World.size_drew, World.heap_drewN] at hzL))
      | (go_at_call 24; (with_reducible refine (HN.out _).mono ?_); rintro e wq ⟨rfl, rfl⟩)
      | (go_at_call 26; (with_reducible refine (HKV.out _).mono ?_); rintro e wq ⟨rfl, rfl⟩)
      | (go_at_call 25; (with_reducible refine (hI7.out _).mono ?_); rintro e wI ⟨rfl, hbI⟩; have hzI := hbI.size; (try simp only [World.size_alloc, World.size_setCell, World.size_drew, World.heap_drewN] at hzI))
      | (go_at_call 27; (with_reducible refine (hL7.out _).mono ?_); rintro e wV ⟨rfl, hbV⟩; obtain ⟨hcV, hfV, hzV⟩ := cif hbV; (try simp only [World.size_alloc, World.size_setCell, World.size_drew, World.heap_drewN] at hzV))
      | (go_at_call 28; (with_reducible refine (doubleOf_any _ _).mono ?_); rintro e wV ⟨rfl, hbV⟩; obtain ⟨hcV, hfV, hzV⟩ := cif hbV; (try simp only [World.size_alloc, World.size_setCell, World.size_drew, World.heap_drewN] at hzV)))
        obtain ⟨WB, hWB⟩ : ∃ WB, WB = wI.alloc (.cells #[.int .i64 1, .int .u64 7, .int .i64 0] 32) := ⟨_, rfl⟩
        have h15 : Box3 WB wI.heap.size 1 7 0 := by rw [hWB]; exact Box3.made wI 1 7 0
        have ek : (valFor chunk).k = 1 := by simp [valFor, HKE.out, k2, k3]
        rw [ek] at HST
        clear ek
        have hSB : Below wS.heap.size wS WB := by rw [hWB]; (repeat' (first | (with_reducible exact Below.refl _ _) | (with_reducible assumption) | (with_reducible refine Below.setCell ?_ ?_ _) | (with_reducible refine Below.alloc ?_ ?_ _) | (with_reducible refine Below.drew ?_) | (with_reducible refine below_drewN ?_ _) | (with_reducible refine below_next ?_ (by with_reducible assumption)) | omega | (dsimp only; omega) | (simp only [World.size_alloc, World.size_setCell, World.size_drew, World.heap_drewN]; omega)))
        have HMB := Lib.hid (HMS.out.next hSB)
        have hlowB : Below w.heap.size w WB := below_step hlowS hSB
        have hzB := hSB.size
        have hP3 : P3 WB g11 wL.heap.size wI.heap.size ob lb 1 := ⟨q11S.out.next hSB, (Box3.made wL 4 ob lb).next (by rw [hWB]; (repeat' (first | (with_reducible exact Below.refl _ _) | (with_reducible assumption) | (with_reducible refine Below.setCell ?_ ?_ _) | (with_reducible refine Below.alloc ?_ ?_ _) | (with_reducible refine Below.drew ?_) | (with_reducible refine below_drewN ?_ _) | (with_reducible refine below_next ?_ (by with_reducible assumption)) | omega | (dsimp only; omega) | (simp only [World.size_alloc, World.size_setCell, World.size_drew, World.heap_drewN]; omega)))), h15⟩
        obtain ⟨g12, hg12⟩ : ∃ g, g = wL.heap.size := ⟨_, rfl⟩
        obtain ⟨g15, hg15⟩ : ∃ g, g = wI.heap.size := ⟨_, rfl⟩
        rw [← hg12, ← hg15] at hP3
        rw [← hWB, ← hg15, ← hg12]
        have HP3 := Lib.hid hP3
        clear hP3 hg12 hg15 h15 hWB hSB hbL hbI q11S
        go_region_held3 (fun w' => w'.cell? ⟨g15, 0, none⟩ = some (.int .i64 1) ∧ w'.cell? ⟨g15, 1, none⟩ = some (.int .u64 7) ∧ w'.cell? ⟨g15, 2, none⟩ = some (.int .i64 0) ∧ P3 w' g11 g12 g15 ob lb 1) (first | exact hPX.cells | exact HP3.out.cells)
          (first
            | (go_at_call 23; (with_reducible refine (HPJ.out _).mono ?_); rintro e wJ ⟨rfl, hbJ⟩; have hzJ := hbJ.size; (try simp only [World.size_alloc, World.size_setCell, World.size_drew, World.heap_drewN] at hzJ); have hPX := P3.keptC (KeptT.of_below hbJ) (by assumption))
            | (go_at_call 17; (with_reducible refine (HST.out _ (HMB.out.next (by (repeat' (first | (with_reducible exact Below.refl _ _) | (with_reducible assumption) | (with_reducible refine Below.setCell ?_ ?_ _) | (with_reducible refine Below.alloc ?_ ?_ _) | (with_reducible refine Below.drew ?_) | (with_reducible refine below_drewN ?_ _) | (with_reducible refine below_next ?_ (by with_reducible assumption)) | omega | (dsimp only; omega) | (simp only [World.size_alloc, World.size_setCell, World.size_drew, World.heap_drewN]; omega)))))).mono ?_); rintro e wT ⟨rfl, hL⟩; have HMT := Lib.hid hL.mem; have hlowT : Below w.heap.size w wT := Below.trans (by (repeat' (first | (with_reducible exact Below.refl _ _) | (with_reducible assumption) | (with_reducible refine Below.setCell ?_ ?_ _) | (with_reducible refine Below.alloc ?_ ?_ _) | (with_reducible refine Below.drew ?_) | (with_reducible refine below_drewN ?_ _) | (with_reducible refine below_next ?_ (by with_reducible assumption)) | omega | (dsimp only; omega) | (simp only [World.size_alloc, World.size_setCell, World.size_drew, World.heap_drewN]; omega)))) hL.low; have hzT := hL.kept.1; (try simp only [World.size_alloc, World.size_setCell, World.size_drew, World.heap_drewN] at hzT); have hPX := P3.keptC hL.kept (by assumption); clear hL))
        have HPX := Lib.hid hPX
        have hx11 := hPX.1.lt
        have hx12 := hPX.2.1.lt
        clear hPX
        go_upto_region 21 with (first
          | (go_at_call 23; (with_reducible refine (HP18.out _).mono ?_); rintro e wR ⟨rfl, hbR⟩; have hzR := hbR.size; (try simp only [World.size_alloc, World.size_setCell, World.size_drew, World.heap_drewN] at hzR))
          | (go_at_call 15; (with_reducible refine (HLD.out _ (HMT.out.next (by (repeat' (first | (with_reducible exact Below.refl _ _) | (with_reducible assumption) | (with_reducible refine Below.setCell ?_ ?_ _) | (with_reducible refine Below.alloc ?_ ?_ _) | (with_reducible refine Below.drew ?_) | (with_reducible refine below_drewN ?_ _) | (with_reducible refine below_next ?_ (by with_reducible assumption)) | omega | (dsimp only; omega) | (simp only [World.size_alloc, World.size_setCell, World.size_drew, World.heap_drewN]; omega)))))).mono ?_); rintro e wM ⟨rfl, hbM⟩; have hzM := hbM.size; (try simp only [World.size_alloc, World.size_setCell, World.size_drew, World.heap_drewN] at hzM)))
        obtain ⟨WC, hWC⟩ : ∃ WC, WC = wM.alloc (.cells #[.int .i64 y1, .int .u64 y2, .int .i64 y3] 32) := ⟨_, rfl⟩
        have hTC : Below wT.heap.size wT WC := by rw [hWC]; (repeat' (first | (with_reducible exact Below.refl _ _) | (with_reducible assumption) | (with_reducible refine Below.setCell ?_ ?_ _) | (with_reducible refine Below.alloc ?_ ?_ _) | (with_reducible refine Below.drew ?_) | (with_reducible refine below_drewN ?_ _) | (with_reducible refine below_next ?_ (by with_reducible assumption)) | omega | (dsimp only; omega) | (simp only [World.size_alloc, World.size_setCell, World.size_drew, World.heap_drewN]; omega)))
        have hlowC : Below w.heap.size w WC := below_step hlowT hTC
        have z17 : Box3 WC wM.heap.size y1 y2 y3 := by rw [hWC]; exact Box3.made _ _ _ _
        obtain ⟨a0, a1, a2, _⟩ := (HPX.out.1.next hTC).cells
        obtain ⟨b0, b1, b2, _⟩ := (HPX.out.2.1.next hTC).cells
        obtain ⟨d0, d1, d2', _⟩ := z17.cells
        have hzC := hTC.size
        have hl17 := z17.lt
        obtain ⟨g17, hg17⟩ : ∃ g, g = wM.heap.size := ⟨_, rfl⟩
        rw [← hg17] at d0 d1 d2' hl17
        rw [← hg17, ← hWC]
        have hl11 : g11 < WC.heap.size := by omega
        have hl12 : g12 < WC.heap.size := by omega
        clear hg17 hWC hTC z17 hbR hbM
        have hneq := neqV_same 4 ob lb
        have hyes := neqV_yes' 4 ob lb
        have hy := HY.out
        have hst := HSTE.out
        unfold nowV at hy
        rcases (by have := sizeV_cases chunk; rw [HNE.out] at this; omega : n = 0 ∨ (1 ≤ n ∧ n ≤ 8)) with hn0 | hn1
        · have hf : ¬ fitsA n ja := by unfold fitsA; omega
          rw [if_neg (fun h => hf h.1)] at hy
          simp only [hf, decide_false] at hst
          subst hst hn0
          injection hy with hy1 hy2 hy3
          subst hy1 hy2 hy3
          clear hf
          go_wp2
          refine wp_region_ext (by kernel_rfl) (by kernel_rfl) ?_
          repeat (first | go_big_quiet_skip | (go_big_quiet_want; go_big_quiet_op; first | go_big_quiet_on | (apply Exists.intro; refine ⟨fun W hW => ?_, ?_⟩; (focus (first
            | (go_at_call 27; (with_reducible refine (hL7.out _).mono ?_); rintro e w1 ⟨rfl, hb⟩; exact ⟨rfl, Ext.next hW hb⟩)
            | exact rfl | (obtain ⟨hcW, hfW, hzW⟩ := cif (Ext.of hW); (try simp only [World.size_alloc, World.size_setCell, World.size_drew, World.heap_drewN] at hzW); simp [go_sem, *, ↓IntWalk.iteOmega]; (try exact rfl)))); go_big_quiet_on)))
          refine wpQuiet_nil ?_
          intro w' hw'
          have hbl := Ext.of hw'
          obtain ⟨hc, hf, hz⟩ := cif hbl
          (try simp only [World.size_alloc, World.size_setCell, World.size_drew, World.heap_drewN] at hz)
          clear hw'
          go_wp2
          go_returns
          exact ⟨rfl, below_step hlowC hbl⟩
        · have dn : decide (0 < n) = true := by simp; omega
          have dz : (n == 0) = false := by simp; omega
          have tm : ja.tmod n = ja % n := Int.tmod_eq_emod_of_nonneg hj1
          by_cases c1 : ja % n = 0
          · have e1 : (ja % n == 0) = true := by simpa using c1
            by_cases c2 : ja + n ≤ 24
            · have e2 : decide (ja + n ≤ 24) = true := by simpa using c2
              have hf : fitsA n ja := ⟨by omega, c1, c2⟩
              simp only [hf, decide_true] at hst
              subst hst
              by_cases c3 : ja < 16
              · have e3 : decide (ja < 16) = true := by simpa using c3
                by_cases c4 : 8 < ja + n
                · have e4 : decide (8 < ja + n) = true := by simpa using c4
                  rw [if_pos ⟨hf, c3, c4⟩] at hy
                  by_cases c5 : ja = 8
                  · by_cases c6 : n = 8
                    · rw [if_pos ⟨c5, c6⟩] at hy
                      injection hy with hy1 hy2 hy3
                      subst hy1 hy2 hy3 c5 c6
                      clear hf tm c1 c2 c3 c4 e1 e2 e3 e4 dn dz
                      go_wp2
                      refine wp_region_ext (by kernel_rfl) (by kernel_rfl) ?_
                      repeat (first | go_big_quiet_skip | (go_big_quiet_want; go_big_quiet_op; first | go_big_quiet_on | (apply Exists.intro; refine ⟨fun W hW => ?_, ?_⟩; (focus (first
                        | (go_at_call 27; (with_reducible refine (hL7.out _).mono ?_); rintro e w1 ⟨rfl, hb⟩; exact ⟨rfl, Ext.next hW hb⟩)
                        | exact rfl | (obtain ⟨hcW, hfW, hzW⟩ := cif (Ext.of hW); (try simp only [World.size_alloc, World.size_setCell, World.size_drew, World.heap_drewN] at hzW); simp [go_sem, *, ↓IntWalk.iteOmega]; (try exact rfl)))); go_big_quiet_on)))
                      refine wpQuiet_nil ?_
                      intro w' hw'
                      have hbl := Ext.of hw'
                      obtain ⟨hc, hf, hz⟩ := cif hbl
                      (try simp only [World.size_alloc, World.size_setCell, World.size_drew, World.heap_drewN] at hz)
                      clear hw'
                      go_wp2
                      go_returns
                      exact ⟨rfl, below_step hlowC hbl⟩
                    · rw [if_neg (fun h => c6 h.2)] at hy
                      injection hy with hy1 hy2 hy3
                      have h124 : n = 1 ∨ n = 2 ∨ n = 4 := by have := sizeV_cases chunk; rw [HNE.out] at this; omega
                      subst hy1 hy2 hy3 c5
                      clear hf tm c1 c2 c3 c4 c6 e1 e2 e3 e4 dn dz hn1
                      rcases h124 with rfl | rfl | rfl
                      · skip
                        go_wp2
                        refine wp_region_ext (by kernel_rfl) (by kernel_rfl) ?_
                        repeat (first | go_big_quiet_skip | (go_big_quiet_want; go_big_quiet_op; first | go_big_quiet_on | (apply Exists.intro; refine ⟨fun W hW => ?_, ?_⟩; (focus (first
                          | (go_at_call 27; (with_reducible refine (hL7.out _).mono ?_); rintro e w1 ⟨rfl, hb⟩; exact ⟨rfl, Ext.next hW hb⟩)
                          | exact rfl | (obtain ⟨hcW, hfW, hzW⟩ := cif (Ext.of hW); (try simp only [World.size_alloc, World.size_setCell, World.size_drew, World.heap_drewN] at hzW); simp [go_sem, *, ↓IntWalk.iteOmega]; (try exact rfl)))); go_big_quiet_on)))
                        refine wpQuiet_nil ?_
                        intro w' hw'
                        have hbl := Ext.of hw'
                        obtain ⟨hc, hf, hz⟩ := cif hbl
                        (try simp only [World.size_alloc, World.size_setCell, World.size_drew, World.heap_drewN] at hz)
                        clear hw'
                        go_wp2
                        go_returns
                        exact ⟨rfl, below_step hlowC hbl⟩
                      · skip
                        go_wp2
                        refine wp_region_ext (by kernel_rfl) (by kernel_rfl) ?_
                        repeat (first | go_big_quiet_skip | (go_big_quiet_want; go_big_quiet_op; first | go_big_quiet_on | (apply Exists.intro; refine ⟨fun W hW => ?_, ?_⟩; (focus (first
                          | (go_at_call 27; (with_reducible refine (hL7.out _).mono ?_); rintro e w1 ⟨rfl, hb⟩; exact ⟨rfl, Ext.next hW hb⟩)
                          | exact rfl | (obtain ⟨hcW, hfW, hzW⟩ := cif (Ext.of hW); (try simp only [World.size_alloc, World.size_setCell, World.size_drew, World.heap_drewN] at hzW); simp [go_sem, *, ↓IntWalk.iteOmega]; (try exact rfl)))); go_big_quiet_on)))
                        refine wpQuiet_nil ?_
                        intro w' hw'
                        have hbl := Ext.of hw'
                        obtain ⟨hc, hf, hz⟩ := cif hbl
                        (try simp only [World.size_alloc, World.size_setCell, World.size_drew, World.heap_drewN] at hz)
                        clear hw'
                        go_wp2
                        go_returns
                        exact ⟨rfl, below_step hlowC hbl⟩
                      · skip
                        go_wp2
                        refine wp_region_ext (by kernel_rfl) (by kernel_rfl) ?_
                        repeat (first | go_big_quiet_skip | (go_big_quiet_want; go_big_quiet_op; first | go_big_quiet_on | (apply Exists.intro; refine ⟨fun W hW => ?_, ?_⟩; (focus (first
                          | (go_at_call 27; (with_reducible refine (hL7.out _).mono ?_); rintro e w1 ⟨rfl, hb⟩; exact ⟨rfl, Ext.next hW hb⟩)
                          | exact rfl | (obtain ⟨hcW, hfW, hzW⟩ := cif (Ext.of hW); (try simp only [World.size_alloc, World.size_setCell, World.size_drew, World.heap_drewN] at hzW); simp [go_sem, *, ↓IntWalk.iteOmega]; (try exact rfl)))); go_big_quiet_on)))
                        refine wpQuiet_nil ?_
                        intro w' hw'
                        have hbl := Ext.of hw'
                        obtain ⟨hc, hf, hz⟩ := cif hbl
                        (try simp only [World.size_alloc, World.size_setCell, World.size_drew, World.heap_drewN] at hz)
                        clear hw'
                        go_wp2
                        go_returns
                        exact ⟨rfl, below_step hlowC hbl⟩
                  · rw [if_neg (fun h => c5 h.1)] at hy
                    injection hy with hy1 hy2 hy3
                    have e5 : (ja == 8) = false := by simpa using c5
                    subst hy1 hy2 hy3
                    clear hf tm c1 c2 c3 c4 c5
                    go_wp2
                    refine wp_region_ext (by kernel_rfl) (by kernel_rfl) ?_
                    repeat (first | go_big_quiet_skip | (go_big_quiet_want; go_big_quiet_op; first | go_big_quiet_on | (apply Exists.intro; refine ⟨fun W hW => ?_, ?_⟩; (focus (first
                      | (go_at_call 27; (with_reducible refine (hL7.out _).mono ?_); rintro e w1 ⟨rfl, hb⟩; exact ⟨rfl, Ext.next hW hb⟩)
                      | exact rfl | (obtain ⟨hcW, hfW, hzW⟩ := cif (Ext.of hW); (try simp only [World.size_alloc, World.size_setCell, World.size_drew, World.heap_drewN] at hzW); simp [go_sem, *, ↓IntWalk.iteOmega]; (try exact rfl)))); go_big_quiet_on)))
                    refine wpQuiet_nil ?_
                    intro w' hw'
                    have hbl := Ext.of hw'
                    obtain ⟨hc, hf, hz⟩ := cif hbl
                    (try simp only [World.size_alloc, World.size_setCell, World.size_drew, World.heap_drewN] at hz)
                    clear hw'
                    go_wp2
                    go_returns
                    exact ⟨rfl, below_step hlowC hbl⟩
                · have e4 : decide (8 < ja + n) = false := by simpa using c4
                  rw [if_neg (fun h => c4 h.2.2)] at hy
                  injection hy with hy1 hy2 hy3
                  subst hy1 hy2 hy3
                  clear hf tm c1 c2 c3 c4
                  go_wp2
                  refine wp_region_ext (by kernel_rfl) (by kernel_rfl) ?_
                  repeat (first | go_big_quiet_skip | (go_big_quiet_want; go_big_quiet_op; first | go_big_quiet_on | (apply Exists.intro; refine ⟨fun W hW => ?_, ?_⟩; (focus (first
                    | (go_at_call 27; (with_reducible refine (hL7.out _).mono ?_); rintro e w1 ⟨rfl, hb⟩; exact ⟨rfl, Ext.next hW hb⟩)
                    | exact rfl | (obtain ⟨hcW, hfW, hzW⟩ := cif (Ext.of hW); (try simp only [World.size_alloc, World.size_setCell, World.size_drew, World.heap_drewN] at hzW); simp [go_sem, *, ↓IntWalk.iteOmega]; (try exact rfl)))); go_big_quiet_on)))
                  refine wpQuiet_nil ?_
                  intro w' hw'
                  have hbl := Ext.of hw'
                  obtain ⟨hc, hf, hz⟩ := cif hbl
                  (try simp only [World.size_alloc, World.size_setCell, World.size_drew, World.heap_drewN] at hz)
                  clear hw'
                  go_wp2
                  go_returns
                  exact ⟨rfl, below_step hlowC hbl⟩
              · have e3 : decide (ja < 16) = false := by simpa using c3
                rw [if_neg (fun h => c3 h.2.1)] at hy
                injection hy with hy1 hy2 hy3
                subst hy1 hy2 hy3
                clear hf tm c1 c2 c3
                go_wp2
                refine wp_region_ext (by kernel_rfl) (by kernel_rfl) ?_
                repeat (first | go_big_quiet_skip | (go_big_quiet_want; go_big_quiet_op; first | go_big_quiet_on | (apply Exists.intro; refine ⟨fun W hW => ?_, ?_⟩; (focus (first
                  | (go_at_call 27; (with_reducible refine (hL7.out _).mono ?_); rintro e w1 ⟨rfl, hb⟩; exact ⟨rfl, Ext.next hW hb⟩)
                  | exact rfl | (obtain ⟨hcW, hfW, hzW⟩ := cif (Ext.of hW); (try simp only [World.size_alloc, World.size_setCell, World.size_drew, World.heap_drewN] at hzW); simp [go_sem, *, ↓IntWalk.iteOmega]; (try exact rfl)))); go_big_quiet_on)))
                refine wpQuiet_nil ?_
                intro w' hw'
                have hbl := Ext.of hw'
                obtain ⟨hc, hf, hz⟩ := cif hbl
                (try simp only [World.size_alloc, World.size_setCell, World.size_drew, World.heap_drewN] at hz)
                clear hw'
                go_wp2
                go_returns
                exact ⟨rfl, below_step hlowC hbl⟩
            · have e2 : decide (ja + n ≤ 24) = false := by simpa using c2
              have hf : ¬ fitsA n ja := fun h => c2 h.2.2
              rw [if_neg (fun h => hf h.1)] at hy
              simp only [hf, decide_false] at hst
              subst hst
              injection hy with hy1 hy2 hy3
              subst hy1 hy2 hy3
              clear hf tm c1 c2
              go_wp2
              refine wp_region_ext (by kernel_rfl) (by kernel_rfl) ?_
              repeat (first | go_big_quiet_skip | (go_big_quiet_want; go_big_quiet_op; first | go_big_quiet_on | (apply Exists.intro; refine ⟨fun W hW => ?_, ?_⟩; (focus (first
                | (go_at_call 27; (with_reducible refine (hL7.out _).mono ?_); rintro e w1 ⟨rfl, hb⟩; exact ⟨rfl, Ext.next hW hb⟩)
                | exact rfl | (obtain ⟨hcW, hfW, hzW⟩ := cif (Ext.of hW); (try simp only [World.size_alloc, World.size_setCell, World.size_drew, World.heap_drewN] at hzW); simp [go_sem, *, ↓IntWalk.iteOmega]; (try exact rfl)))); go_big_quiet_on)))
              refine wpQuiet_nil ?_
              intro w' hw'
              have hbl := Ext.of hw'
              obtain ⟨hc, hf, hz⟩ := cif hbl
              (try simp only [World.size_alloc, World.size_setCell, World.size_drew, World.heap_drewN] at hz)
              clear hw'
              go_wp2
              go_returns
              exact ⟨rfl, below_step hlowC hbl⟩
          · have e1 : (ja % n == 0) = false := by simpa using c1
            have hf : ¬ fitsA n ja := fun h => c1 h.2.1
            rw [if_neg (fun h => hf h.1)] at hy
            simp only [hf, decide_false] at hst
            subst hst
            injection hy with hy1 hy2 hy3
            subst hy1 hy2 hy3
            clear hf tm c1
            go_wp2
            refine wp_region_ext (by kernel_rfl) (by kernel_rfl) ?_
            repeat (first | go_big_quiet_skip | (go_big_quiet_want; go_big_quiet_op; first | go_big_quiet_on | (apply Exists.intro; refine ⟨fun W hW => ?_, ?_⟩; (focus (first
              | (go_at_call 27; (with_reducible refine (hL7.out _).mono ?_); rintro e w1 ⟨rfl, hb⟩; exact ⟨rfl, Ext.next hW hb⟩)
              | exact rfl | (obtain ⟨hcW, hfW, hzW⟩ := cif (Ext.of hW); (try simp only [World.size_alloc, World.size_setCell, World.size_drew, World.heap_drewN] at hzW); simp [go_sem, *, ↓IntWalk.iteOmega]; (try exact rfl)))); go_big_quiet_on)))
            refine wpQuiet_nil ?_
            intro w' hw'
            have hbl := Ext.of hw'
            obtain ⟨hc, hf, hz⟩ := cif hbl
            (try simp only [World.size_alloc, World.size_setCell, World.size_drew, World.heap_drewN] at hz)
            clear hw'
            go_wp2
            go_returns
            exact ⟨rfl, below_step hlowC hbl⟩

theorem pieces_walk (block off chunk a : Int) (h0 : I64 block) (h1 : I64 off) (h2 : I64 chunk) (h3 : I64 a) (w : World) :
    Calls Try.prog 5 #[.int .i64 block, .int .i64 off, .int .i64 chunk, .int .i64 a] w fun e w' => e = .returned (.bool true) ∧ Below w.heap.size w w' := pieces_core block off chunk a w h0 h1 h3

end Go.Proofs.Ytddipbpllogbaaa
