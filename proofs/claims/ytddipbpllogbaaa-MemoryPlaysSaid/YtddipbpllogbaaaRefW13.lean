/-
  The reference's memory: Load, its two loops.
-/
import Derived.Test.YtddipbpllogbaaaRefW11
import Derived.Test.YtddipbpllogbaaaMemW3
import Derived.Deep.DeepCutAuto
import Derived.Test.YtddipbpllogbaaaSlices
namespace Go.Proofs.Ytddipbpllogbaaa
open Go.RowKit
set_option linter.unusedVariables false
set_option linter.unusedSimpArgs false

theorem cell_info : (Try.prog.info? 78).map (fun i => (i.zero, i.size, i.bytes)) = some (some (.agg #[.int .i64 0, .int .u8 0, .int .i64 0, .int .u64 0, .int .i64 0, .int .i64 0]), 6, 48) := by kernel_rfl
def cellVals (c : PC) : List Value := [.int .i64 c.k, .int .u8 c.b, .int .i64 c.p.k, .int .u64 c.p.b, .int .i64 c.p.l, .int .i64 c.i]
/-- The cells that the first loop gathers. -/
def rowsR (B : RB) (off : Nat) : Nat → List Value
  | 0 => []
  | k + 1 => rowsR B off k ++ cellVals (rcell B (off + k))
theorem rowsR_len (B : RB) (off : Nat) : ∀ k, (rowsR B off k).length = k * 6
  | 0 => rfl
  | k + 1 => by
    show (rowsR B off k ++ cellVals _).length = _
    rw [List.length_append, rowsR_len B off k, show (cellVals (rcell B (off + k))).length = 6 from rfl]
    omega
theorem rowsR_at (B : RB) (off i t : Nat) (ht : t < 6) : ∀ k, i < k → (rowsR B off k)[i * 6 + t]? = (cellVals (rcell B (off + i)))[t]?
  | k + 1, hi => by
    show (rowsR B off k ++ cellVals _)[i * 6 + t]? = _
    have hl := rowsR_len B off k
    by_cases c : i = k
    · subst c
      rw [List.getElem?_append_right (by omega), hl, show i * 6 + t - i * 6 = t by omega]
    · rw [List.getElem?_append_left (by omega), rowsR_at B off i t ht k (by omega)]
theorem news_at (W : World) (k b pk pb pl i : Int) : ∀ (j : Nat) u, (cellVals ⟨k, b, ⟨pk, pb, pl⟩, i⟩)[j]? = some u → (W.alloc (.cells #[.int .i64 k, .int .u8 b, .int .i64 pk, .int .u64 pb, .int .i64 pl, .int .i64 i] 78)).cell? ((⟨W.heap.size, 0, none⟩ : Addr).add j) = some u := fun j u h => by
  rw [add_at, Lib.cell_of_heap (heap_alloc_new W _), Nat.zero_add, ← h]
  simp [cellVals]
theorem news_one (c : PC) : ∀ u ∈ cellVals c, u.oneCell' = true := fun u hu => by
  simp only [cellVals, List.mem_cons, List.not_mem_nil, or_false] at hu
  rcases hu with rfl | rfl | rfl | rfl | rfl | rfl <;> rfl
theorem eqlV_no (x y z x' y' z' : Int) (h : ¬ (x = x' ∧ y = y' ∧ z = z')) (w : World) : (binOp .eql 32 (.agg #[.int .i64 x, .int .u64 y, .int .i64 z]) (.agg #[.int .i64 x', .int .u64 y', .int .i64 z'])).run Try.prog w = .ok (.bool false) w := by
  simp [go_sem]
  exact fun h1 h2 h3 => h ⟨h1, h2, h3⟩
/-- What the second loop counts. -/
def sameP (x y : V) : Bool := decide (x.k = y.k ∧ x.b = y.b ∧ x.l = y.l)
structure Acc where
  bytes : Nat
  pieces : Nat
  bits : Int
def accR (B : RB) (off : Nat) : Nat → Acc
  | 0 => ⟨0, 0, 0⟩
  | k + 1 => ⟨if (rcell B (off + k)).k = 1 then (accR B off k).bytes + 1 else (accR B off k).bytes,
      if (rcell B (off + k)).k = 2 ∧ (rcell B (off + k)).i = k ∧ sameP (rcell B (off + k)).p (rcell B off).p = true then (accR B off k).pieces + 1 else (accR B off k).pieces,
      if (rcell B (off + k)).k = 1 then orS (accR B off k).bits (rcell B (off + k)).b k else (accR B off k).bits⟩
theorem accR_le (B : RB) (off : Nat) : ∀ k, (accR B off k).bytes ≤ k ∧ (accR B off k).pieces ≤ k
  | 0 => ⟨Nat.le_refl _, Nat.le_refl _⟩
  | k + 1 => by
    obtain ⟨h1, h2⟩ := accR_le B off k
    simp only [accR]
    refine ⟨?_, ?_⟩ <;> split <;> omega
def rloadB (B : RB) (chunk : Int) (off n : Nat) : V :=
  if chunk = 6 ∧ (accR B off n).pieces = 8 then (rcell B off).p else if (accR B off n).bytes < n then ⟨0, 0, 0⟩ else valOf chunk (accR B off n).bits
/-- What is loaded. -/
def rloadA (R : List RB) (chunk : Int) (a : V) : Option V :=
  match reachA R chunk a with
  | none => none
  | some (B, off) => some (rloadB B chunk off (sizeV chunk).toNat)

set_option maxRecDepth 100000 in
set_option maxHeartbeats 4000000 in
theorem rload_none {w : World} {base rm cap : Nat} {s : Value} {R : List RB} (h : RefS w base rm s cap R) (chunk k b l : Int) (hl : I64 l) (hf : reachA R chunk ⟨k, b, l⟩ = none) :
    Calls Try.prog 16 #[.pointer (some ⟨rm, 0, none⟩), .int .i64 chunk, .agg #[.int .i64 k, .int .u64 b, .int .i64 l]] w fun e w' => e = .returned (.tuple #[.agg #[.int .i64 0, .int .u64 0, .int .i64 0], .bool false]) ∧ Below w.heap.size w w' := by
  have HRC := Lib.hid (fun W (hb : Below w.heap.size w W) => reaches_any (h.next hb) chunk k b l hl)
  unfold reachV at HRC
  rw [hf] at HRC
  clear h hf
  have hA1 := cell_alloc_if
  have hA2 := frozen_alloc_if
  have hA3 := cell_set_if
  go_enter Try.func16, Try.ntmps16
  go_wp2_with (first
  | (go_at_call 34; (with_reducible refine (HRC.out _ (by (repeat' (first | (with_reducible exact Below.refl _ _) | (with_reducible assumption) | (with_reducible refine Below.setCell ?_ ?_ _) | (with_reducible refine Below.alloc ?_ ?_ _) | (with_reducible refine Below.drew ?_) | (with_reducible refine below_drewN ?_ _) | (with_reducible refine below_next ?_ (by with_reducible assumption)) | omega | (dsimp only; omega) | (simp only [World.size_alloc, World.size_setCell, World.size_drew, World.heap_drewN]; omega))))).mono ?_); rintro e wF ⟨rfl, hbF⟩; obtain ⟨hcF, hfF, hzF⟩ := cif hbF; (try simp only [World.size_alloc, World.size_setCell, World.size_drew, World.heap_drewN] at hzF))
  | (go_at_call 35; (with_reducible refine (HS.out _).mono ?_); rintro e w' ⟨rfl, rfl⟩))
  ((try simp only [Exit.inBlock, Exit.then]); go_light; refine bodyPost_ret (by simp [results, Try.results16, go_sem, *, ↓IntWalk.iteOmega]; try rfl) rfl ?_)
  exact ⟨rfl, by (repeat' (first | (with_reducible exact Below.refl _ _) | (with_reducible assumption) | (with_reducible refine Below.setCell ?_ ?_ _) | (with_reducible refine Below.alloc ?_ ?_ _) | (with_reducible refine Below.drew ?_) | (with_reducible refine below_drewN ?_ _) | (with_reducible refine below_next ?_ (by with_reducible assumption)) | omega | (dsimp only; omega) | (simp only [World.size_alloc, World.size_setCell, World.size_drew, World.heap_drewN]; omega)))⟩

/-- Behind m rounds of the first loop. -/
structure LoadL (w wr : World) (B : RB) (off m : Nat) (v : Value) (a : V) : Prop where
  row : wr.ownsRow (w.heap.size + 2) 78 6 v m (rowsR B off m)
  low : Below (w.heap.size + 2) ((w.alloc (.cells #[.int .i64 a.k, .int .u64 a.b, .int .i64 a.l] 32)).alloc (.cells #[.int .i64 0, .int .u64 0, .int .i64 0] 32)) wr
theorem LoadL.base {w wr : World} {B : RB} {off m : Nat} {v : Value} {a : V} (h : LoadL w wr B off m v a) : Below w.heap.size w wr :=
  ((((Below.refl _ _).alloc (Nat.le_refl _) _).alloc (by simp) _).trans (h.low.mono (by omega)))
theorem LoadL.box {w wr : World} {B : RB} {off m : Nat} {v : Value} {a : V} (h : LoadL w wr B off m v a) : wr.heap[w.heap.size]? = some (.cells #[.int .i64 a.k, .int .u64 a.b, .int .i64 a.l] 32 (0, 0)) ∧ wr.heap[w.heap.size + 1]? = some (.cells #[.int .i64 0, .int .u64 0, .int .i64 0] 32 (0, 0)) ∧ w.heap.size + 2 ≤ wr.heap.size := by
  have hsz := h.low.size
  simp at hsz
  refine ⟨?_, ?_, by omega⟩
  · rw [h.low.block _ (by omega), Below.heap_alloc _ _ _ (by simp)]; exact heap_alloc_new _ _
  · rw [h.low.block _ (by omega)]
    have h1 := fun o1 o2 => heap_alloc_new (w.alloc o1) o2
    simp only [World.size_alloc] at h1
    exact h1 _ _
set_option maxRecDepth 100000 in
set_option maxHeartbeats 16000000 in
theorem rload_yes {w : World} {base rm cap : Nat} {s : Value} {R : List RB} (h : RefS w base rm s cap R) (chunk k b l : Int) (hl : I64 l) (B : RB) (off : Nat) (hf : reachA R chunk ⟨k, b, l⟩ = some (B, off)) :
    Calls Try.prog 16 #[.pointer (some ⟨rm, 0, none⟩), .int .i64 chunk, .agg #[.int .i64 k, .int .u64 b, .int .i64 l]] w fun e w' => e = .returned (.tuple #[.agg #[.int .i64 (rloadB B chunk off (sizeV chunk).toNat).k, .int .u64 (rloadB B chunk off (sizeV chunk).toNat).b, .int .i64 (rloadB B chunk off (sizeV chunk).toNat).l], .bool true]) ∧ Below w.heap.size w w' := by
  have HRC := Lib.hid (fun W (hb : Below w.heap.size w W) => reaches_any (h.next hb) chunk k b l hl)
  unfold reachV at HRC
  rw [hf] at HRC
  obtain ⟨hk4, hbl, hn, ho1, ho2, ho3⟩ := reachA_some hf
  dsimp only at hk4 hbl ho1
  subst hk4
  obtain ⟨j, hj, hB, hlv, hjl⟩ := blkA_some hbl
  obtain ⟨g, c, rfl, hg0, hg, hc, hff⟩ := h.read hB
  have t0 : w.cell? ⟨rm, 0, none⟩ = some (.slice (some ⟨g, 0, none⟩) R.length c) := by rw [Lib.cell_of_heap h.top]; rfl
  have hrm := lt_of_block h.top
  have s1 := (hc 0 (by omega)).trans (RB.cells0 hlv)
  have s2 := (hc 1 (by omega)).trans (RB.cells1 hlv)
  have s3 := (hc 2 (by omega)).trans (RB.cells2 hlv)
  have s4 := (hc 3 (by omega)).trans (RB.cells3 _)
  have s5 := (hc 4 (by omega)).trans (RB.cells4 _)
  rw [Nat.add_zero] at s1
  rw [hlv] at s4
  have hR := h.len
  have hw : wrap64 (l - 1) = (j : Int) := by unfold wrap64; obtain ⟨l1, l2⟩ := hl; omega
  obtain ⟨q1, q2, q3, q4, q5, q6, q7, q8, q9⟩ := h.keys j B hB hlv
  have HAT := Lib.hid (h.at_ j B hB hlv)
  have HS := Lib.hid (rsz_any chunk)
  obtain ⟨n, hnn⟩ : ∃ n : Nat, sizeV chunk = n := ⟨(sizeV chunk).toNat, by omega⟩
  rw [hnn] at HS hn ho2 ho3 ⊢
  rw [Int.toNat_natCast]
  have HC := Lib.hid (fun m (hm : m < n) W (hb : Below w.heap.size w W) => cell_any B (HAT.out.next hb) (off + m) (by omega) q5 q6 q8)
  obtain ⟨ic, hic, hz0, hz1, hz2⟩ := info_parts cell_info
  have hj2 : (j : Int) < (R.length : Int) := by omega
  clear h hf hbl hB hc hff hj ho2 HAT q8 q9
  have hA1 := cell_alloc_if
  have hA2 := frozen_alloc_if
  have hA3 := cell_set_if
  go_enter Try.func16, Try.ntmps16
  go_wp2_with (first
  | (go_at_call 34; (with_reducible refine (HRC.out _ (by (repeat' (first | (with_reducible exact Below.refl _ _) | (with_reducible assumption) | (with_reducible refine Below.setCell ?_ ?_ _) | (with_reducible refine Below.alloc ?_ ?_ _) | (with_reducible refine Below.drew ?_) | (with_reducible refine below_drewN ?_ _) | (with_reducible refine below_next ?_ (by with_reducible assumption)) | omega | (dsimp only; omega) | (simp only [World.size_alloc, World.size_setCell, World.size_drew, World.heap_drewN]; omega))))).mono ?_); rintro e wF ⟨rfl, hbF⟩; obtain ⟨hcF, hfF, hzF⟩ := cif hbF; (try simp only [World.size_alloc, World.size_setCell, World.size_drew, World.heap_drewN] at hzF))
  | (go_at_call 35; (with_reducible refine (HS.out _).mono ?_); rintro e w' ⟨rfl, rfl⟩))
  have HL0 : Hid (LoadL w wF B off 0 (.slice none 0 0) ⟨4, b, l⟩) := Lib.hid ⟨World.ownsRow_nil _ _ _ _, hbF.mono (by simp)⟩
  clear HRC hbF hcF hfF
  go_loopw [11, 12] (fun v i wr => ∃ m : Nat, m ≤ n ∧ i = .int .i64 m ∧ Hid (LoadL w wr B off m v ⟨4, b, l⟩)) (fun _ i _ => n - (intOf i).toNat)
  case atStart => exact ⟨0, by omega, rfl, HL0⟩
  case round =>
    obtain ⟨m, hm, rfl, HL⟩ := hrel
    by_cases hlt : m < n
    · have HCM := Lib.hid (HC.out m hlt)
      rw [show ((off + m : Nat) : Int) = (off : Int) + m from by omega] at HCM
      obtain ⟨x, hx⟩ : ∃ x, rcell B (off + m) = x := ⟨_, rfl⟩
      rw [hx] at HCM
      obtain ⟨xk, xb, ⟨xpk, xpb, xpl⟩, xi⟩ := x
      dsimp only at HCM
      have HX := Lib.hid hx
      have hlow := HL.out.base
      obtain ⟨hb1, hb2, hb3⟩ := HL.out.box
      have y2 := (cells_of_block hb1).1 2
      simp at y2
      have HRW := Lib.hid (fun W (hb : Below wr.heap.size wr W) => row_keep (w' := W) HL.out.row (fun i hi => hb.block i (HL.out.row.lt i hi).2))
      have hcl := (cif hlow).1
      clear hx hb1 hb2
      go_upto_region 9 with (fail)
      refine wp_region_tail 13 (by intro c a d v w h; cases d <;> (simp [Exit.then, Exit.inBlock] at h ⊢; exact h)) (by kernel_rfl) (by kernel_rfl) (by kernel_rfl) (by kernel_rfl) ?_
      apply Exists.intro
      refine ⟨fun m hm => ?_, fun w' hw' => ?_⟩
      · simp only [List.map_cons, List.map_nil, List.take_succ_cons, List.take_zero, deAl]
        repeat (first | go_big_quiet_skip | (go_big_quiet_want; go_big_quiet_op; first | go_big_quiet_on | (apply Exists.intro; refine ⟨fun W hW => ?_, ?_⟩; (focus (first
          | fail
          | exact rfl | (obtain ⟨hcW, hfW, hzW⟩ := cif (Ext.of (Ext.past hm hW)); (try simp only [World.size_alloc, World.size_setCell, World.size_drew, World.heap_drewN] at hzW); simp [go_sem, *, ↓IntWalk.iteOmega]; (try exact rfl)))); go_big_quiet_on)))
        exact wpQuiet_nil rfl
      rw [show als _ 0 13 = [] from by kernel_rfl]
      simp only [gEnd, List.drop_succ_cons, List.drop_zero]
      have hbl := Ext.of hw'
      obtain ⟨hc, hf, hz⟩ := cif hbl
      (try simp only [World.size_alloc, World.size_setCell, World.size_drew, World.heap_drewN] at hz)
      clear hw'
      go_wp2_with (first
        | (go_at_call 36; (with_reducible refine (HCM.out _ (by (repeat' (first | (with_reducible exact Below.refl _ _) | (with_reducible assumption) | (with_reducible refine Below.setCell ?_ ?_ _) | (with_reducible refine Below.alloc ?_ ?_ _) | (with_reducible refine Below.drew ?_) | (with_reducible refine below_drewN ?_ _) | (with_reducible refine below_next ?_ (by with_reducible assumption)) | omega | (dsimp only; omega) | (simp only [World.size_alloc, World.size_setCell, World.size_drew, World.heap_drewN]; omega))))).mono ?_); rintro e wC ⟨rfl, hbC⟩; have hzC := hbC.size; (try simp only [World.size_alloc, World.size_setCell, World.size_drew, World.heap_drewN] at hzC))
        | (at_builtin; refine wpList_append_own _ rfl (.tmp 34) (.tmp 48) 76 rfl (w.heap.size + 2) 78 ic _ 6 48 Try.underlying76 hic hz0 hz1 hz2 rfl (by decide) _ _ _ rfl (HRW.out _ (by (repeat' (first | (with_reducible exact Below.refl _ _) | (with_reducible assumption) | (with_reducible refine Below.setCell ?_ ?_ _) | (with_reducible refine Below.alloc ?_ ?_ _) | (with_reducible refine Below.drew ?_) | (with_reducible refine below_drewN ?_ _) | (with_reducible refine below_next ?_ (by with_reducible assumption)) | omega | (dsimp only; omega) | (simp only [World.size_alloc, World.size_setCell, World.size_drew, World.heap_drewN]; omega))))) ⟨wC.heap.size, 0, none⟩ 1 1 _ rfl rfl (news_at wC xk xb xpk xpb xpl xi) (news_one _) (by unfold maxLen; omega) (by omega) (by have := hbC.size; simp; omega) ?_; intro v' w1 hown' hgrow _))
      refine ⟨⟨m + 1, by omega, by go_num, Lib.hid ⟨?_, ?_⟩⟩, by simp [intOf]; omega⟩
      · show w1.ownsRow _ _ _ _ _ (rowsR B off m ++ cellVals (rcell B (off + m)))
        rw [HX.out]
        exact hown'
      · refine (HL.out.low.trans ((show Below wr.heap.size wr (wC.alloc (.cells #[.int .i64 xk, .int .u8 xb, .int .i64 xpk, .int .u64 xpb, .int .i64 xpl, .int .i64 xi] 78)) by (repeat' (first | (with_reducible exact Below.refl _ _) | (with_reducible assumption) | (with_reducible refine Below.setCell ?_ ?_ _) | (with_reducible refine Below.alloc ?_ ?_ _) | (with_reducible refine Below.drew ?_) | (with_reducible refine below_drewN ?_ _) | (with_reducible refine below_next ?_ (by with_reducible assumption)) | omega | (dsimp only; omega) | (simp only [World.size_alloc, World.size_setCell, World.size_drew, World.heap_drewN]; omega)))).mono (by omega))).grown hgrow (by simp; omega) (fun q hq => (HL.out.row.lt q hq).1)
    · have hmn : m = n := by omega
      subst hmn
      have hlow := HL.out.base
      obtain ⟨hb1, hb2, hb3⟩ := HL.out.box
      have x0 := (cells_of_block hb2).1 0
      have x1 := (cells_of_block hb2).1 1
      have x2 := (cells_of_block hb2).1 2
      have xf := (cells_of_block hb2).2
      simp at x0 x1 x2
      obtain ⟨hrl, hr2⟩ := HL.out.row
      rcases hr2 with ⟨_, hr2⟩ | ⟨gg, cp, cur, rfl, hgg, hgb, hgc, hcm, hgs, hgt⟩
      · omega
      have hgl := lt_of_block hgb
      have hcell : ∀ i t : Nat, i < m → t < 6 → wr.cell? ⟨gg, i * 6 + t, none⟩ = (cellVals (rcell B (off + i)))[t]? := fun i t hi ht => by
        rw [Lib.cell_of_heap hgb, ← rowsR_at B off i t ht m hi, ← hgt, List.getElem?_take, if_pos (by omega)]
        simp
      have HCE := Lib.hid hcell
      clear hb1 hb2 hcell hgt hgb hgs hrl HC HL hgc
      go_wp2
      go_loopw [13, 14, 15, 16] (fun y p bt i wx => ∃ t : Nat, t ≤ m ∧ i = .int .i64 t ∧ y = .int .i64 (accR B off t).bytes ∧ p = .int .i64 (accR B off t).pieces ∧ bt = .int .u64 (accR B off t).bits ∧ Hid (Below wr.heap.size wr wx)) (fun _ _ _ i _ => m - (intOf i).toNat)
      case atStart => exact ⟨0, by omega, rfl, rfl, rfl, rfl, Lib.hid (Below.refl _ _)⟩
      case round =>
        obtain ⟨t, ht, rfl, rfl, rfl, rfl, HB⟩ := hrel
        rename_i wx
        have hbw := HB.out
        by_cases hlt : t < m
        · obtain ⟨x, hx⟩ : ∃ x, rcell B (off + t) = x := ⟨_, rfl⟩
          obtain ⟨z, hz⟩ : ∃ z, rcell B off = z := ⟨_, rfl⟩
          have k0 := (hbw.cell (p := ⟨gg, t * 6 + 0, none⟩) hgl).trans (HCE.out t 0 hlt (by omega))
          have k1 := (hbw.cell (p := ⟨gg, t * 6 + 1, none⟩) hgl).trans (HCE.out t 1 hlt (by omega))
          have k2 := (hbw.cell (p := ⟨gg, t * 6 + 2, none⟩) hgl).trans (HCE.out t 2 hlt (by omega))
          have k3 := (hbw.cell (p := ⟨gg, t * 6 + 3, none⟩) hgl).trans (HCE.out t 3 hlt (by omega))
          have k4 := (hbw.cell (p := ⟨gg, t * 6 + 4, none⟩) hgl).trans (HCE.out t 4 hlt (by omega))
          have k5 := (hbw.cell (p := ⟨gg, t * 6 + 5, none⟩) hgl).trans (HCE.out t 5 hlt (by omega))
          have z2 := (hbw.cell (p := ⟨gg, 0 * 6 + 2, none⟩) hgl).trans (HCE.out 0 2 (by omega) (by omega))
          have z3 := (hbw.cell (p := ⟨gg, 0 * 6 + 3, none⟩) hgl).trans (HCE.out 0 3 (by omega) (by omega))
          have z4 := (hbw.cell (p := ⟨gg, 0 * 6 + 4, none⟩) hgl).trans (HCE.out 0 4 (by omega) (by omega))
          rw [hx] at k0 k1 k2 k3 k4 k5
          rw [show rcell B (off + 0) = rcell B off from rfl, hz] at z2 z3 z4
          obtain ⟨a, ha⟩ : ∃ a, accR B off t = a := ⟨_, rfl⟩
          have hle := accR_le B off t
          have HST := Lib.hid (show accR B off (t + 1) = _ from by rw [accR, hx, hz, ha])
          rw [ha] at hle ⊢
          obtain ⟨yb, yp, ybt⟩ := a
          obtain ⟨xk, xb, ⟨xpk, xpb, xpl⟩, xi⟩ := x
          obtain ⟨zk, zb, ⟨zpk, zpb, zpl⟩, zi⟩ := z
          simp [cellVals] at k0 k1 k2 k3 k4 k5 z2 z3 z4
          dsimp only at hle HST ⊢
          have hwz := hbw.size
          clear hx hz ha
          by_cases c1 : xk = 1
          · subst c1
            go_wp2
            refine wp_region_ext (by kernel_rfl) (by kernel_rfl) ?_
            repeat (first | go_big_quiet_skip | (go_big_quiet_want; go_big_quiet_op; first | go_big_quiet_on | (apply Exists.intro; refine ⟨fun W hW => ?_, ?_⟩; (focus (first
              | fail
              | exact rfl | (obtain ⟨hcW, hfW, hzW⟩ := cif (Ext.of hW); (try simp only [World.size_alloc, World.size_setCell, World.size_drew, World.heap_drewN] at hzW); simp [go_sem, *, ↓IntWalk.iteOmega]; (try exact rfl)))); go_big_quiet_on)))
            refine wpQuiet_nil ?_
            intro w' hw'
            have hbl := Ext.of hw'
            obtain ⟨hc, hf, hz⟩ := cif hbl
            (try simp only [World.size_alloc, World.size_setCell, World.size_drew, World.heap_drewN] at hz)
            clear hw'
            go_wp2
            refine ⟨⟨t + 1, by omega, by go_num, ?_, ?_, ?_, Lib.hid (by (repeat' (first | (with_reducible exact Below.refl _ _) | (with_reducible assumption) | (with_reducible refine Below.setCell ?_ ?_ _) | (with_reducible refine Below.alloc ?_ ?_ _) | (with_reducible refine Below.drew ?_) | (with_reducible refine below_drewN ?_ _) | (with_reducible refine below_next ?_ (by with_reducible assumption)) | omega | (dsimp only; omega) | (simp only [World.size_alloc, World.size_setCell, World.size_drew, World.heap_drewN]; omega))))⟩, by simp [intOf]; omega⟩
            all_goals (rw [HST.out]; simp [*, sameP]; (try rfl))
          · have d1 : (xk == 1) = false := by simpa using c1
            by_cases c2 : xk = 2
            · subst c2
              by_cases c3 : xi = t
              · subst c3
                by_cases c4 : xpk = zpk ∧ xpb = zpb ∧ xpl = zpl
                · obtain ⟨rfl, rfl, rfl⟩ := c4
                  go_wp2
                  refine wp_region_ext (by kernel_rfl) (by kernel_rfl) ?_
                  repeat (first | go_big_quiet_skip | (go_big_quiet_want; go_big_quiet_op; first | go_big_quiet_on | (apply Exists.intro; refine ⟨fun W hW => ?_, ?_⟩; (focus (first
                    | fail
                    | exact rfl | (obtain ⟨hcW, hfW, hzW⟩ := cif (Ext.of hW); (try simp only [World.size_alloc, World.size_setCell, World.size_drew, World.heap_drewN] at hzW); simp [go_sem, *, ↓IntWalk.iteOmega]; (try exact rfl)))); go_big_quiet_on)))
                  refine wpQuiet_nil ?_
                  intro w' hw'
                  have hbl := Ext.of hw'
                  obtain ⟨hc, hf, hz⟩ := cif hbl
                  (try simp only [World.size_alloc, World.size_setCell, World.size_drew, World.heap_drewN] at hz)
                  clear hw'
                  go_wp2
                  refine ⟨⟨t + 1, by omega, by go_num, ?_, ?_, ?_, Lib.hid (by (repeat' (first | (with_reducible exact Below.refl _ _) | (with_reducible assumption) | (with_reducible refine Below.setCell ?_ ?_ _) | (with_reducible refine Below.alloc ?_ ?_ _) | (with_reducible refine Below.drew ?_) | (with_reducible refine below_drewN ?_ _) | (with_reducible refine below_next ?_ (by with_reducible assumption)) | omega | (dsimp only; omega) | (simp only [World.size_alloc, World.size_setCell, World.size_drew, World.heap_drewN]; omega))))⟩, by simp [intOf]; omega⟩
                  all_goals (rw [HST.out]; simp [*, sameP]; (try rfl))
                · have heq := eqlV_no xpk xpb xpl zpk zpb zpl c4
                  have hsm : sameP ⟨xpk, xpb, xpl⟩ ⟨zpk, zpb, zpl⟩ = false := by unfold sameP; simpa using c4
                  rw [hsm] at HST
                  clear hsm c4
                  go_wp2
                  refine wp_region_ext (by kernel_rfl) (by kernel_rfl) ?_
                  repeat (first | go_big_quiet_skip | (go_big_quiet_want; go_big_quiet_op; first | go_big_quiet_on | (apply Exists.intro; refine ⟨fun W hW => ?_, ?_⟩; (focus (first
                    | fail
                    | exact rfl | (obtain ⟨hcW, hfW, hzW⟩ := cif (Ext.of hW); (try simp only [World.size_alloc, World.size_setCell, World.size_drew, World.heap_drewN] at hzW); simp [go_sem, *, ↓IntWalk.iteOmega]; (try exact rfl)))); go_big_quiet_on)))
                  refine wpQuiet_nil ?_
                  intro w' hw'
                  have hbl := Ext.of hw'
                  obtain ⟨hc, hf, hz⟩ := cif hbl
                  (try simp only [World.size_alloc, World.size_setCell, World.size_drew, World.heap_drewN] at hz)
                  clear hw'
                  go_wp2
                  refine ⟨⟨t + 1, by omega, by go_num, ?_, ?_, ?_, Lib.hid (by (repeat' (first | (with_reducible exact Below.refl _ _) | (with_reducible assumption) | (with_reducible refine Below.setCell ?_ ?_ _) | (with_reducible refine Below.alloc ?_ ?_ _) | (with_reducible refine Below.drew ?_) | (with_reducible refine below_drewN ?_ _) | (with_reducible refine below_next ?_ (by with_reducible assumption)) | omega | (dsimp only; omega) | (simp only [World.size_alloc, World.size_setCell, World.size_drew, World.heap_drewN]; omega))))⟩, by simp [intOf]; omega⟩
                  all_goals (rw [HST.out]; simp [*, sameP]; (try rfl))
              · have d3 : (xi == (t : Int)) = false := by simpa using c3
                go_wp2
                refine wp_region_ext (by kernel_rfl) (by kernel_rfl) ?_
                repeat (first | go_big_quiet_skip | (go_big_quiet_want; go_big_quiet_op; first | go_big_quiet_on | (apply Exists.intro; refine ⟨fun W hW => ?_, ?_⟩; (focus (first
                  | fail
                  | exact rfl | (obtain ⟨hcW, hfW, hzW⟩ := cif (Ext.of hW); (try simp only [World.size_alloc, World.size_setCell, World.size_drew, World.heap_drewN] at hzW); simp [go_sem, *, ↓IntWalk.iteOmega]; (try exact rfl)))); go_big_quiet_on)))
                refine wpQuiet_nil ?_
                intro w' hw'
                have hbl := Ext.of hw'
                obtain ⟨hc, hf, hz⟩ := cif hbl
                (try simp only [World.size_alloc, World.size_setCell, World.size_drew, World.heap_drewN] at hz)
                clear hw'
                go_wp2
                refine ⟨⟨t + 1, by omega, by go_num, ?_, ?_, ?_, Lib.hid (by (repeat' (first | (with_reducible exact Below.refl _ _) | (with_reducible assumption) | (with_reducible refine Below.setCell ?_ ?_ _) | (with_reducible refine Below.alloc ?_ ?_ _) | (with_reducible refine Below.drew ?_) | (with_reducible refine below_drewN ?_ _) | (with_reducible refine below_next ?_ (by with_reducible assumption)) | omega | (dsimp only; omega) | (simp only [World.size_alloc, World.size_setCell, World.size_drew, World.heap_drewN]; omega))))⟩, by simp [intOf]; omega⟩
                all_goals (rw [HST.out]; simp [*, sameP]; (try rfl))
            · have d2 : (xk == 2) = false := by simpa using c2
              go_wp2
              refine wp_region_ext (by kernel_rfl) (by kernel_rfl) ?_
              repeat (first | go_big_quiet_skip | (go_big_quiet_want; go_big_quiet_op; first | go_big_quiet_on | (apply Exists.intro; refine ⟨fun W hW => ?_, ?_⟩; (focus (first
                | fail
                | exact rfl | (obtain ⟨hcW, hfW, hzW⟩ := cif (Ext.of hW); (try simp only [World.size_alloc, World.size_setCell, World.size_drew, World.heap_drewN] at hzW); simp [go_sem, *, ↓IntWalk.iteOmega]; (try exact rfl)))); go_big_quiet_on)))
              refine wpQuiet_nil ?_
              intro w' hw'
              have hbl := Ext.of hw'
              obtain ⟨hc, hf, hz⟩ := cif hbl
              (try simp only [World.size_alloc, World.size_setCell, World.size_drew, World.heap_drewN] at hz)
              clear hw'
              go_wp2
              refine ⟨⟨t + 1, by omega, by go_num, ?_, ?_, ?_, Lib.hid (by (repeat' (first | (with_reducible exact Below.refl _ _) | (with_reducible assumption) | (with_reducible refine Below.setCell ?_ ?_ _) | (with_reducible refine Below.alloc ?_ ?_ _) | (with_reducible refine Below.drew ?_) | (with_reducible refine below_drewN ?_ _) | (with_reducible refine below_next ?_ (by with_reducible assumption)) | omega | (dsimp only; omega) | (simp only [World.size_alloc, World.size_setCell, World.size_drew, World.heap_drewN]; omega))))⟩, by simp [intOf]; omega⟩
              all_goals (rw [HST.out]; simp [*, sameP]; (try rfl))
        · have htm : t = m := by omega
          subst htm
          have z2 := (hbw.cell (p := ⟨gg, 0 * 6 + 2, none⟩) hgl).trans (HCE.out 0 2 (by omega) (by omega))
          have z3 := (hbw.cell (p := ⟨gg, 0 * 6 + 3, none⟩) hgl).trans (HCE.out 0 3 (by omega) (by omega))
          have z4 := (hbw.cell (p := ⟨gg, 0 * 6 + 4, none⟩) hgl).trans (HCE.out 0 4 (by omega) (by omega))
          rw [show rcell B (off + 0) = rcell B off from rfl] at z2 z3 z4
          have hle := accR_le B off t
          have hwz := hbw.size
          obtain ⟨v, hv⟩ : ∃ v, rloadB B chunk off t = v := ⟨_, rfl⟩
          have hv' := hv
          have HV := Lib.hid hv
          unfold rloadB at hv'
          generalize accR B off t = a at *
          generalize rcell B off = z at *
          obtain ⟨yb, yp, ybt⟩ := a
          obtain ⟨zk, zb, ⟨zpk, zpb, zpl⟩, zi⟩ := z
          simp [cellVals] at z2 z3 z4
          dsimp only at hle hv' ⊢
          have x0 := (hbw.cell (p := ⟨w.heap.size + 1, 0, none⟩) (by dsimp only; omega)).trans x0
          have x1 := (hbw.cell (p := ⟨w.heap.size + 1, 1, none⟩) (by dsimp only; omega)).trans x1
          have x2 := (hbw.cell (p := ⟨w.heap.size + 1, 2, none⟩) (by dsimp only; omega)).trans x2
          have xf := fun o => (hbw.frozen (p := ⟨w.heap.size + 1, o, none⟩) (by dsimp only; omega)).trans (xf o)
          clear hv HB HCE
          have hcs : chunk = 1 ∨ chunk = 2 ∨ chunk = 3 ∨ chunk = 4 ∨ chunk = 5 ∨ chunk = 6 ∨ chunk = 7 := by unfold sizeV at hnn; grind
          clear hnn
          by_cases c8 : chunk = 6 ∧ yp = 8
          · obtain ⟨rfl, rfl⟩ := c8
            rw [if_pos ⟨rfl, rfl⟩] at hv'
            subst hv'
            go_wp2_with (first
              | (go_at_call 37; (with_reducible refine (ref_int_any _ _).mono ?_); rintro e w' ⟨rfl, hbl⟩; obtain ⟨hc, hf, hz⟩ := cif hbl; (try simp only [World.size_alloc, World.size_setCell, World.size_drew, World.heap_drewN] at hz))
              | (go_at_call 38; (with_reducible refine (ref_long_any _ _).mono ?_); rintro e w' ⟨rfl, hbl⟩; obtain ⟨hc, hf, hz⟩ := cif hbl; (try simp only [World.size_alloc, World.size_setCell, World.size_drew, World.heap_drewN] at hz)))
            ((try simp only [Exit.inBlock, Exit.then]); go_light; refine bodyPost_ret (by simp [results, Try.results16, go_sem, *, ↓IntWalk.iteOmega]; try rfl) rfl ?_)
            refine ⟨?_, by (repeat' (first | (with_reducible exact Below.refl _ _) | (with_reducible assumption) | (with_reducible refine Below.setCell ?_ ?_ _) | (with_reducible refine Below.alloc ?_ ?_ _) | (with_reducible refine Below.drew ?_) | (with_reducible refine below_drewN ?_ _) | (with_reducible refine below_next ?_ (by with_reducible assumption)) | omega | (dsimp only; omega) | (simp only [World.size_alloc, World.size_setCell, World.size_drew, World.heap_drewN]; omega)))⟩
            rw [HV.out]
            try rfl
          · rw [if_neg c8] at hv'
            by_cases cb : yb < t
            · have db : decide ((yb : Int) < (t : Int)) = true := by simp; omega
              rw [if_pos cb] at hv'
              subst hv'
              by_cases c6 : chunk = 6
              · subst c6
                have d8 : ((yp : Int) == 8) = false := by simp; omega
                clear c8
                go_wp2_with (first
                  | (go_at_call 37; (with_reducible refine (ref_int_any _ _).mono ?_); rintro e w' ⟨rfl, hbl⟩; obtain ⟨hc, hf, hz⟩ := cif hbl; (try simp only [World.size_alloc, World.size_setCell, World.size_drew, World.heap_drewN] at hz))
                  | (go_at_call 38; (with_reducible refine (ref_long_any _ _).mono ?_); rintro e w' ⟨rfl, hbl⟩; obtain ⟨hc, hf, hz⟩ := cif hbl; (try simp only [World.size_alloc, World.size_setCell, World.size_drew, World.heap_drewN] at hz)))
                ((try simp only [Exit.inBlock, Exit.then]); go_light; refine bodyPost_ret (by simp [results, Try.results16, go_sem, *, ↓IntWalk.iteOmega]; try rfl) rfl ?_)
                refine ⟨?_, by (repeat' (first | (with_reducible exact Below.refl _ _) | (with_reducible assumption) | (with_reducible refine Below.setCell ?_ ?_ _) | (with_reducible refine Below.alloc ?_ ?_ _) | (with_reducible refine Below.drew ?_) | (with_reducible refine below_drewN ?_ _) | (with_reducible refine below_next ?_ (by with_reducible assumption)) | omega | (dsimp only; omega) | (simp only [World.size_alloc, World.size_setCell, World.size_drew, World.heap_drewN]; omega)))⟩
                rw [HV.out]
                try rfl
              · have d6 : (chunk == 6) = false := by simpa using c6
                clear c8 hcs
                go_wp2_with (first
                  | (go_at_call 37; (with_reducible refine (ref_int_any _ _).mono ?_); rintro e w' ⟨rfl, hbl⟩; obtain ⟨hc, hf, hz⟩ := cif hbl; (try simp only [World.size_alloc, World.size_setCell, World.size_drew, World.heap_drewN] at hz))
                  | (go_at_call 38; (with_reducible refine (ref_long_any _ _).mono ?_); rintro e w' ⟨rfl, hbl⟩; obtain ⟨hc, hf, hz⟩ := cif hbl; (try simp only [World.size_alloc, World.size_setCell, World.size_drew, World.heap_drewN] at hz)))
                ((try simp only [Exit.inBlock, Exit.then]); go_light; refine bodyPost_ret (by simp [results, Try.results16, go_sem, *, ↓IntWalk.iteOmega]; try rfl) rfl ?_)
                refine ⟨?_, by (repeat' (first | (with_reducible exact Below.refl _ _) | (with_reducible assumption) | (with_reducible refine Below.setCell ?_ ?_ _) | (with_reducible refine Below.alloc ?_ ?_ _) | (with_reducible refine Below.drew ?_) | (with_reducible refine below_drewN ?_ _) | (with_reducible refine below_next ?_ (by with_reducible assumption)) | omega | (dsimp only; omega) | (simp only [World.size_alloc, World.size_setCell, World.size_drew, World.heap_drewN]; omega)))⟩
                rw [HV.out]
                try rfl
            · have db : decide ((yb : Int) < (t : Int)) = false := by simp; omega
              rw [if_neg cb] at hv'
              rcases hcs with rfl | rfl | rfl | rfl | rfl | rfl | rfl
              · subst hv'; clear c8; (go_wp2_with (first
  | (go_at_call 37; (with_reducible refine (ref_int_any _ _).mono ?_); rintro e w' ⟨rfl, hbl⟩; obtain ⟨hc, hf, hz⟩ := cif hbl; (try simp only [World.size_alloc, World.size_setCell, World.size_drew, World.heap_drewN] at hz))
  | (go_at_call 38; (with_reducible refine (ref_long_any _ _).mono ?_); rintro e w' ⟨rfl, hbl⟩; obtain ⟨hc, hf, hz⟩ := cif hbl; (try simp only [World.size_alloc, World.size_setCell, World.size_drew, World.heap_drewN] at hz))); ((try simp only [Exit.inBlock, Exit.then]); go_light; refine bodyPost_ret (by simp [results, Try.results16, go_sem, *, ↓IntWalk.iteOmega]; try rfl) rfl ?_); refine ⟨?_, by (repeat' (first | (with_reducible exact Below.refl _ _) | (with_reducible assumption) | (with_reducible refine Below.setCell ?_ ?_ _) | (with_reducible refine Below.alloc ?_ ?_ _) | (with_reducible refine Below.drew ?_) | (with_reducible refine below_drewN ?_ _) | (with_reducible refine below_next ?_ (by with_reducible assumption)) | omega | (dsimp only; omega) | (simp only [World.size_alloc, World.size_setCell, World.size_drew, World.heap_drewN]; omega)))⟩; rw [HV.out]; first | rfl | (simp [valOf]; done) | (simp [valOf, IntKind.wrap_u32]; done))
              · subst hv'; clear c8; (go_wp2_with (first
  | (go_at_call 37; (with_reducible refine (ref_int_any _ _).mono ?_); rintro e w' ⟨rfl, hbl⟩; obtain ⟨hc, hf, hz⟩ := cif hbl; (try simp only [World.size_alloc, World.size_setCell, World.size_drew, World.heap_drewN] at hz))
  | (go_at_call 38; (with_reducible refine (ref_long_any _ _).mono ?_); rintro e w' ⟨rfl, hbl⟩; obtain ⟨hc, hf, hz⟩ := cif hbl; (try simp only [World.size_alloc, World.size_setCell, World.size_drew, World.heap_drewN] at hz))); ((try simp only [Exit.inBlock, Exit.then]); go_light; refine bodyPost_ret (by simp [results, Try.results16, go_sem, *, ↓IntWalk.iteOmega]; try rfl) rfl ?_); refine ⟨?_, by (repeat' (first | (with_reducible exact Below.refl _ _) | (with_reducible assumption) | (with_reducible refine Below.setCell ?_ ?_ _) | (with_reducible refine Below.alloc ?_ ?_ _) | (with_reducible refine Below.drew ?_) | (with_reducible refine below_drewN ?_ _) | (with_reducible refine below_next ?_ (by with_reducible assumption)) | omega | (dsimp only; omega) | (simp only [World.size_alloc, World.size_setCell, World.size_drew, World.heap_drewN]; omega)))⟩; rw [HV.out]; first | rfl | (simp [valOf]; done) | (simp [valOf, IntKind.wrap_u32]; done))
              · subst hv'; clear c8; (go_wp2_with (first
  | (go_at_call 37; (with_reducible refine (ref_int_any _ _).mono ?_); rintro e w' ⟨rfl, hbl⟩; obtain ⟨hc, hf, hz⟩ := cif hbl; (try simp only [World.size_alloc, World.size_setCell, World.size_drew, World.heap_drewN] at hz))
  | (go_at_call 38; (with_reducible refine (ref_long_any _ _).mono ?_); rintro e w' ⟨rfl, hbl⟩; obtain ⟨hc, hf, hz⟩ := cif hbl; (try simp only [World.size_alloc, World.size_setCell, World.size_drew, World.heap_drewN] at hz))); ((try simp only [Exit.inBlock, Exit.then]); go_light; refine bodyPost_ret (by simp [results, Try.results16, go_sem, *, ↓IntWalk.iteOmega]; try rfl) rfl ?_); refine ⟨?_, by (repeat' (first | (with_reducible exact Below.refl _ _) | (with_reducible assumption) | (with_reducible refine Below.setCell ?_ ?_ _) | (with_reducible refine Below.alloc ?_ ?_ _) | (with_reducible refine Below.drew ?_) | (with_reducible refine below_drewN ?_ _) | (with_reducible refine below_next ?_ (by with_reducible assumption)) | omega | (dsimp only; omega) | (simp only [World.size_alloc, World.size_setCell, World.size_drew, World.heap_drewN]; omega)))⟩; rw [HV.out]; first | rfl | (simp [valOf]; done) | (simp [valOf, IntKind.wrap_u32]; done))
              · subst hv'; clear c8; (go_wp2_with (first
  | (go_at_call 37; (with_reducible refine (ref_int_any _ _).mono ?_); rintro e w' ⟨rfl, hbl⟩; obtain ⟨hc, hf, hz⟩ := cif hbl; (try simp only [World.size_alloc, World.size_setCell, World.size_drew, World.heap_drewN] at hz))
  | (go_at_call 38; (with_reducible refine (ref_long_any _ _).mono ?_); rintro e w' ⟨rfl, hbl⟩; obtain ⟨hc, hf, hz⟩ := cif hbl; (try simp only [World.size_alloc, World.size_setCell, World.size_drew, World.heap_drewN] at hz))); ((try simp only [Exit.inBlock, Exit.then]); go_light; refine bodyPost_ret (by simp [results, Try.results16, go_sem, *, ↓IntWalk.iteOmega]; try rfl) rfl ?_); refine ⟨?_, by (repeat' (first | (with_reducible exact Below.refl _ _) | (with_reducible assumption) | (with_reducible refine Below.setCell ?_ ?_ _) | (with_reducible refine Below.alloc ?_ ?_ _) | (with_reducible refine Below.drew ?_) | (with_reducible refine below_drewN ?_ _) | (with_reducible refine below_next ?_ (by with_reducible assumption)) | omega | (dsimp only; omega) | (simp only [World.size_alloc, World.size_setCell, World.size_drew, World.heap_drewN]; omega)))⟩; rw [HV.out]; first | rfl | (simp [valOf]; done) | (simp [valOf, IntKind.wrap_u32]; done))
              · subst hv'; clear c8; (go_wp2_with (first
  | (go_at_call 37; (with_reducible refine (ref_int_any _ _).mono ?_); rintro e w' ⟨rfl, hbl⟩; obtain ⟨hc, hf, hz⟩ := cif hbl; (try simp only [World.size_alloc, World.size_setCell, World.size_drew, World.heap_drewN] at hz))
  | (go_at_call 38; (with_reducible refine (ref_long_any _ _).mono ?_); rintro e w' ⟨rfl, hbl⟩; obtain ⟨hc, hf, hz⟩ := cif hbl; (try simp only [World.size_alloc, World.size_setCell, World.size_drew, World.heap_drewN] at hz))); ((try simp only [Exit.inBlock, Exit.then]); go_light; refine bodyPost_ret (by simp [results, Try.results16, go_sem, *, ↓IntWalk.iteOmega]; try rfl) rfl ?_); refine ⟨?_, by (repeat' (first | (with_reducible exact Below.refl _ _) | (with_reducible assumption) | (with_reducible refine Below.setCell ?_ ?_ _) | (with_reducible refine Below.alloc ?_ ?_ _) | (with_reducible refine Below.drew ?_) | (with_reducible refine below_drewN ?_ _) | (with_reducible refine below_next ?_ (by with_reducible assumption)) | omega | (dsimp only; omega) | (simp only [World.size_alloc, World.size_setCell, World.size_drew, World.heap_drewN]; omega)))⟩; rw [HV.out]; first | rfl | (simp [valOf]; done) | (simp [valOf, IntKind.wrap_u32]; done))
              · have d8 : ((yp : Int) == 8) = false := by simp; omega
                subst hv'; clear c8; (go_wp2_with (first
  | (go_at_call 37; (with_reducible refine (ref_int_any _ _).mono ?_); rintro e w' ⟨rfl, hbl⟩; obtain ⟨hc, hf, hz⟩ := cif hbl; (try simp only [World.size_alloc, World.size_setCell, World.size_drew, World.heap_drewN] at hz))
  | (go_at_call 38; (with_reducible refine (ref_long_any _ _).mono ?_); rintro e w' ⟨rfl, hbl⟩; obtain ⟨hc, hf, hz⟩ := cif hbl; (try simp only [World.size_alloc, World.size_setCell, World.size_drew, World.heap_drewN] at hz))); ((try simp only [Exit.inBlock, Exit.then]); go_light; refine bodyPost_ret (by simp [results, Try.results16, go_sem, *, ↓IntWalk.iteOmega]; try rfl) rfl ?_); refine ⟨?_, by (repeat' (first | (with_reducible exact Below.refl _ _) | (with_reducible assumption) | (with_reducible refine Below.setCell ?_ ?_ _) | (with_reducible refine Below.alloc ?_ ?_ _) | (with_reducible refine Below.drew ?_) | (with_reducible refine below_drewN ?_ _) | (with_reducible refine below_next ?_ (by with_reducible assumption)) | omega | (dsimp only; omega) | (simp only [World.size_alloc, World.size_setCell, World.size_drew, World.heap_drewN]; omega)))⟩; rw [HV.out]; first | rfl | (simp [valOf]; done) | (simp [valOf, IntKind.wrap_u32]; done))
              · subst hv'; clear c8; (go_wp2_with (first
  | (go_at_call 37; (with_reducible refine (ref_int_any _ _).mono ?_); rintro e w' ⟨rfl, hbl⟩; obtain ⟨hc, hf, hz⟩ := cif hbl; (try simp only [World.size_alloc, World.size_setCell, World.size_drew, World.heap_drewN] at hz))
  | (go_at_call 38; (with_reducible refine (ref_long_any _ _).mono ?_); rintro e w' ⟨rfl, hbl⟩; obtain ⟨hc, hf, hz⟩ := cif hbl; (try simp only [World.size_alloc, World.size_setCell, World.size_drew, World.heap_drewN] at hz))); ((try simp only [Exit.inBlock, Exit.then]); go_light; refine bodyPost_ret (by simp [results, Try.results16, go_sem, *, ↓IntWalk.iteOmega]; try rfl) rfl ?_); refine ⟨?_, by (repeat' (first | (with_reducible exact Below.refl _ _) | (with_reducible assumption) | (with_reducible refine Below.setCell ?_ ?_ _) | (with_reducible refine Below.alloc ?_ ?_ _) | (with_reducible refine Below.drew ?_) | (with_reducible refine below_drewN ?_ _) | (with_reducible refine below_next ?_ (by with_reducible assumption)) | omega | (dsimp only; omega) | (simp only [World.size_alloc, World.size_setCell, World.size_drew, World.heap_drewN]; omega)))⟩; rw [HV.out]; first | rfl | (simp [valOf]; done) | (simp [valOf, IntKind.wrap_u32]; done))

end Go.Proofs.Ytddipbpllogbaaa
