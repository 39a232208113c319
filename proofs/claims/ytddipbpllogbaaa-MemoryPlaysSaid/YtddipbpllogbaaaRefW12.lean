/-
  The reference's memory: Store, where it is done.
-/
import Derived.Test.YtddipbpllogbaaaRefW11
namespace Go.Proofs.Ytddipbpllogbaaa
open Go.RowKit
set_option linter.unusedVariables false
set_option linter.unusedSimpArgs false

theorem takes_put (B : RB) (off : Nat) (v : V) (k : Nat) (R : List RB) (j : Nat) (hj : j < R.length) : ((R.set j (putRN B off v k)).set j (putRN B off v (k + 1))) = R.set j (putRN B off v (k + 1)) := by rw [List.set_set]

theorem set_self {R : List RB} {j : Nat} {B : RB} (h : R[j]? = some B) : R.set j B = R := by
  apply List.ext_getElem?
  intro i
  rw [List.getElem?_set]
  split
  · rename_i hji
    subst hji
    have : j < R.length := by
      rcases Nat.lt_or_ge j R.length with h1 | h1
      · exact h1
      · rw [List.getElem?_eq_none h1] at h; cases h
    rw [if_pos this, h]
  · rfl
/-- Behind k sets. -/
structure StoreL (w wr : World) (base rm : Nat) (s : Value) (R : List RB) (cap j : Nat) (B : RB) (off : Nat) (a v : V) (k : Nat) : Prop where
  left : RefLeft w wr base rm s R (cap + 1) s (R.set j (putRN B off v k))
  b1 : wr.heap[w.heap.size]? = some (.cells #[.int .i64 a.k, .int .u64 a.b, .int .i64 a.l] 32 (0, 0))
  b2 : wr.heap[w.heap.size + 1]? = some (.cells #[.int .i64 v.k, .int .u64 v.b, .int .i64 v.l] 32 (0, 0))
  low : w.heap.size + 2 ≤ wr.heap.size
theorem StoreL.next {w wr W W' : World} {base rm : Nat} {s : Value} {R : List RB} {cap j : Nat} {B : RB} {off : Nat} {a v : V} {k : Nat} (h : StoreL w wr base rm s R cap j B off a v k) (hlt : ∀ i, OwnR rm s R i → i < w.heap.size) (hj : j < R.length) (hB : R[j]? = some B) (hl : B.live = true)
    (hb : Below wr.heap.size wr W) (hp : RPut W W' base (putRN B off v k) (rput (putRN B off v k) (off + k) (cellOf v k))) (hrg : (∀ x ∈ B.kinds, 0 ≤ x ∧ x < 3) ∧ ∀ x ∈ B.bytes, 0 ≤ x ∧ x < 256) (hnp : B.np + k + 1 ≤ 16 * (cap + 1)) (hcap : cap + 1 < 288230376151711744) :
    StoreL w W' base rm s R cap j B off a v (k + 1) := by
  have hm : RefS W base rm s (cap + 1) (R.set j (putRN B off v k)) := h.left.mem.next hb
  have hjB : (R.set j (putRN B off v k))[j]? = some (putRN B off v k) := List.getElem?_set_self hj
  obtain ⟨e1, e2, e3, e4, e5, e6, e7, e8⟩ := putRN_same B off v k
  obtain ⟨f1, f2, f3, f4, f5, f6, f7, f8⟩ := putRN_same B off v (k + 1)
  have hput := hm.putB (c := cap + 1) hjB (by rw [e4]; exact hl) hp (B' := putRN B off v (k + 1)) ⟨by rw [e1, f1], by rw [e2, f2], by rw [e3, f3], by rw [f4]; exact hl, by rw [e5, f5], by rw [e6, f6], by rw [e7, f7]⟩ (putRN_range B off v hrg (k + 1)) (by rw [f8]; omega) ⟨Nat.le_refl _, hcap⟩
  rw [List.set_set] at hput
  have hWl : RefLeft wr W base rm s (R.set j (putRN B off v k)) (cap + 1) s (R.set j (putRN B off v k)) := h.left.mem.left hb
  have hsz := hb.size
  have hlow := h.low
  have hlB := hl
  have hkeep : ∀ i, i = w.heap.size ∨ i = w.heap.size + 1 → W'.heap[i]? = wr.heap[i]? := fun i hi => by
    have hB' : OwnR rm s R B.g ∧ OwnR rm s R B.b ∧ OwnR rm s R B.p := ⟨.inr (.inr ⟨j, B, hB, hl, .inl rfl⟩), .inr (.inr ⟨j, B, hB, hl, .inr (.inl rfl)⟩), .inr (.inr ⟨j, B, hB, hl, .inr (.inr rfl)⟩)⟩
    have l1 := hlt _ hB'.1
    have l2 := hlt _ hB'.2.1
    have l3 := hlt _ hB'.2.2
    rw [hp.rest i (by omega) (by rw [e1]; omega) (by rw [e2]; omega) (by rw [e3]; omega), hb.block i (by omega)]
  exact ⟨(h.left.trans hWl).trans hput, (hkeep _ (.inl rfl)).trans h.b1, (hkeep _ (.inr rfl)).trans h.b2, by have := hput.low.size; omega⟩

set_option maxRecDepth 100000 in
set_option maxHeartbeats 16000000 in
theorem rstore_yes {w : World} {base rm cap : Nat} {s : Value} {R : List RB} (h : RefS w base rm s cap R) (chunk k b l vk vb vl : Int) (hl : I64 l) (hvb : U64 vb) (B : RB) (off : Nat) (hf : reachA R chunk ⟨k, b, l⟩ = some (B, off)) (hfx : B.fixed = false) (ht : takesA chunk vk = true) (hcap : cap + 1 < 288230376151711744) :
    Calls Try.prog 18 #[.pointer (some ⟨rm, 0, none⟩), .int .i64 chunk, .agg #[.int .i64 k, .int .u64 b, .int .i64 l], .agg #[.int .i64 vk, .int .u64 vb, .int .i64 vl]] w fun e w' => e = .returned (.bool true) ∧ RefLeft w w' base rm s R (cap + 1) s (R.set (l - 1).toNat (putRN B off ⟨vk, vb, vl⟩ (sizeV chunk).toNat)) := by
  have HH := Lib.hid h
  have HRC := Lib.hid (fun W (hb : Below w.heap.size w W) => reaches_any (h.next hb) chunk k b l hl)
  unfold reachV at HRC
  rw [hf] at HRC
  obtain ⟨hk4, hbl, hn, ho1, ho2, ho3⟩ := reachA_some hf
  dsimp only at hk4 hbl ho1
  subst hk4
  obtain ⟨j, hj, hB, hlv, hjl⟩ := blkA_some hbl
  obtain ⟨g, c, rfl, hg0, hg, hc, hff⟩ := h.read hB
  have t0 : w.cell? ⟨rm, 0, none⟩ = some (.slice (some ⟨g, 0, none⟩) R.length c) := by rw [Lib.cell_of_heap h.top]; rfl
  have hrm := lt_of_block h.top
  have r4 := (hc 4 (by omega)).trans B.cells4
  rw [hfx] at r4
  have hR := h.len
  have hw : wrap64 (l - 1) = (j : Int) := by unfold wrap64; obtain ⟨l1, l2⟩ := hl; omega
  obtain ⟨q1, q2, q3, q4, q5, q6, q7, q8, q9⟩ := h.keys j B hB hlv
  have HK := Lib.hid (rkind_any chunk)
  have HS := Lib.hid (rsz_any chunk)
  have hlj : (l - 1).toNat = j := by omega
  rw [hlj]
  have htk : vk = 0 ∨ vk = kindV chunk ∨ (vk = 4 ∧ chunk = 6) := by unfold takesA at ht; simpa using ht
  have HBJ := Lib.hid hB
  obtain ⟨n, hnn⟩ : ∃ n : Nat, sizeV chunk = n := ⟨(sizeV chunk).toNat, by omega⟩
  rw [hnn] at HS hn ho2 ho3 ⊢
  rw [Int.toNat_natCast]
  generalize kindV chunk = kv at *
  clear h hf hbl hB hc hff hj ho2 hnn hlj ht
  have hA1 := cell_alloc_if
  have hA2 := frozen_alloc_if
  have hA3 := cell_set_if
  go_enter Try.func18, Try.ntmps18
  go_wp2_with (first
  | (go_at_call 34; (with_reducible refine (HRC.out _ (by (repeat' (first | (with_reducible exact Below.refl _ _) | (with_reducible assumption) | (with_reducible refine Below.setCell ?_ ?_ _) | (with_reducible refine Below.alloc ?_ ?_ _) | (with_reducible refine Below.drew ?_) | (with_reducible refine below_drewN ?_ _) | (with_reducible refine below_next ?_ (by with_reducible assumption)) | omega | (dsimp only; omega) | (simp only [World.size_alloc, World.size_setCell, World.size_drew, World.heap_drewN]; omega))))).mono ?_); rintro e wF ⟨rfl, hbF⟩; obtain ⟨hcF, hfF, hzF⟩ := cif hbF; (try simp only [World.size_alloc, World.size_setCell, World.size_drew, World.heap_drewN] at hzF))
  | (go_at_call 35; (with_reducible refine (HS.out _).mono ?_); rintro e w' ⟨rfl, rfl⟩))
  refine wp_region_ext (by kernel_rfl) (by kernel_rfl) ?_
  repeat (first | go_big_quiet_skip | (go_big_quiet_want; go_big_quiet_op; first | go_big_quiet_on | (apply Exists.intro; refine ⟨fun W hW => ?_, ?_⟩; (focus (first
    | (go_at_call 40; (with_reducible refine (HK.out _).mono ?_); rintro e w1 ⟨rfl, rfl⟩; exact ⟨rfl, hW⟩)
    | exact rfl | (obtain ⟨hcW, hfW, hzW⟩ := cif (Ext.of hW); (try simp only [World.size_alloc, World.size_setCell, World.size_drew, World.heap_drewN] at hzW); simp [go_sem, *, ↓IntWalk.iteOmega]; (try exact rfl)))); go_big_quiet_on)))
  refine wpQuiet_nil ?_
  intro w' hw'
  have hbl := Ext.of hw'
  obtain ⟨hc, hf, hz⟩ := cif hbl
  (try simp only [World.size_alloc, World.size_setCell, World.size_drew, World.heap_drewN] at hz)
  clear hw'
  have hbl1 := hbl
  go_wp2
  go_cut [52] (fun s52 wx => s52 = .bool false ∧ Below w.heap.size w wx ∧ wx.heap[w.heap.size]? = some (.cells #[.int .i64 4, .int .u64 b, .int .i64 l] 32 (0, 0)) ∧ wx.heap[w.heap.size + 1]? = some (.cells #[.int .i64 vk, .int .u64 vb, .int .i64 vl] 32 (0, 0)))
  case first =>
    have hmade : ∀ wx, Below ((w.alloc (.cells #[.int .i64 4, .int .u64 b, .int .i64 l] 32)).alloc (.cells #[.int .i64 vk, .int .u64 vb, .int .i64 vl] 32)).heap.size ((w.alloc (.cells #[.int .i64 4, .int .u64 b, .int .i64 l] 32)).alloc (.cells #[.int .i64 vk, .int .u64 vb, .int .i64 vl] 32)) wx → wx.heap[w.heap.size]? = some (.cells #[.int .i64 4, .int .u64 b, .int .i64 l] 32 (0, 0)) ∧ wx.heap[w.heap.size + 1]? = some (.cells #[.int .i64 vk, .int .u64 vb, .int .i64 vl] 32 (0, 0)) := fun wx hb => by
      refine ⟨(hb.block _ (by simp; omega)).trans ?_, (hb.block _ (by simp)).trans ?_⟩
      · rw [Below.heap_alloc _ _ _ (by simp)]; exact heap_alloc_new _ _
      · have h1 := fun o1 o2 => heap_alloc_new (w.alloc o1) o2
        simp only [World.size_alloc] at h1
        exact h1 _ _
    have HMD := Lib.hid hmade
    clear hmade
    by_cases c0 : vk = 0
    · have d0 : (vk != 0) = false := by simpa using c0
      clear c0 htk
      refine wp_region_ext (by kernel_rfl) (by kernel_rfl) ?_
      repeat (first | go_big_quiet_skip | (go_big_quiet_want; go_big_quiet_op; first | go_big_quiet_on | (apply Exists.intro; refine ⟨fun W hW => ?_, ?_⟩; (focus (first
        | (go_at_call 40; (with_reducible refine (HK.out _).mono ?_); rintro e w1 ⟨rfl, rfl⟩; exact ⟨rfl, hW⟩)
        | exact rfl | (obtain ⟨hcW, hfW, hzW⟩ := cif (Ext.of hW); (try simp only [World.size_alloc, World.size_setCell, World.size_drew, World.heap_drewN] at hzW); simp [go_sem, *, ↓IntWalk.iteOmega]; (try exact rfl)))); go_big_quiet_on)))
      refine wpQuiet_nil ?_
      intro w' hw'
      have hbl := Ext.of hw'
      obtain ⟨hc, hf, hz⟩ := cif hbl
      (try simp only [World.size_alloc, World.size_setCell, World.size_drew, World.heap_drewN] at hz)
      clear hw'
      go_wp2
      go_meet
      exact ⟨rfl, by (repeat' (first | (with_reducible exact Below.refl _ _) | (with_reducible assumption) | (with_reducible refine Below.setCell ?_ ?_ _) | (with_reducible refine Below.alloc ?_ ?_ _) | (with_reducible refine Below.drew ?_) | (with_reducible refine below_drewN ?_ _) | (with_reducible refine below_next ?_ (by with_reducible assumption)) | omega | (dsimp only; omega) | (simp only [World.size_alloc, World.size_setCell, World.size_drew, World.heap_drewN]; omega))), HMD.out _ (by (repeat' (first | (with_reducible exact Below.refl _ _) | (with_reducible assumption) | (with_reducible refine Below.setCell ?_ ?_ _) | (with_reducible refine Below.alloc ?_ ?_ _) | (with_reducible refine Below.drew ?_) | (with_reducible refine below_drewN ?_ _) | (with_reducible refine below_next ?_ (by with_reducible assumption)) | omega | (dsimp only; omega) | (simp only [World.size_alloc, World.size_setCell, World.size_drew, World.heap_drewN]; omega))))⟩
    · have d0 : (vk != 0) = true := by simpa using c0
      by_cases c1 : vk = kv
      · have d1 : (vk != kv) = false := by simpa using c1
        clear c0 c1 htk
        refine wp_region_ext (by kernel_rfl) (by kernel_rfl) ?_
        repeat (first | go_big_quiet_skip | (go_big_quiet_want; go_big_quiet_op; first | go_big_quiet_on | (apply Exists.intro; refine ⟨fun W hW => ?_, ?_⟩; (focus (first
          | (go_at_call 40; (with_reducible refine (HK.out _).mono ?_); rintro e w1 ⟨rfl, rfl⟩; exact ⟨rfl, hW⟩)
          | exact rfl | (obtain ⟨hcW, hfW, hzW⟩ := cif (Ext.of hW); (try simp only [World.size_alloc, World.size_setCell, World.size_drew, World.heap_drewN] at hzW); simp [go_sem, *, ↓IntWalk.iteOmega]; (try exact rfl)))); go_big_quiet_on)))
        refine wpQuiet_nil ?_
        intro w' hw'
        have hbl := Ext.of hw'
        obtain ⟨hc, hf, hz⟩ := cif hbl
        (try simp only [World.size_alloc, World.size_setCell, World.size_drew, World.heap_drewN] at hz)
        clear hw'
        go_wp2
        go_meet
        exact ⟨rfl, by (repeat' (first | (with_reducible exact Below.refl _ _) | (with_reducible assumption) | (with_reducible refine Below.setCell ?_ ?_ _) | (with_reducible refine Below.alloc ?_ ?_ _) | (with_reducible refine Below.drew ?_) | (with_reducible refine below_drewN ?_ _) | (with_reducible refine below_next ?_ (by with_reducible assumption)) | omega | (dsimp only; omega) | (simp only [World.size_alloc, World.size_setCell, World.size_drew, World.heap_drewN]; omega))), HMD.out _ (by (repeat' (first | (with_reducible exact Below.refl _ _) | (with_reducible assumption) | (with_reducible refine Below.setCell ?_ ?_ _) | (with_reducible refine Below.alloc ?_ ?_ _) | (with_reducible refine Below.drew ?_) | (with_reducible refine below_drewN ?_ _) | (with_reducible refine below_next ?_ (by with_reducible assumption)) | omega | (dsimp only; omega) | (simp only [World.size_alloc, World.size_setCell, World.size_drew, World.heap_drewN]; omega))))⟩
      · have d1 : (vk != kv) = true := by simpa using c1
        have c4 : vk = 4 := by omega
        have c6 : chunk = 6 := by omega
        have d4 : (vk != 4) = false := by simpa using c4
        have d6 : (chunk != 6) = false := by simpa using c6
        clear c0 c1 htk c4 c6
        refine wp_region_ext (by kernel_rfl) (by kernel_rfl) ?_
        repeat (first | go_big_quiet_skip | (go_big_quiet_want; go_big_quiet_op; first | go_big_quiet_on | (apply Exists.intro; refine ⟨fun W hW => ?_, ?_⟩; (focus (first
          | (go_at_call 40; (with_reducible refine (HK.out _).mono ?_); rintro e w1 ⟨rfl, rfl⟩; exact ⟨rfl, hW⟩)
          | exact rfl | (obtain ⟨hcW, hfW, hzW⟩ := cif (Ext.of hW); (try simp only [World.size_alloc, World.size_setCell, World.size_drew, World.heap_drewN] at hzW); simp [go_sem, *, ↓IntWalk.iteOmega]; (try exact rfl)))); go_big_quiet_on)))
        refine wpQuiet_nil ?_
        intro w' hw'
        have hbl := Ext.of hw'
        obtain ⟨hc, hf, hz⟩ := cif hbl
        (try simp only [World.size_alloc, World.size_setCell, World.size_drew, World.heap_drewN] at hz)
        clear hw'
        go_wp2
        go_meet
        exact ⟨rfl, by (repeat' (first | (with_reducible exact Below.refl _ _) | (with_reducible assumption) | (with_reducible refine Below.setCell ?_ ?_ _) | (with_reducible refine Below.alloc ?_ ?_ _) | (with_reducible refine Below.drew ?_) | (with_reducible refine below_drewN ?_ _) | (with_reducible refine below_next ?_ (by with_reducible assumption)) | omega | (dsimp only; omega) | (simp only [World.size_alloc, World.size_setCell, World.size_drew, World.heap_drewN]; omega))), HMD.out _ (by (repeat' (first | (with_reducible exact Below.refl _ _) | (with_reducible assumption) | (with_reducible refine Below.setCell ?_ ?_ _) | (with_reducible refine Below.alloc ?_ ?_ _) | (with_reducible refine Below.drew ?_) | (with_reducible refine below_drewN ?_ _) | (with_reducible refine below_next ?_ (by with_reducible assumption)) | omega | (dsimp only; omega) | (simp only [World.size_alloc, World.size_setCell, World.size_drew, World.heap_drewN]; omega))))⟩
  case rest =>
    obtain ⟨rfl, hlowT, hbx1, hbx2⟩ := hcut
    have hRB : R.set j (putRN B off ⟨vk, vb, vl⟩ 0) = R := set_self HBJ.out
    have HL0 : Hid (StoreL w wc base rm (.slice (some ⟨g, 0, none⟩) R.length c) R cap j B off ⟨4, b, l⟩ ⟨vk, vb, vl⟩ 0) := Lib.hid ⟨by rw [hRB]; exact { HH.out.left hlowT with mem := (HH.out.next hlowT).more (by omega) hcap }, hbx1, hbx2, by have := lt_of_block hbx2; omega⟩
    clear hbx1 hbx2 hRB HRC HK htk
    go_wp2
    go_loopw [11, 12] (fun i cc wr => ∃ m : Nat, m ≤ n ∧ i = .int .i64 m ∧ Hid (StoreL w wr base rm (.slice (some ⟨g, 0, none⟩) R.length c) R cap j B off ⟨4, b, l⟩ ⟨vk, vb, vl⟩ m)) (fun i _ _ => n - (intOf i).toNat)
    case atStart => exact ⟨0, by omega, rfl, HL0⟩
    case round =>
      obtain ⟨m, hm, rfl, HL⟩ := hrel
      by_cases hlt : m < n
      · skip
        have HB1 := HL.out.b1
        have HB2 := HL.out.b2
        have hq1 := cells_of_block HB1
        have hq2 := cells_of_block HB2
        have y2 := hq1.1 2
        have v0 := hq2.1 0
        have v1 := hq2.1 1
        have v2 := hq2.1 2
        simp at y2 v0 v1 v2
        have hlw := HL.out.low
        have hRk := HL.out.left.mem
        have hjB : (R.set j (putRN B off ⟨vk, vb, vl⟩ m))[j]? = some (putRN B off ⟨vk, vb, vl⟩ m) := List.getElem?_set_self hjl
        obtain ⟨g', c', e1, _, hgl, hcc, _⟩ := hRk.read hjB
        injection e1 with e1 e1'
        injection e1 with e1
        injection e1 with e1
        subst e1
        have s0 : wr.cell? ⟨rm, 0, none⟩ = some (.slice (some ⟨g, 0, none⟩) R.length c) := by rw [Lib.cell_of_heap hRk.top]; rfl
        have hlvk : (putRN B off ⟨vk, vb, vl⟩ m).live = true := by rw [(putRN_same B off ⟨vk, vb, vl⟩ m).2.2.2.1]; exact hlv
        have s1 := (hcc 0 (by omega)).trans (RB.cells0 hlvk)
        have s2 := (hcc 1 (by omega)).trans (RB.cells1 hlvk)
        have s3 := (hcc 2 (by omega)).trans (RB.cells2 hlvk)
        have s4 := (hcc 3 (by omega)).trans (RB.cells3 _)
        have s5 := (hcc 4 (by omega)).trans (RB.cells4 _)
        obtain ⟨p1, p2, p3, p4, p5, p6, p7, p8⟩ := putRN_same B off ⟨vk, vb, vl⟩ m
        rw [p1, p6, Nat.add_zero] at s1
        rw [p2, p6] at s2
        rw [p3] at s3
        rw [hlvk] at s4
        rw [p5, hfx] at s5
        have hrml := lt_of_block hRk.top
        have HSET := Lib.hid (fun W (hb : Below wr.heap.size wr W) => set_any (base := base) (putRN B off ⟨vk, vb, vl⟩ m) ((hRk.next hb).at_ j _ hjB hlvk) (off + m) (cellOf ⟨vk, vb, vl⟩ m) (by rw [p6]; omega) (by rw [p6, p7]; exact q5) (by rw [p6]; exact q6) (putRN_range B off ⟨vk, vb, vl⟩ ⟨q8, q9⟩ m).1 (cellOf_range _ _).1 (by rw [p8]; omega) (by rw [p1, p2, p3]; exact ⟨q1, q2, q3, q4⟩) (by have := hb.size; omega))
        rw [p1, p2, p3, p5, p6, hfx] at HSET
        clear hq1 hq2 hRk hjB hcc hlvk e1' p1 p2 p3 p4 p5 p6 p7 p8 HB1 HB2
        rw [show ((off + m : Nat) : Int) = (off : Int) + m from by omega] at HSET
        by_cases c0 : vk = 0
        · subst c0
          have hcv : cellOf ⟨0, vb, vl⟩ m = ⟨0, 0, ⟨0, 0, 0⟩, 0⟩ := by simp [cellOf, pZ]
          rw [hcv] at HSET
          have hcv' := hcv
          dsimp only at HSET
          go_upto_region 15 with (first
  | (go_at_call 34; (with_reducible refine (HRC.out _ (by (repeat' (first | (with_reducible exact Below.refl _ _) | (with_reducible assumption) | (with_reducible refine Below.setCell ?_ ?_ _) | (with_reducible refine Below.alloc ?_ ?_ _) | (with_reducible refine Below.drew ?_) | (with_reducible refine below_drewN ?_ _) | (with_reducible refine below_next ?_ (by with_reducible assumption)) | omega | (dsimp only; omega) | (simp only [World.size_alloc, World.size_setCell, World.size_drew, World.heap_drewN]; omega))))).mono ?_); rintro e wF ⟨rfl, hbF⟩; obtain ⟨hcF, hfF, hzF⟩ := cif hbF; (try simp only [World.size_alloc, World.size_setCell, World.size_drew, World.heap_drewN] at hzF))
  | (go_at_call 35; (with_reducible refine (HS.out _).mono ?_); rintro e w' ⟨rfl, rfl⟩))
          obtain ⟨W, hW⟩ : ∃ W, W = wr.alloc (.cells #[.int .i64 0, .int .u8 0, .int .i64 0, .int .u64 0, .int .i64 0, .int .i64 0] 78) := ⟨_, rfl⟩
          have hWB : Below wr.heap.size wr W := by rw [hW]; (repeat' (first | (with_reducible exact Below.refl _ _) | (with_reducible assumption) | (with_reducible refine Below.setCell ?_ ?_ _) | (with_reducible refine Below.alloc ?_ ?_ _) | (with_reducible refine Below.drew ?_) | (with_reducible refine below_drewN ?_ _) | (with_reducible refine below_next ?_ (by with_reducible assumption)) | omega | (dsimp only; omega) | (simp only [World.size_alloc, World.size_setCell, World.size_drew, World.heap_drewN]; omega)))
          have hWX : W.heap[wr.heap.size]? = some (.cells #[.int .i64 0, .int .u8 0, .int .i64 0, .int .u64 0, .int .i64 0, .int .i64 0] 78 (0, 0)) := by rw [hW]; exact heap_alloc_new _ _
          rw [← hW]
          clear hW
          have hzW := hWB.size
          have hj2 : (j : Int) < (R.length : Int) := by omega
          have hj3 : j * 5 + 4 < 9223372036854775808 := by omega
          have y2 := (hWB.cell (p := ⟨w.heap.size, 2, none⟩) (by dsimp only; omega)).trans y2
          have s0 := (hWB.cell (p := ⟨rm, 0, none⟩) hrml).trans s0
          have s1 := (hWB.cell (p := ⟨g, j * 5, none⟩) hgl).trans s1
          have s2 := (hWB.cell (p := ⟨g, j * 5 + 1, none⟩) hgl).trans s2
          have s3 := (hWB.cell (p := ⟨g, j * 5 + 2, none⟩) hgl).trans s3
          have s4 := (hWB.cell (p := ⟨g, j * 5 + 3, none⟩) hgl).trans s4
          have s5 := (hWB.cell (p := ⟨g, j * 5 + 4, none⟩) hgl).trans s5
          have hzX := lt_of_block hWX
          have hq3 := cells_of_block hWX
          have x0 := hq3.1 0
          have x1 := hq3.1 1
          have x2 := hq3.1 2
          have x3 := hq3.1 3
          have x4 := hq3.1 4
          have x5 := hq3.1 5
          simp at x0 x1 x2 x3 x4 x5
          clear hq3 hWX
          refine wp_region_tail 13 (by intro c a d v w h; cases d <;> (simp [Exit.then, Exit.inBlock] at h ⊢; exact h)) (by kernel_rfl) (by kernel_rfl) (by kernel_rfl) (by kernel_rfl) ?_
          apply Exists.intro
          refine ⟨fun m hm => ?_, fun w' hw' => ?_⟩
          · simp only [List.map_cons, List.map_nil, List.take_succ_cons, List.take_zero, deAl]
            repeat (first | go_big_quiet_skip | (go_big_quiet_want; go_big_quiet_op; first | go_big_quiet_on | (apply Exists.intro; refine ⟨fun W hW => ?_, ?_⟩; (focus (first
              | (go_at_call 40; (with_reducible refine (HK.out _).mono ?_); rintro e w1 ⟨rfl, rfl⟩; exact ⟨rfl, hW⟩)
              | exact rfl | (obtain ⟨hcW, hfW, hzW⟩ := cif (Ext.of (Ext.past hm hW)); (try simp only [World.size_alloc, World.size_setCell, World.size_drew, World.heap_drewN] at hzW); simp [go_sem, *, ↓IntWalk.iteOmega]; (try exact rfl)))); go_big_quiet_on)))
            exact wpQuiet_nil rfl
          rw [show als _ 0 13 = [] from by kernel_rfl]
          simp only [gEnd, List.drop_succ_cons, List.drop_zero]
          have hbl := Ext.of hw'
          obtain ⟨hc, hf, hz⟩ := cif hbl
          (try simp only [World.size_alloc, World.size_setCell, World.size_drew, World.heap_drewN] at hz)
          clear hw'
          go_wp2_with (first
            | (go_at_call 41; (with_reducible refine (HSET.out _ (by (repeat' (first | (with_reducible exact Below.refl _ _) | (with_reducible assumption) | (with_reducible refine Below.setCell ?_ ?_ _) | (with_reducible refine Below.alloc ?_ ?_ _) | (with_reducible refine Below.drew ?_) | (with_reducible refine below_drewN ?_ _) | (with_reducible refine below_next ?_ (by with_reducible assumption)) | omega | (dsimp only; omega) | (simp only [World.size_alloc, World.size_setCell, World.size_drew, World.heap_drewN]; omega))))).mono ?_); rintro e wS ⟨rfl, hp⟩; have HPT := Lib.hid hp; clear hp))
          refine ⟨⟨m + 1, by omega, by go_num, ?_⟩, by simp [intOf]; omega⟩
          have hpt := HPT.out
          rw [← hcv'] at hpt
          exact Lib.hid (HL.out.next (fun i hi => HH.out.lt hi) hjl HBJ.out hlv (by (repeat' (first | (with_reducible exact Below.refl _ _) | (with_reducible assumption) | (with_reducible refine Below.setCell ?_ ?_ _) | (with_reducible refine Below.alloc ?_ ?_ _) | (with_reducible refine Below.drew ?_) | (with_reducible refine below_drewN ?_ _) | (with_reducible refine below_next ?_ (by with_reducible assumption)) | omega | (dsimp only; omega) | (simp only [World.size_alloc, World.size_setCell, World.size_drew, World.heap_drewN]; omega)))) hpt ⟨q8, q9⟩ (by omega) hcap)
        · by_cases c4 : vk = 4
          · subst c4
            have hcv : cellOf ⟨4, vb, vl⟩ m = ⟨2, 0, ⟨4, vb, vl⟩, m⟩ := by simp [cellOf]
            rw [hcv] at HSET
            have hcv' := hcv
            dsimp only at HSET
            go_upto_region 15 with (first
  | (go_at_call 34; (with_reducible refine (HRC.out _ (by (repeat' (first | (with_reducible exact Below.refl _ _) | (with_reducible assumption) | (with_reducible refine Below.setCell ?_ ?_ _) | (with_reducible refine Below.alloc ?_ ?_ _) | (with_reducible refine Below.drew ?_) | (with_reducible refine below_drewN ?_ _) | (with_reducible refine below_next ?_ (by with_reducible assumption)) | omega | (dsimp only; omega) | (simp only [World.size_alloc, World.size_setCell, World.size_drew, World.heap_drewN]; omega))))).mono ?_); rintro e wF ⟨rfl, hbF⟩; obtain ⟨hcF, hfF, hzF⟩ := cif hbF; (try simp only [World.size_alloc, World.size_setCell, World.size_drew, World.heap_drewN] at hzF))
  | (go_at_call 35; (with_reducible refine (HS.out _).mono ?_); rintro e w' ⟨rfl, rfl⟩))
            obtain ⟨W, hW⟩ : ∃ W, W = wr.alloc (.cells #[.int .i64 2, .int .u8 0, .int .i64 4, .int .u64 vb, .int .i64 vl, .int .i64 m] 78) := ⟨_, rfl⟩
            have hWB : Below wr.heap.size wr W := by rw [hW]; (repeat' (first | (with_reducible exact Below.refl _ _) | (with_reducible assumption) | (with_reducible refine Below.setCell ?_ ?_ _) | (with_reducible refine Below.alloc ?_ ?_ _) | (with_reducible refine Below.drew ?_) | (with_reducible refine below_drewN ?_ _) | (with_reducible refine below_next ?_ (by with_reducible assumption)) | omega | (dsimp only; omega) | (simp only [World.size_alloc, World.size_setCell, World.size_drew, World.heap_drewN]; omega)))
            have hWX : W.heap[wr.heap.size]? = some (.cells #[.int .i64 2, .int .u8 0, .int .i64 4, .int .u64 vb, .int .i64 vl, .int .i64 m] 78 (0, 0)) := by rw [hW]; exact heap_alloc_new _ _
            rw [← hW]
            clear hW
            have hzW := hWB.size
            have hj2 : (j : Int) < (R.length : Int) := by omega
            have hj3 : j * 5 + 4 < 9223372036854775808 := by omega
            have y2 := (hWB.cell (p := ⟨w.heap.size, 2, none⟩) (by dsimp only; omega)).trans y2
            have s0 := (hWB.cell (p := ⟨rm, 0, none⟩) hrml).trans s0
            have s1 := (hWB.cell (p := ⟨g, j * 5, none⟩) hgl).trans s1
            have s2 := (hWB.cell (p := ⟨g, j * 5 + 1, none⟩) hgl).trans s2
            have s3 := (hWB.cell (p := ⟨g, j * 5 + 2, none⟩) hgl).trans s3
            have s4 := (hWB.cell (p := ⟨g, j * 5 + 3, none⟩) hgl).trans s4
            have s5 := (hWB.cell (p := ⟨g, j * 5 + 4, none⟩) hgl).trans s5
            have hzX := lt_of_block hWX
            have hq3 := cells_of_block hWX
            have x0 := hq3.1 0
            have x1 := hq3.1 1
            have x2 := hq3.1 2
            have x3 := hq3.1 3
            have x4 := hq3.1 4
            have x5 := hq3.1 5
            simp at x0 x1 x2 x3 x4 x5
            clear hq3 hWX
            refine wp_region_tail 13 (by intro c a d v w h; cases d <;> (simp [Exit.then, Exit.inBlock] at h ⊢; exact h)) (by kernel_rfl) (by kernel_rfl) (by kernel_rfl) (by kernel_rfl) ?_
            apply Exists.intro
            refine ⟨fun m hm => ?_, fun w' hw' => ?_⟩
            · simp only [List.map_cons, List.map_nil, List.take_succ_cons, List.take_zero, deAl]
              repeat (first | go_big_quiet_skip | (go_big_quiet_want; go_big_quiet_op; first | go_big_quiet_on | (apply Exists.intro; refine ⟨fun W hW => ?_, ?_⟩; (focus (first
                | (go_at_call 40; (with_reducible refine (HK.out _).mono ?_); rintro e w1 ⟨rfl, rfl⟩; exact ⟨rfl, hW⟩)
                | exact rfl | (obtain ⟨hcW, hfW, hzW⟩ := cif (Ext.of (Ext.past hm hW)); (try simp only [World.size_alloc, World.size_setCell, World.size_drew, World.heap_drewN] at hzW); simp [go_sem, *, ↓IntWalk.iteOmega]; (try exact rfl)))); go_big_quiet_on)))
              exact wpQuiet_nil rfl
            rw [show als _ 0 13 = [] from by kernel_rfl]
            simp only [gEnd, List.drop_succ_cons, List.drop_zero]
            have hbl := Ext.of hw'
            obtain ⟨hc, hf, hz⟩ := cif hbl
            (try simp only [World.size_alloc, World.size_setCell, World.size_drew, World.heap_drewN] at hz)
            clear hw'
            go_wp2_with (first
              | (go_at_call 41; (with_reducible refine (HSET.out _ (by (repeat' (first | (with_reducible exact Below.refl _ _) | (with_reducible assumption) | (with_reducible refine Below.setCell ?_ ?_ _) | (with_reducible refine Below.alloc ?_ ?_ _) | (with_reducible refine Below.drew ?_) | (with_reducible refine below_drewN ?_ _) | (with_reducible refine below_next ?_ (by with_reducible assumption)) | omega | (dsimp only; omega) | (simp only [World.size_alloc, World.size_setCell, World.size_drew, World.heap_drewN]; omega))))).mono ?_); rintro e wS ⟨rfl, hp⟩; have HPT := Lib.hid hp; clear hp))
            refine ⟨⟨m + 1, by omega, by go_num, ?_⟩, by simp [intOf]; omega⟩
            have hpt := HPT.out
            rw [← hcv'] at hpt
            exact Lib.hid (HL.out.next (fun i hi => HH.out.lt hi) hjl HBJ.out hlv (by (repeat' (first | (with_reducible exact Below.refl _ _) | (with_reducible assumption) | (with_reducible refine Below.setCell ?_ ?_ _) | (with_reducible refine Below.alloc ?_ ?_ _) | (with_reducible refine Below.drew ?_) | (with_reducible refine below_drewN ?_ _) | (with_reducible refine below_next ?_ (by with_reducible assumption)) | omega | (dsimp only; omega) | (simp only [World.size_alloc, World.size_setCell, World.size_drew, World.heap_drewN]; omega)))) hpt ⟨q8, q9⟩ (by omega) hcap)
          · have d0 : (vk == 0) = false := by simpa using c0
            have d4 : (vk == 4) = false := by simpa using c4
            have hcv : cellOf ⟨vk, vb, vl⟩ m = ⟨1, (vb / 2 ^ (8 * m)) % 256, ⟨0, 0, 0⟩, 0⟩ := by simp [cellOf, c0, c4]
            rw [hcv] at HSET
            have hcv' := hcv
            dsimp only at HSET
            clear c0 c4
            go_upto_region 15 with (first
  | (go_at_call 34; (with_reducible refine (HRC.out _ (by (repeat' (first | (with_reducible exact Below.refl _ _) | (with_reducible assumption) | (with_reducible refine Below.setCell ?_ ?_ _) | (with_reducible refine Below.alloc ?_ ?_ _) | (with_reducible refine Below.drew ?_) | (with_reducible refine below_drewN ?_ _) | (with_reducible refine below_next ?_ (by with_reducible assumption)) | omega | (dsimp only; omega) | (simp only [World.size_alloc, World.size_setCell, World.size_drew, World.heap_drewN]; omega))))).mono ?_); rintro e wF ⟨rfl, hbF⟩; obtain ⟨hcF, hfF, hzF⟩ := cif hbF; (try simp only [World.size_alloc, World.size_setCell, World.size_drew, World.heap_drewN] at hzF))
  | (go_at_call 35; (with_reducible refine (HS.out _).mono ?_); rintro e w' ⟨rfl, rfl⟩))
            obtain ⟨W, hW⟩ : ∃ W, W = wr.alloc (.cells #[.int .i64 1, .int .u8 (vb / 2 ^ (8 * m) % 256), .int .i64 0, .int .u64 0, .int .i64 0, .int .i64 0] 78) := ⟨_, rfl⟩
            have hWB : Below wr.heap.size wr W := by rw [hW]; (repeat' (first | (with_reducible exact Below.refl _ _) | (with_reducible assumption) | (with_reducible refine Below.setCell ?_ ?_ _) | (with_reducible refine Below.alloc ?_ ?_ _) | (with_reducible refine Below.drew ?_) | (with_reducible refine below_drewN ?_ _) | (with_reducible refine below_next ?_ (by with_reducible assumption)) | omega | (dsimp only; omega) | (simp only [World.size_alloc, World.size_setCell, World.size_drew, World.heap_drewN]; omega)))
            have hWX : W.heap[wr.heap.size]? = some (.cells #[.int .i64 1, .int .u8 (vb / 2 ^ (8 * m) % 256), .int .i64 0, .int .u64 0, .int .i64 0, .int .i64 0] 78 (0, 0)) := by rw [hW]; exact heap_alloc_new _ _
            rw [← hW]
            clear hW
            have hzW := hWB.size
            have hj2 : (j : Int) < (R.length : Int) := by omega
            have hj3 : j * 5 + 4 < 9223372036854775808 := by omega
            have y2 := (hWB.cell (p := ⟨w.heap.size, 2, none⟩) (by dsimp only; omega)).trans y2
            have s0 := (hWB.cell (p := ⟨rm, 0, none⟩) hrml).trans s0
            have s1 := (hWB.cell (p := ⟨g, j * 5, none⟩) hgl).trans s1
            have s2 := (hWB.cell (p := ⟨g, j * 5 + 1, none⟩) hgl).trans s2
            have s3 := (hWB.cell (p := ⟨g, j * 5 + 2, none⟩) hgl).trans s3
            have s4 := (hWB.cell (p := ⟨g, j * 5 + 3, none⟩) hgl).trans s4
            have s5 := (hWB.cell (p := ⟨g, j * 5 + 4, none⟩) hgl).trans s5
            have hzX := lt_of_block hWX
            have hq3 := cells_of_block hWX
            have x0 := hq3.1 0
            have x1 := hq3.1 1
            have x2 := hq3.1 2
            have x3 := hq3.1 3
            have x4 := hq3.1 4
            have x5 := hq3.1 5
            simp at x0 x1 x2 x3 x4 x5
            clear hq3 hWX
            refine wp_region_tail 13 (by intro c a d v w h; cases d <;> (simp [Exit.then, Exit.inBlock] at h ⊢; exact h)) (by kernel_rfl) (by kernel_rfl) (by kernel_rfl) (by kernel_rfl) ?_
            apply Exists.intro
            refine ⟨fun m hm => ?_, fun w' hw' => ?_⟩
            · simp only [List.map_cons, List.map_nil, List.take_succ_cons, List.take_zero, deAl]
              repeat (first | go_big_quiet_skip | (go_big_quiet_want; go_big_quiet_op; first | go_big_quiet_on | (apply Exists.intro; refine ⟨fun W hW => ?_, ?_⟩; (focus (first
                | (go_at_call 40; (with_reducible refine (HK.out _).mono ?_); rintro e w1 ⟨rfl, rfl⟩; exact ⟨rfl, hW⟩)
                | exact rfl | (obtain ⟨hcW, hfW, hzW⟩ := cif (Ext.of (Ext.past hm hW)); (try simp only [World.size_alloc, World.size_setCell, World.size_drew, World.heap_drewN] at hzW); simp [go_sem, *, ↓IntWalk.iteOmega]; (try exact rfl)))); go_big_quiet_on)))
              exact wpQuiet_nil rfl
            rw [show als _ 0 13 = [] from by kernel_rfl]
            simp only [gEnd, List.drop_succ_cons, List.drop_zero]
            have hbl := Ext.of hw'
            obtain ⟨hc, hf, hz⟩ := cif hbl
            (try simp only [World.size_alloc, World.size_setCell, World.size_drew, World.heap_drewN] at hz)
            clear hw'
            go_wp2_with (first
              | (go_at_call 41; (with_reducible refine (HSET.out _ (by (repeat' (first | (with_reducible exact Below.refl _ _) | (with_reducible assumption) | (with_reducible refine Below.setCell ?_ ?_ _) | (with_reducible refine Below.alloc ?_ ?_ _) | (with_reducible refine Below.drew ?_) | (with_reducible refine below_drewN ?_ _) | (with_reducible refine below_next ?_ (by with_reducible assumption)) | omega | (dsimp only; omega) | (simp only [World.size_alloc, World.size_setCell, World.size_drew, World.heap_drewN]; omega))))).mono ?_); rintro e wS ⟨rfl, hp⟩; have HPT := Lib.hid hp; clear hp))
            refine ⟨⟨m + 1, by omega, by go_num, ?_⟩, by simp [intOf]; omega⟩
            have hpt := HPT.out
            rw [← hcv'] at hpt
            exact Lib.hid (HL.out.next (fun i hi => HH.out.lt hi) hjl HBJ.out hlv (by (repeat' (first | (with_reducible exact Below.refl _ _) | (with_reducible assumption) | (with_reducible refine Below.setCell ?_ ?_ _) | (with_reducible refine Below.alloc ?_ ?_ _) | (with_reducible refine Below.drew ?_) | (with_reducible refine below_drewN ?_ _) | (with_reducible refine below_next ?_ (by with_reducible assumption)) | omega | (dsimp only; omega) | (simp only [World.size_alloc, World.size_setCell, World.size_drew, World.heap_drewN]; omega)))) hpt ⟨q8, q9⟩ (by omega) hcap)
      · have hmn : m = n := by omega
        subst hmn
        go_wp2_with (first
  | (go_at_call 34; (with_reducible refine (HRC.out _ (by (repeat' (first | (with_reducible exact Below.refl _ _) | (with_reducible assumption) | (with_reducible refine Below.setCell ?_ ?_ _) | (with_reducible refine Below.alloc ?_ ?_ _) | (with_reducible refine Below.drew ?_) | (with_reducible refine below_drewN ?_ _) | (with_reducible refine below_next ?_ (by with_reducible assumption)) | omega | (dsimp only; omega) | (simp only [World.size_alloc, World.size_setCell, World.size_drew, World.heap_drewN]; omega))))).mono ?_); rintro e wF ⟨rfl, hbF⟩; obtain ⟨hcF, hfF, hzF⟩ := cif hbF; (try simp only [World.size_alloc, World.size_setCell, World.size_drew, World.heap_drewN] at hzF))
  | (go_at_call 35; (with_reducible refine (HS.out _).mono ?_); rintro e w' ⟨rfl, rfl⟩))
        go_returns
        exact ⟨rfl, HL.out.left⟩

theorem rstore_any {w : World} {base rm cap : Nat} {s : Value} {R : List RB} (h : RefS w base rm s cap R) (chunk k b l vk vb vl : Int) (hl : I64 l) (hvb : U64 vb) (hcap : cap + 1 < 288230376151711744) :
    Calls Try.prog 18 #[.pointer (some ⟨rm, 0, none⟩), .int .i64 chunk, .agg #[.int .i64 k, .int .u64 b, .int .i64 l], .agg #[.int .i64 vk, .int .u64 vb, .int .i64 vl]] w fun e w' => e = .returned (.bool (storeRA R chunk ⟨k, b, l⟩ ⟨vk, vb, vl⟩).isSome) ∧ RefLeft w w' base rm s R (cap + 1) s ((storeRA R chunk ⟨k, b, l⟩ ⟨vk, vb, vl⟩).getD R) := by
  have hmore : ∀ {w' : World}, Below w.heap.size w w' → RefLeft w w' base rm s R (cap + 1) s R := fun hb => { h.left hb with mem := (h.next hb).more (by omega) hcap }
  unfold storeRA
  cases hf : reachA R chunk ⟨k, b, l⟩ with
  | none => exact (rstore_none h chunk k b l vk vb vl hl hf).mono fun e w' ⟨he, hb⟩ => ⟨he, hmore hb⟩
  | some Bo =>
    obtain ⟨B, off⟩ := Bo
    dsimp only
    cases hfx : B.fixed with
    | true =>
      simp only [Bool.true_eq_false, false_and, if_false]
      exact (rstore_fixed h chunk k b l vk vb vl hl B off hf hfx).mono fun e w' ⟨he, hb⟩ => ⟨he, hmore hb⟩
    | false =>
      cases ht : takesA chunk vk with
      | false =>
        simp only [Bool.false_eq_true, and_false, if_false]
        exact (rstore_not h chunk k b l vk vb vl hl B off hf hfx ht).mono fun e w' ⟨he, hb⟩ => ⟨he, hmore hb⟩
      | true =>
        simp only [and_self, if_true]
        exact rstore_yes h chunk k b l vk vb vl hl hvb B off hf hfx ht hcap

end Go.Proofs.Ytddipbpllogbaaa
