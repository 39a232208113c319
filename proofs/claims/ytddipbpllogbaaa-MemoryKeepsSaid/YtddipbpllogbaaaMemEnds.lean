/-
  MemoryEnds: the walk.
-/
import Derived.Test.YtddipbpllogbaaaMemW7
import Derived.Test.YtddipbpllogbaaaSlices
import Derived.Deep.DeepCutAuto
namespace Go.Proofs.Ytddipbpllogbaaa
open Go.RowKit
set_option linter.unusedVariables false
set_option linter.unusedSimpArgs false

def intCells (n : Int) : List Value := [.int .i64 n]

theorem load_fixed {M : Int → Option Bk} {b : Int} {B : Bk} (h : M b = some B) (chunk x : Int) : loadA (setK M b (some { B with fixed := true })) chunk ⟨4, x, b⟩ = loadA M chunk ⟨4, x, b⟩ := by
  have e : setK M b (some { B with fixed := true }) b = some { B with fixed := true } := by simp [setK]
  unfold loadA findA
  simp only [e, h]
  by_cases c1 : sizeV chunk = 0
  · simp [c1]
  · by_cases c2 : wrap64 x < 0 ∨ wrap64 x % sizeV chunk ≠ 0 ∨ wrap64 x > (B.cells.length : Int) - sizeV chunk
    · simp [c1, c2]
    · simp [c1, c2, loadB]
theorem store_fixed_no {M : Int → Option Bk} {b : Int} {B : Bk} (chunk x : Int) (v : V) : storeA (setK M b (some { B with fixed := true })) chunk ⟨4, x, b⟩ v = none := by
  unfold storeA
  split
  · rfl
  · rename_i C off hf
    have := (findA_some hf).2.1
    simp [setK] at this
    rw [← this]
    simp
theorem find_gone {M : Int → Option Bk} {b : Int} (h : M b = none) (chunk x : Int) : findA M chunk ⟨4, x, b⟩ = none := by
  unfold findA
  simp [h]
theorem load_gone {M : Int → Option Bk} {b : Int} (h : M b = none) (chunk x : Int) : loadA M chunk ⟨4, x, b⟩ = none := by unfold loadA; rw [find_gone h]
theorem store_gone {M : Int → Option Bk} {b : Int} (h : M b = none) (chunk x : Int) (v : V) : storeA M chunk ⟨4, x, b⟩ v = none := by unfold storeA; rw [find_gone h]

/-- A store that isn't done. -/
theorem store_fail {w : World} {base pm bm nb last cap : Nat} {M : Int → Option Bk} (h : MemS w base pm bm nb last cap M) (chunk k b l vk vb vl : Int) (hl : I64 l) (hs : storeA M chunk ⟨k, b, l⟩ ⟨vk, vb, vl⟩ = none) :
    Calls Try.prog 17 #[.pointer (some ⟨pm, 0, none⟩), .int .i64 chunk, .agg #[.int .i64 k, .int .u64 b, .int .i64 l], .agg #[.int .i64 vk, .int .u64 vb, .int .i64 vl]] w fun e w' => e = .returned (.bool false) ∧ Below w.heap.size w w' := by
  unfold storeA at hs
  cases hf : findA M chunk ⟨k, b, l⟩ with
  | none => exact store_none h chunk k b l vk vb vl hl hf
  | some Bo =>
    obtain ⟨B, off⟩ := Bo
    rw [hf] at hs
    dsimp only at hs
    cases hfx : B.fixed with
    | true => exact store_fixed h chunk k b l vk vb vl hl B off hf hfx
    | false =>
      cases ht : takesA chunk vk with
      | false => exact store_not h chunk k b l vk vb vl hl B off hf hfx ht
      | true => simp [hfx, ht] at hs

theorem kept3 {W W' : World} (k : KeptT W W') {i : Nat} {x y z : Int} (h : W.heap[i]? = some (.cells #[.int .i64 x, .int .u64 y, .int .i64 z] 32 (0, 0))) :
    W'.heap[i]? = some (.cells #[.int .i64 x, .int .u64 y, .int .i64 z] 32 (0, 0)) ∧ W'.cell? ⟨i, 0, none⟩ = some (.int .i64 x) ∧ W'.cell? ⟨i, 1, none⟩ = some (.int .u64 y) ∧ W'.cell? ⟨i, 2, none⟩ = some (.int .i64 z) := by
  have h' := k.cells h (by decide)
  refine ⟨h', ?_, ?_, ?_⟩ <;> (rw [Lib.cell_of_heap h']; rfl)

/-- What is there behind the making of k blocks. -/
structure Many (w wr : World) (pm bm k : Nat) (vk vb vl : Int) (M : Int → Option Bk) : Prop where
  mem : MemS wr w.heap.size pm bm k k k M
  all : ∀ j : Int, 1 ≤ j → j ≤ k → ∃ B, M j = some B
  low : Below w.heap.size w wr
  box : wr.heap[w.heap.size]? = some (.cells #[.int .i64 vk, .int .u64 vb, .int .i64 vl] 32 (0, 0))

theorem neqV_same (x y z : Int) (w : World) : (binOp .neq 32 (.agg #[.int .i64 x, .int .u64 y, .int .i64 z]) (.agg #[.int .i64 x, .int .u64 y, .int .i64 z])).run Try.prog w = .ok (.bool false) w := by
  simp [go_sem]
theorem fix_there {w : World} {base pm bm nb last cap : Nat} {M : Int → Option Bk} (h : MemS w base pm bm nb last cap M) (k : Int) (hk : I64 k) (B : Bk) (hM : M k = some B) :
    Calls Try.prog 13 #[.pointer (some ⟨pm, 0, none⟩), .int .i64 k] w fun e w' => e = .returned (.bool true) ∧ Left w w' base pm bm nb last cap (setK M k (some { B with fixed := true })) := by
  have := fix_any h k hk
  rw [hM] at this
  exact this
theorem fix_gone {w : World} {base pm bm nb last cap : Nat} {M : Int → Option Bk} (h : MemS w base pm bm nb last cap M) (k : Int) (hk : I64 k) (hM : M k = none) :
    Calls Try.prog 13 #[.pointer (some ⟨pm, 0, none⟩), .int .i64 k] w fun e w' => e = .returned (.bool false) ∧ Left w w' base pm bm nb last cap M := by
  have := fix_any h k hk
  rw [hM] at this
  exact this
theorem free_lit {w : World} {base pm bm nb last cap : Nat} {M : Int → Option Bk} (h : MemS w base pm bm nb last cap M) (k : Int) (hk : I64 k) (b : Bool) (hM : (M k).isSome = b) :
    Calls Try.prog 11 #[.pointer (some ⟨pm, 0, none⟩), .int .i64 k] w fun e w' => e = .returned (.bool b) ∧ Left w w' base pm bm nb last cap (setK M k none) := by
  have := free_any h k hk
  rw [hM] at this
  exact this
theorem size_gone {w : World} {base pm bm nb last cap : Nat} {M : Int → Option Bk} (h : MemS w base pm bm nb last cap M) (k : Int) (hk : I64 k) (hM : M k = none) :
    Calls Try.prog 21 #[.pointer (some ⟨pm, 0, none⟩), .int .i64 k] w fun e w' => e = .returned (.tuple #[.int .i64 0, .bool false]) ∧ w' = w := by
  have := memsize_any h k hk
  rw [hM] at this
  exact this
theorem load_v {w : World} {base pm bm nb last cap : Nat} {M : Int → Option Bk} (h : MemS w base pm bm nb last cap M) (chunk b l x y z : Int) (q : Bool) (hl : I64 l) (h1 : ptrV_ (loadA M chunk ⟨4, b, l⟩) = ⟨x, y, z⟩) (h2 : (loadA M chunk ⟨4, b, l⟩).isSome = q) :
    Calls Try.prog 15 #[.pointer (some ⟨pm, 0, none⟩), .int .i64 chunk, .agg #[.int .i64 4, .int .u64 b, .int .i64 l]] w fun e w' => e = .returned (.tuple #[.agg #[.int .i64 x, .int .u64 y, .int .i64 z], .bool q]) ∧ Below w.heap.size w w' := by
  have := load_any h chunk 4 b l hl
  rw [h1, h2] at this
  exact this
theorem ptr_at {b off : Int} (hb : b ≠ 0) (w : World) :
    Calls Try.prog 23 #[.int .i64 b, .int .i64 off] w fun e w' => e = .returned (.agg #[.int .i64 4, .int .u64 (off % 18446744073709551616), .int .i64 b]) ∧ Below w.heap.size w w' := by
  have := ptrOf_any b off w
  rw [show ptrV b off = ⟨4, off % 18446744073709551616, b⟩ from by unfold ptrV; rw [if_neg hb]] at this
  exact this

set_option maxRecDepth 100000 in
set_option maxHeartbeats 16000000 in
theorem ends_core (A : Option Addr) (c : Nat) (l : List Int) (which chunk off vk vb vl : Int) (w : World) (h1 : RdL intCells 1 w (.slice A l.length c) l) (hl : ∀ x ∈ l, I64 x) (hi : I64 which) (ho : I64 off) (hvb : U64 vb) :
    Calls Try.prog 4 #[.slice A l.length c, .int .i64 which, .int .i64 chunk, .int .i64 off, .agg #[.int .i64 vk, .int .u64 vb, .int .i64 vl]] w fun e w' => e = .returned (.bool true) ∧ Below w.heap.size w w' := by
  have m1 := h1.len
  unfold maxLen at m1
  have hcap : l.length ≤ c ∧ c ≤ 9223372036854775807 := by
    obtain ⟨A', c', e, k1, k2, _⟩ := h1
    injection e with e1 e2 e3
    subst e3
    unfold maxLen at k2
    exact ⟨k1, k2⟩
  obtain ⟨hc1, hc2⟩ := hcap
  have H1 := Lib.hid h1
  have HL := Lib.hid hl
  clear h1 hl
  have hA1 := cell_alloc_if
  have hA2 := frozen_alloc_if
  have hA3 := cell_set_if
  go_enter Try.func4, Try.ntmps4
  go_upto_if 28 with (go_at_call 7; (with_reducible refine (fixed_any _).mono ?_); rintro e wF ⟨rfl, hbF⟩; have hzF := hbF.size; (try simp only [World.size_alloc, World.size_setCell, World.size_drew, World.heap_drewN] at hzF))
  go_cut [0] (fun s0 wx => ∃ n : Nat, s0 = .slice A n c ∧ n ≤ 50 ∧ n ≤ l.length ∧ wx = wF)
  case first =>
    by_cases hlt : l.length ≤ 50
    · have d : decide (50 < (l.length : Int)) = false := by simp; omega
      go_wp2
      go_meet
      exact ⟨l.length, rfl, hlt, Nat.le_refl _, rfl⟩
    · have d : decide (50 < (l.length : Int)) = true := by simp; omega
      have d2 : decide ((50 : Int) ≤ (c : Int)) = true := by simp; omega
      go_wp2
      go_meet
      exact ⟨50, rfl, by omega, by omega, rfl⟩
  case rest =>
    obtain ⟨n, rfl, hn50, hnl, rfl⟩ := hcut
    have hbox : wc.heap[w.heap.size]? = some (.cells #[.int .i64 vk, .int .u64 vb, .int .i64 vl] 32 (0, 0)) := (hbF.block _ (by simp)).trans (heap_alloc_new _ _)
    have HBX := Lib.hid hbox
    clear hbox
    go_wp2_with (go_at_call 8; refine (new_any _ w.heap.size (by omega)).mono ?_; rintro e w1 ⟨pm, bm, rfl, hm1, hb1⟩; have HM1 := Lib.hid hm1; clear hm1)
    have HMany : Hid (Many w w1 pm bm 0 vk vb vl (fun _ => none)) := Lib.hid ⟨HM1.out, fun j h1 h2 => by omega, by (repeat' (first | (with_reducible exact Below.refl _ _) | (with_reducible assumption) | (with_reducible refine Below.setCell ?_ ?_ _) | (with_reducible refine Below.alloc ?_ ?_ _) | (with_reducible refine Below.drew ?_) | (with_reducible refine below_drewN ?_ _) | (with_reducible refine below_next ?_ (by with_reducible assumption)) | omega | (dsimp only; omega) | (simp only [World.size_alloc, World.size_setCell, World.size_drew, World.heap_drewN]; omega))), (hb1.block _ (by omega)).trans HBX.out⟩
    clear HM1 HBX hb1 hbF hA1 hA2 hA3
    go_loopw [12, 14, 15, 34] (fun la s b i wr => ∃ (k : Nat) (M : Int → Option Bk), k ≤ n ∧ i = .int .i64 k ∧ la = .int .i64 k ∧ Hid (Many w wr pm bm k vk vb vl M)) (fun _ _ _ i _ => n - (intOf i).toNat)
    case atStart => exact ⟨0, _, by omega, rfl, rfl, HMany⟩
    case round =>
      obtain ⟨k, M, hk, rfl, rfl, HK⟩ := hrel
      by_cases hlt : k < n
      · obtain ⟨s, es⟩ : ∃ s, l[k]? = some s := ⟨_, List.getElem?_eq_getElem (by omega)⟩
        obtain ⟨b1, o1, d1, f1, _, _, hb1', hc1'⟩ := H1.out.some_ (by omega)
        injection f1 with f1 f1' f1''
        subst f1
        have p1 := hc1' k s es 0 _ rfl
        rw [Nat.mul_one, Nat.add_zero] at p1
        have p1' := (HK.out.low.cell (p := ⟨b1, _, none⟩) hb1').trans p1
        have hs := HL.out s (List.mem_of_getElem? es)
        clear hc1' p1 f1' f1'' es
        obtain ⟨sz, hsz⟩ : ∃ sz : Nat, wrap64 ((IntKind.u64.wrap s).tmod 100) = (sz : Int) ∧ sz < 100 := by
          have h0 : IntKind.u64.wrap s = s % 18446744073709551616 := IntKind.wrap_u64 s
          have h2 : (IntKind.u64.wrap s).tmod 100 = (s % 18446744073709551616) % 100 := by rw [h0]; exact Int.tmod_eq_emod_of_nonneg (by omega)
          refine ⟨(s % 18446744073709551616 % 100).toNat, ?_, by omega⟩
          rw [h2]; unfold wrap64; omega
        obtain ⟨hsz1, hsz2⟩ := hsz
        go_wp2_with (go_at_call 9; (with_reducible refine (alloc_lit HK.out.mem sz sz ((k : Int) + 1) rfl rfl (by omega) (by omega)).mono ?_); rintro e w2 ⟨rfl, hL⟩; have HLe := Lib.hid hL; clear hL)
        go_roundw
        case rel =>
          refine ⟨k + 1, _, by omega, by go_num, by go_num, Lib.hid ⟨HLe.out.mem, fun j h1 h2 => ?_, HK.out.low.trans HLe.out.low, (kept3 HLe.out.kept HK.out.box).1⟩⟩
          unfold setK
          by_cases cj : j = (k : Int) + 1
          · rw [if_pos cj]; exact ⟨_, rfl⟩
          · rw [if_neg cj]; exact HK.out.all j h1 (by omega)
        case measure => simp [intOf]; omega
      · have hkn : k = n := by omega
        subst hkn
        by_cases hk0 : k = 0
        · subst hk0
          go_wp2
          go_returns
          exact ⟨rfl, HK.out.low⟩
        · have hkp : 0 < k := by omega
          have hkI : (k : Int) ≠ 0 := by omega
          obtain ⟨jb, hjb, hj1, hj2⟩ : ∃ jb : Int, wrap64 (1 + wrap64 ((IntKind.u64.wrap which).tmod (k : Int))) = jb ∧ 1 ≤ jb ∧ jb ≤ k := by
            have h0 : IntKind.u64.wrap which = which % 18446744073709551616 := IntKind.wrap_u64 which
            have h2 : (IntKind.u64.wrap which).tmod (k : Int) = (which % 18446744073709551616) % (k : Int) := by rw [h0]; exact Int.tmod_eq_emod_of_nonneg (by omega)
            have h3 := Int.emod_nonneg (which % 18446744073709551616) hkI
            have h4 := Int.emod_lt_of_pos (which % 18446744073709551616) (show (0 : Int) < k by omega)
            refine ⟨(which % 18446744073709551616) % (k : Int) + 1, ?_, by omega, by omega⟩
            rw [h2]; unfold wrap64; omega
          obtain ⟨B, hMB⟩ := HK.out.all jb hj1 hj2
          have hIj : I64 jb := by unfold I64; omega
          have HPT := Lib.hid (fun w => ptr_at (b := jb) (off := off) (by omega) w)
          generalize off % 18446744073709551616 = ob at HPT
          obtain ⟨x, hx⟩ : ∃ x, ptrV_ (loadA M chunk ⟨4, ob, jb⟩) = x := ⟨_, rfl⟩
          obtain ⟨q, hq⟩ : ∃ q, (loadA M chunk ⟨4, ob, jb⟩).isSome = q := ⟨_, rfl⟩
          obtain ⟨x1, x2, x3⟩ := x
          have HLD := Lib.hid (fun W (hW : Ext wr W) => load_v (HK.out.mem.next (Ext.of hW)) chunk ob jb x1 x2 x3 q hIj hx hq)
          have hMF : setK M jb (some { B with fixed := true }) jb = some { B with fixed := true } := by simp [setK]
          have HLF : Hid (∀ W, MemS W w.heap.size pm bm k k k (setK M jb (some { B with fixed := true })) → Calls Try.prog 15 #[.pointer (some ⟨pm, 0, none⟩), .int .i64 chunk, .agg #[.int .i64 4, .int .u64 ob, .int .i64 jb]] W fun e w' => e = .returned (.tuple #[.agg #[.int .i64 x1, .int .u64 x2, .int .i64 x3], .bool q]) ∧ Below W.heap.size W w') :=
            Lib.hid (fun W h => load_v h chunk ob jb x1 x2 x3 q hIj (by rw [load_fixed hMB]; exact hx) (by rw [load_fixed hMB]; exact hq))
          have HIJ := Lib.hid hIj
          have HMB := Lib.hid hMB
          have HMF := Lib.hid hMF
          have hlow0 := HK.out.low
          have hz0 := hlow0.size
          have q9 := HK.out.box
          have l9 := lt_of_block q9
          clear hx hq hIj hMB hMF
          go_upto_region 20 with (first
            | (go_at_call 23; (with_reducible refine (HPT.out _).mono ?_); rintro e wP ⟨rfl, hbP⟩; have hzP := hbP.size; (try simp only [World.size_alloc, World.size_setCell, World.size_drew, World.heap_drewN] at hzP))
            | (go_at_call 15; (with_reducible refine (HLD.out _ (by unfold Ext; (repeat' (first | (with_reducible exact Below.refl _ _) | (with_reducible assumption) | (with_reducible refine Below.setCell ?_ ?_ _) | (with_reducible refine Below.alloc ?_ ?_ _) | (with_reducible refine Below.drew ?_) | (with_reducible refine below_drewN ?_ _) | (with_reducible refine below_next ?_ (by with_reducible assumption)) | omega | (dsimp only; omega) | (simp only [World.size_alloc, World.size_setCell, World.size_drew, World.heap_drewN]; omega))))).mono ?_); rintro e wL ⟨rfl, hbL⟩; have hzL := hbL.size; (try simp only [World.size_alloc, World.size_setCell, World.size_drew, World.heap_drewN] at hzL)))
          have o17 := heap_alloc_new wP (.cells #[.int .i64 4, .int .u64 ob, .int .i64 jb] 32)
          have o18 := heap_alloc_new wL (.cells #[.int .i64 x1, .int .u64 x2, .int .i64 x3] 32)
          obtain ⟨WA, hWA⟩ : ∃ WA, WA = wL.alloc (.cells #[.int .i64 x1, .int .u64 x2, .int .i64 x3] 32) := ⟨_, rfl⟩
          have hPA : Below (wP.alloc (.cells #[.int .i64 4, .int .u64 ob, .int .i64 jb] 32)).heap.size (wP.alloc (.cells #[.int .i64 4, .int .u64 ob, .int .i64 jb] 32)) WA := by rw [hWA]; (repeat' (first | (with_reducible exact Below.refl _ _) | (with_reducible assumption) | (with_reducible refine Below.setCell ?_ ?_ _) | (with_reducible refine Below.alloc ?_ ?_ _) | (with_reducible refine Below.drew ?_) | (with_reducible refine below_drewN ?_ _) | (with_reducible refine below_next ?_ (by with_reducible assumption)) | omega | (dsimp only; omega) | (simp only [World.size_alloc, World.size_setCell, World.size_drew, World.heap_drewN]; omega)))
          have hrA : Below wr.heap.size wr WA := by rw [hWA]; (repeat' (first | (with_reducible exact Below.refl _ _) | (with_reducible assumption) | (with_reducible refine Below.setCell ?_ ?_ _) | (with_reducible refine Below.alloc ?_ ?_ _) | (with_reducible refine Below.drew ?_) | (with_reducible refine below_drewN ?_ _) | (with_reducible refine below_next ?_ (by with_reducible assumption)) | omega | (dsimp only; omega) | (simp only [World.size_alloc, World.size_setCell, World.size_drew, World.heap_drewN]; omega)))
          have hlowA : Below w.heap.size w WA := below_step hlow0 hrA
          have r9 := (hrA.block w.heap.size l9).trans q9
          have r17 := (hPA.block wP.heap.size (by simp)).trans o17
          have r18 : WA.heap[wL.heap.size]? = some (.cells #[.int .i64 x1, .int .u64 x2, .int .i64 x3] 32 (0, 0)) := by rw [hWA]; exact o18
          have HRA := Lib.hid hrA
          have hszA : WA.heap.size = wL.heap.size + 1 := by rw [hWA]; simp
          obtain ⟨g17, h17⟩ : ∃ g, g = wP.heap.size := ⟨_, rfl⟩
          obtain ⟨g18, h18⟩ : ∃ g, g = wL.heap.size := ⟨_, rfl⟩
          have l17 : g17 < WA.heap.size := by omega
          have l18 : g18 < WA.heap.size := by omega
          have l9' : w.heap.size < WA.heap.size := lt_of_block r9
          rw [← hWA, ← h17, ← h18]
          rw [← h17] at r17
          rw [← h18] at r18
          obtain ⟨_, a90, a91, a92⟩ := kept3 (KeptT.refl WA) r9
          obtain ⟨_, a170, a171, a172⟩ := kept3 (KeptT.refl WA) r17
          clear hWA h17 h18 o17 o18 hPA hrA hszA hbP hzP hbL hzL q9
          have hEXTR : True := trivial
          go_upto_region 23 with (first
            | (go_at_call 13; (with_reducible refine (fix_there (HK.out.mem.next (below_step HRA.out (by (repeat' (first | (with_reducible exact Below.refl _ _) | (with_reducible assumption) | (with_reducible refine Below.setCell ?_ ?_ _) | (with_reducible refine Below.alloc ?_ ?_ _) | (with_reducible refine Below.drew ?_) | (with_reducible refine below_drewN ?_ _) | (with_reducible refine below_next ?_ (by with_reducible assumption)) | omega | (dsimp only; omega) | (simp only [World.size_alloc, World.size_setCell, World.size_drew, World.heap_drewN]; omega)))))) jb HIJ.out B HMB.out).mono ?_); rintro e wF ⟨rfl, hL⟩; have HF1 := Lib.hid hL.mem; have hlowF : Below w.heap.size w wF := Below.trans (by (repeat' (first | (with_reducible exact Below.refl _ _) | (with_reducible assumption) | (with_reducible refine Below.setCell ?_ ?_ _) | (with_reducible refine Below.alloc ?_ ?_ _) | (with_reducible refine Below.drew ?_) | (with_reducible refine below_drewN ?_ _) | (with_reducible refine below_next ?_ (by with_reducible assumption)) | omega | (dsimp only; omega) | (simp only [World.size_alloc, World.size_setCell, World.size_drew, World.heap_drewN]; omega)))) hL.low; have hzF := hL.kept.1; obtain ⟨s9, c90, c91, c92⟩ := kept3 hL.kept r9; obtain ⟨s17, c170, c171, c172⟩ := kept3 hL.kept r17; obtain ⟨s18, _⟩ := kept3 hL.kept r18; have m9 := lt_of_block s9; have m17 := lt_of_block s17; have m18 := lt_of_block s18; clear hL)
            | (go_at_call 17; (with_reducible refine (store_fail (HF1.out.next (by (repeat' (first | (with_reducible exact Below.refl _ _) | (with_reducible assumption) | (with_reducible refine Below.setCell ?_ ?_ _) | (with_reducible refine Below.alloc ?_ ?_ _) | (with_reducible refine Below.drew ?_) | (with_reducible refine below_drewN ?_ _) | (with_reducible refine below_next ?_ (by with_reducible assumption)) | omega | (dsimp only; omega) | (simp only [World.size_alloc, World.size_setCell, World.size_drew, World.heap_drewN]; omega))))) chunk 4 ob jb vk vb vl HIJ.out (store_fixed_no _ _ _)).mono ?_); rintro e wS ⟨rfl, hbS⟩; obtain ⟨hcS, hfS, hzS⟩ := cif hbS; (try simp only [World.size_alloc, World.size_setCell, World.size_drew, World.heap_drewN] at hzS))
            | (go_at_call 15; (with_reducible refine (HLF.out _ (HF1.out.next (by (repeat' (first | (with_reducible exact Below.refl _ _) | (with_reducible assumption) | (with_reducible refine Below.setCell ?_ ?_ _) | (with_reducible refine Below.alloc ?_ ?_ _) | (with_reducible refine Below.drew ?_) | (with_reducible refine below_drewN ?_ _) | (with_reducible refine below_next ?_ (by with_reducible assumption)) | omega | (dsimp only; omega) | (simp only [World.size_alloc, World.size_setCell, World.size_drew, World.heap_drewN]; omega)))))).mono ?_); rintro e wG ⟨rfl, hbG⟩; have hzG := hbG.size; (try simp only [World.size_alloc, World.size_setCell, World.size_drew, World.heap_drewN] at hzG)))
          have o20 := heap_alloc_new wG (.cells #[.int .i64 x1, .int .u64 x2, .int .i64 x3] 32)
          obtain ⟨WB, hWB⟩ : ∃ WB, WB = wG.alloc (.cells #[.int .i64 x1, .int .u64 x2, .int .i64 x3] 32) := ⟨_, rfl⟩
          have hFB : Below wF.heap.size wF WB := by rw [hWB]; (repeat' (first | (with_reducible exact Below.refl _ _) | (with_reducible assumption) | (with_reducible refine Below.setCell ?_ ?_ _) | (with_reducible refine Below.alloc ?_ ?_ _) | (with_reducible refine Below.drew ?_) | (with_reducible refine below_drewN ?_ _) | (with_reducible refine below_next ?_ (by with_reducible assumption)) | omega | (dsimp only; omega) | (simp only [World.size_alloc, World.size_setCell, World.size_drew, World.heap_drewN]; omega)))
          have hlowB : Below w.heap.size w WB := below_step hlowF hFB
          have t9 := (hFB.block w.heap.size m9).trans s9
          have t17 := (hFB.block g17 m17).trans s17
          have t18 := (hFB.block g18 m18).trans s18
          have t20 : WB.heap[wG.heap.size]? = some (.cells #[.int .i64 x1, .int .u64 x2, .int .i64 x3] 32 (0, 0)) := by rw [hWB]; exact o20
          have HFB := Lib.hid hFB
          have hszB : WB.heap.size = wG.heap.size + 1 := by rw [hWB]; simp
          obtain ⟨g20, h20⟩ : ∃ g, g = wG.heap.size := ⟨_, rfl⟩
          have l20 : g20 < WB.heap.size := by omega
          rw [← hWB, ← h20]
          rw [← h20] at t20
          obtain ⟨_, b90, b91, b92⟩ := kept3 (KeptT.refl WB) t9
          obtain ⟨_, b170, b171, b172⟩ := kept3 (KeptT.refl WB) t17
          obtain ⟨_, b180, b181, b182⟩ := kept3 (KeptT.refl WB) t18
          obtain ⟨_, b200, b201, b202⟩ := kept3 (KeptT.refl WB) t20
          have hzB := hlowB.size
          have hneq := neqV_same x1 x2 x3
          have hMX : setK (setK M jb (some { B with fixed := true })) jb none jb = none := by simp [setK]
          have hMX0 : (setK M jb (some { B with fixed := true }) jb).isSome = true := by simp [setK]
          have hMX1 : (setK (setK M jb (some { B with fixed := true })) jb none jb).isSome = false := by simp [setK]
          have hMY : setK (setK (setK M jb (some { B with fixed := true })) jb none) jb none jb = none := by simp [setK]
          have HMX0 := Lib.hid hMX0
          have HMX1 := Lib.hid hMX1
          have HMY := Lib.hid hMY
          clear hWB h20 o20 hFB hszB hbS hcS hfS hzS hbG hzG hlowF s9 s17 s18 c90 c91 c92 c170 c171 c172 a90 a91 a92 a170 a171 a172 hMX hMX0 hMX1 hMY r9 r17 r18
          go_wp2_with (first
            | (go_at_call 11; (with_reducible refine (free_lit (HX1.out.next (by (repeat' (first | (with_reducible exact Below.refl _ _) | (with_reducible assumption) | (with_reducible refine Below.setCell ?_ ?_ _) | (with_reducible refine Below.alloc ?_ ?_ _) | (with_reducible refine Below.drew ?_) | (with_reducible refine below_drewN ?_ _) | (with_reducible refine below_next ?_ (by with_reducible assumption)) | omega | (dsimp only; omega) | (simp only [World.size_alloc, World.size_setCell, World.size_drew, World.heap_drewN]; omega))))) jb HIJ.out false HMX1.out).mono ?_); rintro e wY ⟨rfl, hL⟩; have HX2 := Lib.hid hL.mem; have hlowY : Below w.heap.size w wY := Below.trans (by (repeat' (first | (with_reducible exact Below.refl _ _) | (with_reducible assumption) | (with_reducible refine Below.setCell ?_ ?_ _) | (with_reducible refine Below.alloc ?_ ?_ _) | (with_reducible refine Below.drew ?_) | (with_reducible refine below_drewN ?_ _) | (with_reducible refine below_next ?_ (by with_reducible assumption)) | omega | (dsimp only; omega) | (simp only [World.size_alloc, World.size_setCell, World.size_drew, World.heap_drewN]; omega)))) hL.low; have hzY := hlowY.size; obtain ⟨v9, e90, e91, e92⟩ := kept3 hL.kept u9; obtain ⟨v17, e170, e171, e172⟩ := kept3 hL.kept u17; have n9 := lt_of_block v9; have n17 := lt_of_block v17; clear hL)
            | (go_at_call 11; (with_reducible refine (free_lit (HF1.out.next (below_step HFB.out (by (repeat' (first | (with_reducible exact Below.refl _ _) | (with_reducible assumption) | (with_reducible refine Below.setCell ?_ ?_ _) | (with_reducible refine Below.alloc ?_ ?_ _) | (with_reducible refine Below.drew ?_) | (with_reducible refine below_drewN ?_ _) | (with_reducible refine below_next ?_ (by with_reducible assumption)) | omega | (dsimp only; omega) | (simp only [World.size_alloc, World.size_setCell, World.size_drew, World.heap_drewN]; omega)))))) jb HIJ.out true HMX0.out).mono ?_); rintro e wX ⟨rfl, hL⟩; have HX1 := Lib.hid hL.mem; have hlowX : Below w.heap.size w wX := Below.trans (by (repeat' (first | (with_reducible exact Below.refl _ _) | (with_reducible assumption) | (with_reducible refine Below.setCell ?_ ?_ _) | (with_reducible refine Below.alloc ?_ ?_ _) | (with_reducible refine Below.drew ?_) | (with_reducible refine below_drewN ?_ _) | (with_reducible refine below_next ?_ (by with_reducible assumption)) | omega | (dsimp only; omega) | (simp only [World.size_alloc, World.size_setCell, World.size_drew, World.heap_drewN]; omega)))) hL.low; have hzX := hlowX.size; obtain ⟨u9, d90, d91, d92⟩ := kept3 hL.kept t9; obtain ⟨u17, d170, d171, d172⟩ := kept3 hL.kept t17; clear hL)
            | (go_at_call 13; (with_reducible refine (fix_gone (HX2.out.next (by (repeat' (first | (with_reducible exact Below.refl _ _) | (with_reducible assumption) | (with_reducible refine Below.setCell ?_ ?_ _) | (with_reducible refine Below.alloc ?_ ?_ _) | (with_reducible refine Below.drew ?_) | (with_reducible refine below_drewN ?_ _) | (with_reducible refine below_next ?_ (by with_reducible assumption)) | omega | (dsimp only; omega) | (simp only [World.size_alloc, World.size_setCell, World.size_drew, World.heap_drewN]; omega))))) jb HIJ.out HMY.out).mono ?_); rintro e wZ ⟨rfl, hL⟩; have HX3 := Lib.hid hL.mem; have hlowZ : Below w.heap.size w wZ := Below.trans (by (repeat' (first | (with_reducible exact Below.refl _ _) | (with_reducible assumption) | (with_reducible refine Below.setCell ?_ ?_ _) | (with_reducible refine Below.alloc ?_ ?_ _) | (with_reducible refine Below.drew ?_) | (with_reducible refine below_drewN ?_ _) | (with_reducible refine below_next ?_ (by with_reducible assumption)) | omega | (dsimp only; omega) | (simp only [World.size_alloc, World.size_setCell, World.size_drew, World.heap_drewN]; omega)))) hL.low; have hzZ := hlowZ.size; obtain ⟨x9, f90, f91, f92⟩ := kept3 hL.kept v9; obtain ⟨x17, f170, f171, f172⟩ := kept3 hL.kept v17; have k9 := lt_of_block x9; have k17 := lt_of_block x17; clear hL)
            | (go_at_call 15; (with_reducible refine (load_noth (HX3.out.next (by (repeat' (first | (with_reducible exact Below.refl _ _) | (with_reducible assumption) | (with_reducible refine Below.setCell ?_ ?_ _) | (with_reducible refine Below.alloc ?_ ?_ _) | (with_reducible refine Below.drew ?_) | (with_reducible refine below_drewN ?_ _) | (with_reducible refine below_next ?_ (by with_reducible assumption)) | omega | (dsimp only; omega) | (simp only [World.size_alloc, World.size_setCell, World.size_drew, World.heap_drewN]; omega))))) chunk ob jb HIJ.out (load_gone HMY.out _ _)).mono ?_); rintro e wQ ⟨rfl, hbQ⟩; obtain ⟨hcQ, hfQ, hzQ⟩ := cif hbQ; (try simp only [World.size_alloc, World.size_setCell, World.size_drew, World.heap_drewN] at hzQ))
            | (go_at_call 21; (with_reducible refine (size_gone (HX3.out.next (by (repeat' (first | (with_reducible exact Below.refl _ _) | (with_reducible assumption) | (with_reducible refine Below.setCell ?_ ?_ _) | (with_reducible refine Below.alloc ?_ ?_ _) | (with_reducible refine Below.drew ?_) | (with_reducible refine below_drewN ?_ _) | (with_reducible refine below_next ?_ (by with_reducible assumption)) | omega | (dsimp only; omega) | (simp only [World.size_alloc, World.size_setCell, World.size_drew, World.heap_drewN]; omega))))) jb HIJ.out HMY.out).mono ?_); rintro e w' ⟨rfl, rfl⟩)
            | (go_at_call 17; (with_reducible refine (store_fail (HX3.out.next (by (repeat' (first | (with_reducible exact Below.refl _ _) | (with_reducible assumption) | (with_reducible refine Below.setCell ?_ ?_ _) | (with_reducible refine Below.alloc ?_ ?_ _) | (with_reducible refine Below.drew ?_) | (with_reducible refine below_drewN ?_ _) | (with_reducible refine below_next ?_ (by with_reducible assumption)) | omega | (dsimp only; omega) | (simp only [World.size_alloc, World.size_setCell, World.size_drew, World.heap_drewN]; omega))))) chunk 4 ob jb vk vb vl HIJ.out (store_gone HMY.out _ _ _)).mono ?_); rintro e wR ⟨rfl, hbR⟩; have hzR := hbR.size; (try simp only [World.size_alloc, World.size_setCell, World.size_drew, World.heap_drewN] at hzR))
            | (go_at_call 9; (with_reducible refine (alloc_lit (HX3.out.next (by (repeat' (first | (with_reducible exact Below.refl _ _) | (with_reducible assumption) | (with_reducible refine Below.setCell ?_ ?_ _) | (with_reducible refine Below.alloc ?_ ?_ _) | (with_reducible refine Below.drew ?_) | (with_reducible refine below_drewN ?_ _) | (with_reducible refine below_next ?_ (by with_reducible assumption)) | omega | (dsimp only; omega) | (simp only [World.size_alloc, World.size_setCell, World.size_drew, World.heap_drewN]; omega))))) 1 1 ((k : Int) + 1) rfl rfl (by omega) (by omega)).mono ?_); rintro e wT ⟨rfl, hL⟩; have hlowT : Below w.heap.size w wT := Below.trans (by (repeat' (first | (with_reducible exact Below.refl _ _) | (with_reducible assumption) | (with_reducible refine Below.setCell ?_ ?_ _) | (with_reducible refine Below.alloc ?_ ?_ _) | (with_reducible refine Below.drew ?_) | (with_reducible refine below_drewN ?_ _) | (with_reducible refine below_next ?_ (by with_reducible assumption)) | omega | (dsimp only; omega) | (simp only [World.size_alloc, World.size_setCell, World.size_drew, World.heap_drewN]; omega)))) hL.low; clear hL))
          go_returns
          exact ⟨rfl, hlowT⟩

end Go.Proofs.Ytddipbpllogbaaa
