/-
  A record's layout: the reference's walk.
-/
import Derived.Test.YteeojgepgjndgaaDoorCtypeW18
import Derived.Test.YteeojgepgjndgaaDoorStep
namespace Go.Proofs.YteeojgepgjndgaaDoor
open Go.RowKit
set_option linter.unusedVariables false
set_option linter.unusedSimpArgs false

/-- A layout under way: k members are there. -/
structure RLayS (w wr : World) (nm : ByteArray) (u : Bool) (out : List Fd) (a : Int) (A6 : Option Addr) (c6 k : Nat) : Prop where
  low : Below w.heap.size w wr
  size : w.heap.size + 2 ≤ wr.heap.size
  res : wr.heap[w.heap.size]? = some (.cells zeroLyC 36 (0, 0))
  box : wr.heap[w.heap.size + 1]? = some (.cells (lyBox nm u A6 k c6 a) 36 (0, 0))
  own : OwnL 59 fdC 8 (w.heap.size + 2) wr (.slice A6 k c6) out
  len : out.length = k
  tys : ∀ f ∈ out, RdT w f.ty
/-- One member more. -/
theorem RLayS.step {w wr w9 W11 w12 wf : World} {nm : ByteArray} {u : Bool} {out : List Fd} {a a2 : Int} {A6 A9 : Option Addr} {c6 c9 k : Nat} {f : Fd}
    (h : RLayS w wr nm u out a A6 c6 k) (h9 : Below wr.heap.size wr w9)
    (h11 : ∀ b, b ≠ w.heap.size + 1 → b < w9.heap.size → W11.heap[b]? = w9.heap[b]?) (hs11 : w9.heap.size + 1 = W11.heap.size) (hl11 : Below w.heap.size w9 W11)
    (hb11 : W11.heap[w.heap.size + 1]? = some (.cells (lyBox nm u A6 k c6 a2) 36 (0, 0)))
    (hown : OwnL 59 fdC 8 (w.heap.size + 2) w12 (.slice A9 (k + 1) c9) (out ++ [f])) (hg : W11.grownBy w12 (Value.slice A6 k c6).ownBlock) (hB : Below (w.heap.size + 2) W11 w12)
    (hty : RdT w f.ty)
    (hf : wf = w12.setCell ⟨w.heap.size + 1, 2, none⟩ (.slice A9 (k + 1) c9)) :
    RLayS w wf nm u (out ++ [f]) a2 A9 c9 (k + 1) := by
  have z1 := hB.size
  have z2 := h.size
  have z3 := h9.size
  have hsz : wf.heap.size = w12.heap.size := by rw [hf, size_setC]
  refine ⟨?_, by omega, ?_, ?_, ?_, ?_, ?_⟩
  · rw [hf]
    exact Below.setCell (Below.trans h.low (Below.trans (h9.mono (by omega)) (Below.trans hl11 (hB.mono (by omega))))) (by show w.heap.size ≤ w.heap.size + 1; omega) _
  · rw [hf, heap_setC _ _ _ _ _ (by omega), hB.block _ (by omega), h11 _ (by omega) (by omega), h9.block _ (by omega)]
    exact h.res
  · have hb12 : w12.heap[w.heap.size + 1]? = some (.cells (lyBox nm u A6 k c6 a2) 36 (0, 0)) := by
      rw [hB.block _ (by omega)]; exact hb11
    rw [hf]
    simp only [World.setCell, Array.getElem?_modify, if_true, hb12]
    rfl
  · refine hown.keep fun b hb => ?_
    have := (hown.lt hb).1
    rw [hf, heap_setC _ _ _ _ _ (by omega)]
  · rw [List.length_append, h.len]; rfl
  · intro g hg'
    rw [List.mem_append] at hg'
    rcases hg' with hg' | hg'
    · exact h.tys g hg'
    · simp at hg'; subst hg'; exact hty
theorem RLayS.next {w wr wr' : World} {nm : ByteArray} {u : Bool} {out : List Fd} {a : Int} {A6 : Option Addr} {c6 k : Nat} (h : RLayS w wr nm u out a A6 c6 k) (hb : Below wr.heap.size wr wr') : RLayS w wr' nm u out a A6 c6 k := by
  have z := h.size
  have z2 := hb.size
  exact ⟨h.low.trans (hb.mono (by omega)), by omega, (hb.block _ (by omega)).trans h.res, (hb.block _ (by omega)).trans h.box, h.own.next hb, h.len, h.tys⟩
/-- The names so far. -/
def SeenI (l : List Fd) (k : Nat) (seen : List (List UInt8)) : Prop := ∀ n, n ∈ seen ↔ ∃ (i : Nat) (x : Fd), i < k ∧ l[i]? = some x ∧ x.name.toList = n
theorem SeenI.step {l : List Fd} {k : Nat} {seen : List (List UInt8)} {f : Fd} (h : SeenI l k seen) (hf : l[k]? = some f) : SeenI l (k + 1) (f.name.toList :: seen) := by
  intro n
  rw [List.mem_cons, h n]
  constructor
  · rintro (rfl | ⟨i, x, hi, hx, e⟩)
    · exact ⟨k, f, by omega, hf, rfl⟩
    · exact ⟨i, x, by omega, hx, e⟩
  · rintro ⟨i, x, hi, hx, e⟩
    by_cases c : i < k
    · exact .inr ⟨i, x, c, hx, e⟩
    · obtain rfl : i = k := by omega
      rw [hf] at hx; injection hx with hx; subst hx
      exact .inl e.symm

theorem fd_news {w : World} {f : Fd} {k s n' : Int} {fl : Bool} {n : ByteArray} {A : Option Addr} {m c : Nat} (T : TypeId) (e : tyC f.ty = [.int .i64 k, .int .i64 s, .int .i64 n', .bool fl, .string n, .slice A m c]) (j : Nat) (u : Value) (h : (fdC f)[j]? = some u) :
    (w.alloc (.cells (fdBox k s n' fl n f.name A m c f.off) T)).cell? ((⟨w.heap.size, 0, none⟩ : Addr).add j) = some u := by
  rw [add_at, Lib.cell_of_heap (heap_alloc_new w _), Nat.zero_add, ← h]
  have ef : fdC f = (fdBox k s n' fl n f.name A m c f.off).toList := by unfold fdC; rw [e]; rfl
  rw [ef]
  simp
set_option maxRecDepth 100000 in
set_option maxHeartbeats 8000000 in
theorem rlay_any (nm : ByteArray) (u : Bool) (s sK : Value) (l : List Fd) (K : List Ly) (w : World) (hK : KOk K) (hs : RdFs w s l) (hk : RdLs w sK K) (hl : l.length ≤ 1048576) :
    Calls Tryd.prog 46 #[.string nm, .bool u, s, sK] w (LayP nm u K l w) := by
  obtain ⟨i0, hi0, hz0, hz1, hz2⟩ := info_parts fd_info
  obtain ⟨h1, h2⟩ := hs
  obtain ⟨A1, c1, rfl, hm1, hm2, hcells⟩ := h1
  have HC := Lib.hid hcells
  have HT := Lib.hid h2
  have HK := Lib.hid hK
  have HL := Lib.hid hk
  clear hcells h2 hK hk
  have hA1 := cell_alloc_if
  have hA2 := frozen_alloc_if
  have hA3 := cell_set_if
  go_enter Tryd.func46, Tryd.ntmps46
  go_wp2
  have hF0 : RLayS w ((w.alloc (.cells zeroLyC 36)).alloc (.cells (lyBox nm u none 0 0 1) 36)) nm u [] 1 none 0 0 := by
    have e1 : (w.alloc (.cells zeroLyC 36)).heap.size = w.heap.size + 1 := by simp
    refine ⟨by (repeat' (first | (with_reducible exact Below.refl _ _) | (with_reducible assumption) | (with_reducible refine Below.setCell ?_ ?_ _) | (with_reducible refine Below.alloc ?_ ?_ _) | (with_reducible refine Below.drew ?_) | (with_reducible refine below_drewN ?_ _) | (with_reducible refine below_next ?_ (by with_reducible assumption)) | omega | (dsimp only; omega) | (simp only [World.size_alloc, World.size_setCell, World.size_drew, World.heap_drewN]; omega))), by simp, ?_, ?_, OwnL.nil _ _ _ _ _, rfl, fun f hf => by cases hf⟩
    · rw [heap_alloc_old _ _ (by simp only [World.size_alloc]; omega), heap_alloc_new]
    · have := heap_alloc_new (w.alloc (.cells zeroLyC 36)) (.cells (lyBox nm u none 0 0 1) 36)
      rw [e1] at this
      exact this
  have HF := Lib.hid hF0
  clear hF0
  go_loopw [12, 13] (fun e12 k13 wr => ∃ (k : Nat) (e a : Int) (seen : List (List UInt8)) (out : List Fd) (A6 : Option Addr) (c6 : Nat), k ≤ l.length ∧ e12 = .int .i64 e ∧ k13 = .int .i64 k ∧ 0 ≤ e ∧ e ≤ 4194304 ∧ Al a ∧ Hid (layGo u K l 0 [] 0 1 [] = layGo u K (l.drop k) k seen e a out) ∧ Hid (SeenI l k seen) ∧ Hid (RLayS w wr nm u out a A6 c6 k)) (fun _ k13 _ => l.length - (intOf k13).toNat)
  case atStart => exact ⟨0, 0, 1, [], [], none, 0, by omega, rfl, rfl, by omega, by omega, .inl rfl, Lib.hid (by simp), Lib.hid (fun n => by simp), HF⟩
  case round =>
    obtain ⟨k, e, a, seen, out, A6, c6, hk, rfl, rfl, he1, he2, hal, HG, HSE, HS⟩ := hrel
    obtain rfl : out.length = k := HS.out.len
    have hlow := HS.out.low
    have hsz := HS.out.size
    by_cases hlt : out.length < l.length
    · obtain ⟨b1, o1, hA, hb1, hc1⟩ := HC.out (by omega)
      subst hA
      obtain ⟨f, hf⟩ : ∃ f, l[out.length]? = some f := ⟨_, List.getElem?_eq_getElem hlt⟩
      have hfm := List.mem_of_getElem? hf
      have hty := HT.out f hfm
      obtain ⟨tk, ts, tl, tf, tn, TA, tm, tc, et⟩ := tyC_form f.ty hty
      have HC1 := Lib.hid hc1
      have HTY := Lib.hid hty
      have HE := Lib.hid et
      have HFK := Lib.hid hf
      clear hc1 hty et hf
      go_upto_region 7 with (fail)
      obtain ⟨W1, rfl⟩ : ∃ W1, W1 = wr := ⟨_, rfl⟩
      go_loopw [14] (fun s14 wr => ∃ j : Nat, j ≤ out.length ∧ s14 = .int .i64 j ∧ Ext W1 wr ∧ Hid (∀ (i : Nat) (x : Fd), i < j → l[i]? = some x → ¬ x.name.toList = f.name.toList)) (fun s14 _ => out.length - (intOf s14).toNat)
      case atStart => exact ⟨0, by omega, rfl, Below.refl _ _, Lib.hid fun i x hi => absurd hi (by omega)⟩
      case round =>
        obtain ⟨j, hj, rfl, hX, HNO⟩ := hrel
        have hXb := Ext.of hX
        have hwz := hXb.size
        have hbx : Below w.heap.size w wr := hlow.trans (hXb.mono (by omega))
        by_cases hjk : j < out.length
        · obtain ⟨y, hy⟩ : ∃ y, l[j]? = some y := ⟨_, List.getElem?_eq_getElem (by omega)⟩
          have p0 := (hbx.cell (p := ⟨b1, _, none⟩) hb1).trans (HC1.out j y hy 0 _ rfl)
          have p1 := (hbx.cell (p := ⟨b1, _, none⟩) hb1).trans (HC1.out _ f HFK.out 0 _ rfl)
          simp only [Nat.add_zero] at p0 p1
          have hxR := cells_of_block ((hXb.block _ (by omega)).trans HS.out.res)
          have x0 := hxR.1 0
          have x1 := hxR.1 1
          have x2 := hxR.1 2
          have x3 := hxR.1 3
          have x4 := hxR.1 4
          have xf := hxR.2
          simp [zeroLyC] at x0 x1 x2 x3 x4
          have HY := Lib.hid hy
          clear hxR hy
          by_cases hn : y.name.toList = f.name.toList
          · have hb : (y.name.toList == f.name.toList) = true := by simpa using hn
            have HNM := Lib.hid hn
            clear hn
            go_upto_region 9 with (fail)
            refine wp_region_ext (by kernel_rfl) (by kernel_rfl) ?_
            repeat (first | go_big_quiet_skip | (go_big_quiet_want; go_big_quiet_op; first | go_big_quiet_on | (apply Exists.intro; refine ⟨fun W hW => ?_, ?_⟩; (focus (first
              | fail
              | exact rfl | (obtain ⟨hcW, hfW, hzW⟩ := cif (Ext.of hW); (try simp only [World.size_alloc, World.size_setCell, World.size_drew, World.heap_drewN] at hzW); simp [go_sem, *, ↓IntWalk.iteOmega]; (try exact rfl)))); go_big_quiet_on)))
            refine wpQuiet_nil ?_
            intro w' hw'
            have hbl := Ext.of hw'
            obtain ⟨hc, hf, hz⟩ := cif hbl
            (try simp only [World.size_alloc, World.size_setCell, World.size_drew, World.heap_drewN] at hz)
            clear hw'
            go_wp2
            ((try simp only [Exit.inBlock, Exit.then]); go_light; refine bodyPost_ret (by simp [results, Tryd.results46, go_sem, *, ↓IntWalk.iteOmega]; try rfl) rfl ?_)
            exact lay_err (HG.out.trans (layGo_seen HFK.out ((HSE.out _).2 ⟨j, y, hjk, HY.out, HNM.out⟩))) (by unfold Ext at *; (repeat' (first | (with_reducible exact Below.refl _ _) | (with_reducible assumption) | (with_reducible refine Below.setCell ?_ ?_ _) | (with_reducible refine Below.alloc ?_ ?_ _) | (with_reducible refine Below.drew ?_) | (with_reducible refine below_drewN ?_ _) | (with_reducible refine below_next ?_ (by with_reducible assumption)) | omega | (dsimp only; omega) | (simp only [World.size_alloc, World.size_setCell, World.size_drew, World.heap_drewN]; omega))))
          · have hb : (y.name.toList == f.name.toList) = false := by simpa using hn
            have HNM := Lib.hid hn
            clear hn
            go_upto_region 9 with (fail)
            refine wp_region_ext (by kernel_rfl) (by kernel_rfl) ?_
            repeat (first | go_big_quiet_skip | (go_big_quiet_want; go_big_quiet_op; first | go_big_quiet_on | (apply Exists.intro; refine ⟨fun W hW => ?_, ?_⟩; (focus (first
              | fail
              | exact rfl | (obtain ⟨hcW, hfW, hzW⟩ := cif (Ext.of hW); (try simp only [World.size_alloc, World.size_setCell, World.size_drew, World.heap_drewN] at hzW); simp [go_sem, *, ↓IntWalk.iteOmega]; (try exact rfl)))); go_big_quiet_on)))
            refine wpQuiet_nil ?_
            intro w' hw'
            have hbl := Ext.of hw'
            obtain ⟨hc, hf, hz⟩ := cif hbl
            (try simp only [World.size_alloc, World.size_setCell, World.size_drew, World.heap_drewN] at hz)
            clear hw'
            go_wp2
            go_roundw
            case rel => exact ⟨j + 1, by omega, by go_num, by unfold Ext at *; (repeat' (first | (with_reducible exact Below.refl _ _) | (with_reducible assumption) | (with_reducible refine Below.setCell ?_ ?_ _) | (with_reducible refine Below.alloc ?_ ?_ _) | (with_reducible refine Below.drew ?_) | (with_reducible refine below_drewN ?_ _) | (with_reducible refine below_next ?_ (by with_reducible assumption)) | omega | (dsimp only; omega) | (simp only [World.size_alloc, World.size_setCell, World.size_drew, World.heap_drewN]; omega))), Lib.hid fun i x hi hx => by
              by_cases c : i < j
              · exact HNO.out i x c hx
              · obtain rfl : i = j := by omega
                have := HY.out
                rw [hx] at this; injection this with this; subst this
                exact HNM.out⟩
            case measure => simp [intOf]; omega
        · have hkn : j = out.length := by omega
          subst hkn
          have hsn : f.name.toList ∉ seen := fun h => by
            obtain ⟨i, x, hi, hx, e⟩ := (HSE.out _).1 h
            exact HNO.out i x hi hx e
          obtain ⟨q0, q1, q2, q3, q4, q5, q6, q7⟩ := fd_cells HC1.out HFK.out HE.out
          have p0 := (hbx.cell (p := ⟨b1, _, none⟩) hb1).trans q0
          have p1 := (hbx.cell (p := ⟨b1, _, none⟩) hb1).trans q1
          have p2 := (hbx.cell (p := ⟨b1, _, none⟩) hb1).trans q2
          have p3 := (hbx.cell (p := ⟨b1, _, none⟩) hb1).trans q3
          have p4 := (hbx.cell (p := ⟨b1, _, none⟩) hb1).trans q4
          have p5 := (hbx.cell (p := ⟨b1, _, none⟩) hb1).trans q5
          have p6 := (hbx.cell (p := ⟨b1, _, none⟩) hb1).trans q6
          clear q0 q1 q2 q3 q4 q5 q6 q7
          have hxR := cells_of_block ((hXb.block _ (by omega)).trans HS.out.res)
          have x0 := hxR.1 0
          have x1 := hxR.1 1
          have x2 := hxR.1 2
          have x3 := hxR.1 3
          have x4 := hxR.1 4
          have xf := hxR.2
          simp [zeroLyC] at x0 x1 x2 x3 x4
          have hxB := cells_of_block ((hXb.block _ (by omega)).trans HS.out.box)
          have z0 := hxB.1 0
          have z1 := hxB.1 1
          have z2 := hxB.1 2
          have z3 := hxB.1 3
          have z4 := hxB.1 4
          have zf := hxB.2
          simp [lyBox] at z0 z1 z2 z3 z4
          have HSN := Lib.hid hsn
          clear hxR hxB hsn
          have hcomp := fun W (hW : Below w.heap.size w W) => rcomp_any f.ty K sK W HK.out (HL.out.next hW) (HTY.out.next hW)
          rw [tyV_of HE.out] at hcomp
          cases hcm : complete K f.ty with
          | none =>
            rw [show sizeT K f.ty = (0, 0) by unfold sizeT; rw [hcm]; rfl, hcm] at hcomp
            have HCOMP := Lib.hid hcomp
            have HCM := Lib.hid hcm
            clear hcomp hcm
            go_wp2_with (go_at_call 51; (with_reducible refine (HCOMP.out _ (by (repeat' (first | (with_reducible exact Below.refl _ _) | (with_reducible assumption) | (with_reducible refine Below.setCell ?_ ?_ _) | (with_reducible refine Below.alloc ?_ ?_ _) | (with_reducible refine Below.drew ?_) | (with_reducible refine below_drewN ?_ _) | (with_reducible refine below_next ?_ (by with_reducible assumption)) | omega | (dsimp only; omega) | (simp only [World.size_alloc, World.size_setCell, World.size_drew, World.heap_drewN]; omega))))).mono ?_); rintro e w' ⟨rfl, hbl⟩; obtain ⟨hc, hf, hz⟩ := cif hbl; (try simp only [World.size_alloc, World.size_setCell, World.size_drew, World.heap_drewN] at hz))
            ((try simp only [Exit.inBlock, Exit.then]); go_light; refine bodyPost_ret (by simp [results, Tryd.results46, go_sem, *, ↓IntWalk.iteOmega]; try rfl) rfl ?_)
            exact lay_err (HG.out.trans (layGo_none HFK.out HSN.out HCM.out)) (by (repeat' (first | (with_reducible exact Below.refl _ _) | (with_reducible assumption) | (with_reducible refine Below.setCell ?_ ?_ _) | (with_reducible refine Below.alloc ?_ ?_ _) | (with_reducible refine Below.drew ?_) | (with_reducible refine below_drewN ?_ _) | (with_reducible refine below_next ?_ (by with_reducible assumption)) | omega | (dsimp only; omega) | (simp only [World.size_alloc, World.size_setCell, World.size_drew, World.heap_drewN]; omega))))
          | some sb =>
            obtain ⟨sz, al⟩ := sb
            rw [show sizeT K f.ty = (sz, al) by unfold sizeT; rw [hcm]; rfl, hcm] at hcomp
            obtain ⟨g1, g2, g3⟩ := complete_ok K HK.out f.ty sz al hcm
            have g4 : 1 ≤ al ∧ al ≤ 8 := by unfold Al at g3; omega
            have g5 : 1 ≤ a ∧ a ≤ 8 := by unfold Al at hal; omega
            obtain ⟨ap, hap⟩ : ∃ x, x = upTo e al := ⟨_, rfl⟩
            have hub := upTo_ok he1 g3
            have hup := fun W => rup_any e al ⟨he1, by omega⟩ g3 W
            rw [← hap] at hub hup
            obtain ⟨hu1, hu2⟩ := hub
            have HUP := Lib.hid hup
            have HAP := Lib.hid hap
            have HCOMP := Lib.hid hcomp
            have HCM := Lib.hid hcm
            have HAL := Lib.hid (Al.max hal g3)
            clear hcomp hcm hup hap g3 hal
            cases u
            case false =>
              go_upto_region 19 with (first | (go_at_call 51; (with_reducible refine (HCOMP.out _ (by (repeat' (first | (with_reducible exact Below.refl _ _) | (with_reducible assumption) | (with_reducible refine Below.setCell ?_ ?_ _) | (with_reducible refine Below.alloc ?_ ?_ _) | (with_reducible refine Below.drew ?_) | (with_reducible refine below_drewN ?_ _) | (with_reducible refine below_next ?_ (by with_reducible assumption)) | omega | (dsimp only; omega) | (simp only [World.size_alloc, World.size_setCell, World.size_drew, World.heap_drewN]; omega))))).mono ?_); rintro e w' ⟨rfl, hbl⟩; obtain ⟨hc, hf, hz⟩ := cif hbl; (try simp only [World.size_alloc, World.size_setCell, World.size_drew, World.heap_drewN] at hz)) | (go_at_call 75; (with_reducible refine (HUP.out _).mono ?_); rintro e w' ⟨rfl, rfl⟩))
              obtain ⟨mx, hMX⟩ : ∃ x : Int, x = (if e < ap + sz then ap + sz else e) := ⟨_, rfl⟩
              rw [← hMX]
              obtain ⟨e2, hE2⟩ : ∃ x : Int, x = (if 4194304 < mx then 4194304 else mx) := ⟨_, rfl⟩
              obtain ⟨a2, hA2'⟩ : ∃ x : Int, x = (if a < al then al else a) := ⟨_, rfl⟩
              rw [← hE2, ← hA2']
              have HE2 : Hid (e2 = min (max e (ap + sz)) 4194304) := Lib.hid (by rw [hE2, hMX]; (repeat' split) <;> omega)
              have HA2 : Hid (a2 = max a al) := Lib.hid (by rw [hA2']; split <;> omega)
              clear hE2 hA2' hMX
              obtain ⟨W10, hW10⟩ : ∃ W, W = w'.setCell ⟨w.heap.size + 1, 4, none⟩ (.int .i64 a2) := ⟨_, rfl⟩
              rw [← hW10]
              have hlw9 : Below W1.heap.size W1 w' := by unfold Ext at *; (repeat' (first | (with_reducible exact Below.refl _ _) | (with_reducible assumption) | (with_reducible refine Below.setCell ?_ ?_ _) | (with_reducible refine Below.alloc ?_ ?_ _) | (with_reducible refine Below.drew ?_) | (with_reducible refine below_drewN ?_ _) | (with_reducible refine below_next ?_ (by with_reducible assumption)) | omega | (dsimp only; omega) | (simp only [World.size_alloc, World.size_setCell, World.size_drew, World.heap_drewN]; omega)))
              have l9 := (hlw9.block (w.heap.size + 1) (by omega)).trans HS.out.box
              have z10 : W10.heap.size = w'.heap.size := by rw [hW10]; simp only [size_setC]
              have l10 : W10.heap[w.heap.size + 1]? = some (.cells (lyBox nm false A6 out.length c6 a2) 36 (0, 0)) := by
                rw [hW10]
                exact set_ly (a := a) _ l9
              have o10 : ∀ b, b ≠ w.heap.size + 1 → W10.heap[b]? = w'.heap[b]? := fun b hb2 => by
                rw [hW10, heap_setC _ _ _ _ _ (by omega)]
              have b10 : Below w.heap.size w' W10 := by rw [hW10]; (repeat' (first | (with_reducible exact Below.refl _ _) | (with_reducible assumption) | (with_reducible refine Below.setCell ?_ ?_ _) | (with_reducible refine Below.alloc ?_ ?_ _) | (with_reducible refine Below.drew ?_) | (with_reducible refine below_drewN ?_ _) | (with_reducible refine below_next ?_ (by with_reducible assumption)) | omega | (dsimp only; omega) | (simp only [World.size_alloc, World.size_setCell, World.size_drew, World.heap_drewN]; omega)))
              have hw10 : Below w.heap.size w W10 := hlow.trans ((hlw9.mono (by omega)).trans b10)
              clear hW10 hc hf hbl p0 p1 p2 p3 p4 p5 p6 x0 x1 x2 x3 x4 xf z0 z1 z2 z3 z4 zf
              have u2 : W10.drew.cell? ⟨w.heap.size + 1, 2, none⟩ = some (.slice A6 out.length c6) := by
                have := (cells_of_block l10).1 2
                simpa [lyBox] using this
              have HL10 := Lib.hid l10
              have HO10 := Lib.hid o10
              have HB10 := Lib.hid b10
              have HLW9 := Lib.hid hlw9
              have zw1 := hlw9.size
              have zz1 : w'.heap.size ≤ W10.heap.size := by omega
              have zz2 : W10.heap.size ≤ w'.heap.size := by omega
              have u1 : W10.cell? ⟨w.heap.size + 1, 2, none⟩ = some (.slice A6 out.length c6) := u2
              have u3 : ∀ o, (W10.alloc o).drew.cell? ⟨w.heap.size + 1, 2, none⟩ = some (.slice A6 out.length c6) := fun o => by
                rw [← u1]
                exact World.cell?_of_block (a := ⟨w.heap.size + 1, 2, none⟩) (heap_alloc_old W10 o (show w.heap.size + 1 < W10.heap.size by omega))
              have u4 : ∀ o, (W10.drew.alloc o).cell? ⟨w.heap.size + 1, 2, none⟩ = some (.slice A6 out.length c6) := u3
              clear l9 l10 o10 b10 hlw9 z10
              refine wp_region_held_drew (S := fun W => Below w.heap.size w W) (by kernel_rfl) hw10.drew (fun hHeld => ?_)
              refine takeR (i := 0) (some 77) (v := ?_) rfl rfl (by kernel_rfl) (by kernel_rfl) (by kernel_rfl) (fun _ _ _ h => h) (Or.inl ⟨by rfl, ?_⟩) (by assumption) ?_
              rotate_left
              (focus (intro W hSw; (try dsimp only at hSw); obtain ⟨q0, q1, q2, q3, q4, q5, q6, q7⟩ := fd_cells HC1.out HFK.out HE.out; have p0 := (hSw.cell (p := ⟨b1, _, none⟩) hb1).trans q0; have p1 := (hSw.cell (p := ⟨b1, _, none⟩) hb1).trans q1; have p2 := (hSw.cell (p := ⟨b1, _, none⟩) hb1).trans q2; have p3 := (hSw.cell (p := ⟨b1, _, none⟩) hb1).trans q3; have p4 := (hSw.cell (p := ⟨b1, _, none⟩) hb1).trans q4; have p5 := (hSw.cell (p := ⟨b1, _, none⟩) hb1).trans q5; have p6 := (hSw.cell (p := ⟨b1, _, none⟩) hb1).trans q6; clear q0 q1 q2 q3 q4 q5 q6 q7; go_simp; (try with_reducible rfl)))
              (try simp only [Act.put, List.setIfInBounds_toArray, List.set_cons_zero, List.set_cons_succ])
              refine takeR (i := 2) (some 79) (v := ?_) rfl rfl (by kernel_rfl) (by kernel_rfl) (by kernel_rfl) (fun _ _ _ h => h) (Or.inl ⟨by rfl, ?_⟩) (by assumption) ?_
              rotate_left
              (focus (intro W hSw; (try dsimp only at hSw); obtain ⟨q0, q1, q2, q3, q4, q5, q6, q7⟩ := fd_cells HC1.out HFK.out HE.out; have p0 := (hSw.cell (p := ⟨b1, _, none⟩) hb1).trans q0; have p1 := (hSw.cell (p := ⟨b1, _, none⟩) hb1).trans q1; have p2 := (hSw.cell (p := ⟨b1, _, none⟩) hb1).trans q2; have p3 := (hSw.cell (p := ⟨b1, _, none⟩) hb1).trans q3; have p4 := (hSw.cell (p := ⟨b1, _, none⟩) hb1).trans q4; have p5 := (hSw.cell (p := ⟨b1, _, none⟩) hb1).trans q5; have p6 := (hSw.cell (p := ⟨b1, _, none⟩) hb1).trans q6; clear q0 q1 q2 q3 q4 q5 q6 q7; go_simp; (try with_reducible rfl)))
              (try simp only [Act.put, List.setIfInBounds_toArray, List.set_cons_zero, List.set_cons_succ])
              refine takeR (i := 3) (some 80) (v := ?_) rfl rfl (by kernel_rfl) (by kernel_rfl) (by kernel_rfl) (fun _ _ _ h => h) (Or.inl ⟨by rfl, ?_⟩) (by assumption) ?_
              rotate_left
              (focus (intro W hSw; (try dsimp only at hSw); obtain ⟨q0, q1, q2, q3, q4, q5, q6, q7⟩ := fd_cells HC1.out HFK.out HE.out; have p0 := (hSw.cell (p := ⟨b1, _, none⟩) hb1).trans q0; have p1 := (hSw.cell (p := ⟨b1, _, none⟩) hb1).trans q1; have p2 := (hSw.cell (p := ⟨b1, _, none⟩) hb1).trans q2; have p3 := (hSw.cell (p := ⟨b1, _, none⟩) hb1).trans q3; have p4 := (hSw.cell (p := ⟨b1, _, none⟩) hb1).trans q4; have p5 := (hSw.cell (p := ⟨b1, _, none⟩) hb1).trans q5; have p6 := (hSw.cell (p := ⟨b1, _, none⟩) hb1).trans q6; clear q0 q1 q2 q3 q4 q5 q6 q7; go_simp; (try with_reducible rfl)))
              (try simp only [Act.put, List.setIfInBounds_toArray, List.set_cons_zero, List.set_cons_succ])
              refine takeR (i := 4) (some 81) (v := ?_) rfl rfl (by kernel_rfl) (by kernel_rfl) (by kernel_rfl) (fun _ _ _ h => h) (Or.inl ⟨by rfl, ?_⟩) (by assumption) ?_
              rotate_left
              (focus (intro W hSw; (try dsimp only at hSw); obtain ⟨q0, q1, q2, q3, q4, q5, q6, q7⟩ := fd_cells HC1.out HFK.out HE.out; have p0 := (hSw.cell (p := ⟨b1, _, none⟩) hb1).trans q0; have p1 := (hSw.cell (p := ⟨b1, _, none⟩) hb1).trans q1; have p2 := (hSw.cell (p := ⟨b1, _, none⟩) hb1).trans q2; have p3 := (hSw.cell (p := ⟨b1, _, none⟩) hb1).trans q3; have p4 := (hSw.cell (p := ⟨b1, _, none⟩) hb1).trans q4; have p5 := (hSw.cell (p := ⟨b1, _, none⟩) hb1).trans q5; have p6 := (hSw.cell (p := ⟨b1, _, none⟩) hb1).trans q6; clear q0 q1 q2 q3 q4 q5 q6 q7; go_simp; (try with_reducible rfl)))
              (try simp only [Act.put, List.setIfInBounds_toArray, List.set_cons_zero, List.set_cons_succ])
              refine takeR (i := 5) (some 82) (v := ?_) rfl rfl (by kernel_rfl) (by kernel_rfl) (by kernel_rfl) (fun _ _ _ h => h) (Or.inl ⟨by rfl, ?_⟩) (by assumption) ?_
              rotate_left
              (focus (intro W hSw; (try dsimp only at hSw); obtain ⟨q0, q1, q2, q3, q4, q5, q6, q7⟩ := fd_cells HC1.out HFK.out HE.out; have p0 := (hSw.cell (p := ⟨b1, _, none⟩) hb1).trans q0; have p1 := (hSw.cell (p := ⟨b1, _, none⟩) hb1).trans q1; have p2 := (hSw.cell (p := ⟨b1, _, none⟩) hb1).trans q2; have p3 := (hSw.cell (p := ⟨b1, _, none⟩) hb1).trans q3; have p4 := (hSw.cell (p := ⟨b1, _, none⟩) hb1).trans q4; have p5 := (hSw.cell (p := ⟨b1, _, none⟩) hb1).trans q5; have p6 := (hSw.cell (p := ⟨b1, _, none⟩) hb1).trans q6; clear q0 q1 q2 q3 q4 q5 q6 q7; go_simp; (try with_reducible rfl)))
              (try simp only [Act.put, List.setIfInBounds_toArray, List.set_cons_zero, List.set_cons_succ])
              refine takeR (i := 6) (some 83) (v := ?_) rfl rfl (by kernel_rfl) (by kernel_rfl) (by kernel_rfl) (fun _ _ _ h => h) (Or.inl ⟨by rfl, ?_⟩) (by assumption) ?_
              rotate_left
              (focus (intro W hSw; (try dsimp only at hSw); obtain ⟨q0, q1, q2, q3, q4, q5, q6, q7⟩ := fd_cells HC1.out HFK.out HE.out; have p0 := (hSw.cell (p := ⟨b1, _, none⟩) hb1).trans q0; have p1 := (hSw.cell (p := ⟨b1, _, none⟩) hb1).trans q1; have p2 := (hSw.cell (p := ⟨b1, _, none⟩) hb1).trans q2; have p3 := (hSw.cell (p := ⟨b1, _, none⟩) hb1).trans q3; have p4 := (hSw.cell (p := ⟨b1, _, none⟩) hb1).trans q4; have p5 := (hSw.cell (p := ⟨b1, _, none⟩) hb1).trans q5; have p6 := (hSw.cell (p := ⟨b1, _, none⟩) hb1).trans q6; clear q0 q1 q2 q3 q4 q5 q6 q7; go_simp; (try with_reducible rfl)))
              (try simp only [Act.put, List.setIfInBounds_toArray, List.set_cons_zero, List.set_cons_succ])
              refine takeR (i := 7) (some 84) (v := ?_) rfl rfl (by kernel_rfl) (by kernel_rfl) (by kernel_rfl) (fun _ _ _ h => h) (Or.inl ⟨by rfl, ?_⟩) (by assumption) ?_
              rotate_left
              (focus (intro W hSw; (try dsimp only at hSw); obtain ⟨q0, q1, q2, q3, q4, q5, q6, q7⟩ := fd_cells HC1.out HFK.out HE.out; have p0 := (hSw.cell (p := ⟨b1, _, none⟩) hb1).trans q0; have p1 := (hSw.cell (p := ⟨b1, _, none⟩) hb1).trans q1; have p2 := (hSw.cell (p := ⟨b1, _, none⟩) hb1).trans q2; have p3 := (hSw.cell (p := ⟨b1, _, none⟩) hb1).trans q3; have p4 := (hSw.cell (p := ⟨b1, _, none⟩) hb1).trans q4; have p5 := (hSw.cell (p := ⟨b1, _, none⟩) hb1).trans q5; have p6 := (hSw.cell (p := ⟨b1, _, none⟩) hb1).trans q6; clear q0 q1 q2 q3 q4 q5 q6 q7; go_simp; (try with_reducible rfl)))
              (try simp only [Act.put, List.setIfInBounds_toArray, List.set_cons_zero, List.set_cons_succ])
              refine takeR (i := 8) (some 85) (v := ?_) rfl rfl (by kernel_rfl) (by kernel_rfl) (by kernel_rfl) (fun _ _ _ h => h) (Or.inl ⟨by rfl, ?_⟩) (by assumption) ?_
              rotate_left
              (focus (intro W hSw; (try dsimp only at hSw); obtain ⟨q0, q1, q2, q3, q4, q5, q6, q7⟩ := fd_cells HC1.out HFK.out HE.out; have p0 := (hSw.cell (p := ⟨b1, _, none⟩) hb1).trans q0; have p1 := (hSw.cell (p := ⟨b1, _, none⟩) hb1).trans q1; have p2 := (hSw.cell (p := ⟨b1, _, none⟩) hb1).trans q2; have p3 := (hSw.cell (p := ⟨b1, _, none⟩) hb1).trans q3; have p4 := (hSw.cell (p := ⟨b1, _, none⟩) hb1).trans q4; have p5 := (hSw.cell (p := ⟨b1, _, none⟩) hb1).trans q5; have p6 := (hSw.cell (p := ⟨b1, _, none⟩) hb1).trans q6; clear q0 q1 q2 q3 q4 q5 q6 q7; go_simp; (try with_reducible rfl)))
              (try simp only [Act.put, List.setIfInBounds_toArray, List.set_cons_zero, List.set_cons_succ])
              refine takeR (i := 9) (some 86) (v := ?_) rfl rfl (by kernel_rfl) (by kernel_rfl) (by kernel_rfl) (fun _ _ _ h => h) (Or.inl ⟨by rfl, ?_⟩) (by assumption) ?_
              rotate_left
              (focus (intro W hSw; (try dsimp only at hSw); obtain ⟨q0, q1, q2, q3, q4, q5, q6, q7⟩ := fd_cells HC1.out HFK.out HE.out; have p0 := (hSw.cell (p := ⟨b1, _, none⟩) hb1).trans q0; have p1 := (hSw.cell (p := ⟨b1, _, none⟩) hb1).trans q1; have p2 := (hSw.cell (p := ⟨b1, _, none⟩) hb1).trans q2; have p3 := (hSw.cell (p := ⟨b1, _, none⟩) hb1).trans q3; have p4 := (hSw.cell (p := ⟨b1, _, none⟩) hb1).trans q4; have p5 := (hSw.cell (p := ⟨b1, _, none⟩) hb1).trans q5; have p6 := (hSw.cell (p := ⟨b1, _, none⟩) hb1).trans q6; clear q0 q1 q2 q3 q4 q5 q6 q7; go_simp; (try with_reducible rfl)))
              (try simp only [Act.put, List.setIfInBounds_toArray, List.set_cons_zero, List.set_cons_succ])
              refine takeR (i := 10) (some 87) (v := ?_) rfl rfl (by kernel_rfl) (by kernel_rfl) (by kernel_rfl) (fun _ _ _ h => h) (Or.inl ⟨by rfl, ?_⟩) (by assumption) ?_
              rotate_left
              (focus (intro W hSw; (try dsimp only at hSw); obtain ⟨q0, q1, q2, q3, q4, q5, q6, q7⟩ := fd_cells HC1.out HFK.out HE.out; have p0 := (hSw.cell (p := ⟨b1, _, none⟩) hb1).trans q0; have p1 := (hSw.cell (p := ⟨b1, _, none⟩) hb1).trans q1; have p2 := (hSw.cell (p := ⟨b1, _, none⟩) hb1).trans q2; have p3 := (hSw.cell (p := ⟨b1, _, none⟩) hb1).trans q3; have p4 := (hSw.cell (p := ⟨b1, _, none⟩) hb1).trans q4; have p5 := (hSw.cell (p := ⟨b1, _, none⟩) hb1).trans q5; have p6 := (hSw.cell (p := ⟨b1, _, none⟩) hb1).trans q6; clear q0 q1 q2 q3 q4 q5 q6 q7; go_simp; (try with_reducible rfl)))
              (try simp only [Act.put, List.setIfInBounds_toArray, List.set_cons_zero, List.set_cons_succ])
              refine takeR (i := 11) (some 88) (v := ?_) rfl rfl (by kernel_rfl) (by kernel_rfl) (by kernel_rfl) (fun _ _ _ h => h) (Or.inl ⟨by rfl, ?_⟩) (by assumption) ?_
              rotate_left
              (focus (intro W hSw; (try dsimp only at hSw); obtain ⟨q0, q1, q2, q3, q4, q5, q6, q7⟩ := fd_cells HC1.out HFK.out HE.out; have p0 := (hSw.cell (p := ⟨b1, _, none⟩) hb1).trans q0; have p1 := (hSw.cell (p := ⟨b1, _, none⟩) hb1).trans q1; have p2 := (hSw.cell (p := ⟨b1, _, none⟩) hb1).trans q2; have p3 := (hSw.cell (p := ⟨b1, _, none⟩) hb1).trans q3; have p4 := (hSw.cell (p := ⟨b1, _, none⟩) hb1).trans q4; have p5 := (hSw.cell (p := ⟨b1, _, none⟩) hb1).trans q5; have p6 := (hSw.cell (p := ⟨b1, _, none⟩) hb1).trans q6; clear q0 q1 q2 q3 q4 q5 q6 q7; go_simp; (try with_reducible rfl)))
              (try simp only [Act.put, List.setIfInBounds_toArray, List.set_cons_zero, List.set_cons_succ])
              refine takeR (i := 12) (some 89) (v := ?_) rfl rfl (by kernel_rfl) (by kernel_rfl) (by kernel_rfl) (fun _ _ _ h => h) (Or.inl ⟨by rfl, ?_⟩) (by assumption) ?_
              rotate_left
              (focus (intro W hSw; (try dsimp only at hSw); obtain ⟨q0, q1, q2, q3, q4, q5, q6, q7⟩ := fd_cells HC1.out HFK.out HE.out; have p0 := (hSw.cell (p := ⟨b1, _, none⟩) hb1).trans q0; have p1 := (hSw.cell (p := ⟨b1, _, none⟩) hb1).trans q1; have p2 := (hSw.cell (p := ⟨b1, _, none⟩) hb1).trans q2; have p3 := (hSw.cell (p := ⟨b1, _, none⟩) hb1).trans q3; have p4 := (hSw.cell (p := ⟨b1, _, none⟩) hb1).trans q4; have p5 := (hSw.cell (p := ⟨b1, _, none⟩) hb1).trans q5; have p6 := (hSw.cell (p := ⟨b1, _, none⟩) hb1).trans q6; clear q0 q1 q2 q3 q4 q5 q6 q7; go_simp; (try with_reducible rfl)))
              (try simp only [Act.put, List.setIfInBounds_toArray, List.set_cons_zero, List.set_cons_succ])
              refine takeR (i := 13) (some 90) (v := ?_) rfl rfl (by kernel_rfl) (by kernel_rfl) (by kernel_rfl) (fun _ _ _ h => h) (Or.inl ⟨by rfl, ?_⟩) (by assumption) ?_
              rotate_left
              (focus (intro W hSw; (try dsimp only at hSw); obtain ⟨q0, q1, q2, q3, q4, q5, q6, q7⟩ := fd_cells HC1.out HFK.out HE.out; have p0 := (hSw.cell (p := ⟨b1, _, none⟩) hb1).trans q0; have p1 := (hSw.cell (p := ⟨b1, _, none⟩) hb1).trans q1; have p2 := (hSw.cell (p := ⟨b1, _, none⟩) hb1).trans q2; have p3 := (hSw.cell (p := ⟨b1, _, none⟩) hb1).trans q3; have p4 := (hSw.cell (p := ⟨b1, _, none⟩) hb1).trans q4; have p5 := (hSw.cell (p := ⟨b1, _, none⟩) hb1).trans q5; have p6 := (hSw.cell (p := ⟨b1, _, none⟩) hb1).trans q6; clear q0 q1 q2 q3 q4 q5 q6 q7; go_simp; (try with_reducible rfl)))
              (try simp only [Act.put, List.setIfInBounds_toArray, List.set_cons_zero, List.set_cons_succ])
              refine wpAnyH_ready (rs := [1, 14]) (by kernel_rfl) (by simp) ?_
              refine AllReadyH.cons rfl (fun K hK => ?_) (AllReadyH.cons rfl (fun K hK => ?_) AllReadyH.nil)
              · skip
                go_simp
                refine hK.out _ _ (by (repeat' (first | (with_reducible exact Below.refl _ _) | (with_reducible assumption) | (with_reducible refine Below.setCell ?_ ?_ _) | (with_reducible refine Below.alloc ?_ ?_ _) | (with_reducible refine Below.drew ?_) | (with_reducible refine below_drewN ?_ _) | (with_reducible refine below_next ?_ (by with_reducible assumption)) | omega | (dsimp only; omega) | (simp only [World.size_alloc, World.size_setCell, World.size_drew, World.heap_drewN]; omega)))) (fun hHeld => ?_)
                (try simp only [Act.put, List.setIfInBounds_toArray, List.set_cons_zero, List.set_cons_succ])
                refine wpAnyH_ready (rs := [14]) (by kernel_rfl) (by simp) ?_
                refine AllReadyH.cons rfl (fun K hK => ?_) AllReadyH.nil
                go_simp
                refine hK.out _ _ (by (repeat' (first | (with_reducible exact Below.refl _ _) | (with_reducible assumption) | (with_reducible refine Below.setCell ?_ ?_ _) | (with_reducible refine Below.alloc ?_ ?_ _) | (with_reducible refine Below.drew ?_) | (with_reducible refine below_drewN ?_ _) | (with_reducible refine below_next ?_ (by with_reducible assumption)) | omega | (dsimp only; omega) | (simp only [World.size_alloc, World.size_setCell, World.size_drew, World.heap_drewN]; omega)))) (fun hHeld => ?_)
                (try simp only [Act.put, List.setIfInBounds_toArray, List.set_cons_zero, List.set_cons_succ])
                refine wpAnyH_ready (rs := [15]) (by kernel_rfl) (by simp) ?_
                refine AllReadyH.cons rfl (fun K hK => ?_) AllReadyH.nil
                refine step_app (f := fdC) (w.heap.size + 2) rfl (.tmp 78) (.tmp 91) 34 rfl i0 _ 96 Tryd.underlying34 hi0 hz0 hz1 hz2 rfl (by decide) (.slice A6 out.length c6) out rfl ?c0 ⟨W10.heap.size, 0, none⟩ 1 ⟨f.name, f.ty, ap⟩ rfl (fdC_len _) (fd_news (w := W10.drew) (f := ⟨f.name, f.ty, ap⟩) 59 HE.out) (fdC_one (f := ⟨f.name, f.ty, ap⟩) HTY.out) ?c3 ?c4 ?c5 ?_
                case c0 =>
                  refine HS.out.own.keep fun b hb => ?_
                  have hbl' := HS.out.own.lt hb
                  exact (heap_alloc_old W10.drew _ (by show b < W10.heap.size; omega)).trans ((HO10.out b (by omega)).trans (HLW9.out.block b hbl'.2))
                case c3 => unfold maxLen; omega
                case c4 => omega
                case c5 => show w.heap.size + 2 ≤ (W10.heap.push _).size; rw [Array.size_push]; omega
                intro A9 c9 w12 hown hg hB
                have hb12 : w12.heap[w.heap.size + 1]? = some (.cells (lyBox nm false A6 out.length c6 a2) 36 (0, 0)) := by
                  rw [hB.block _ (by omega)]
                  exact (heap_alloc_old W10.drew _ (by show w.heap.size + 1 < W10.heap.size; omega)).trans HL10.out
                have hx12 := cells_of_block hb12
                have r2 := hx12.1 2
                have rf := hx12.2
                simp [lyBox] at r2
                have hw12 : Below w.heap.size w w12 := (hw10.drew.alloc (by show w.heap.size ≤ W10.heap.size; omega) _).trans (hB.mono (by omega))
                have HOWN := Lib.hid hown
                have HG12 := Lib.hid hg
                have HB12 := Lib.hid hB
                clear hb12 hx12 hown hg hB u1 u2 u3 u4
                refine hK.out _ _ hw12 (fun hHeld => ?_)
                (try simp only [Act.put, List.setIfInBounds_toArray, List.set_cons_zero, List.set_cons_succ])
                refine takeR (i := 16) (some 93) (v := ?_) rfl rfl (by kernel_rfl) (by kernel_rfl) (by kernel_rfl) (fun _ _ _ h => h) (Or.inl ⟨by rfl, ?_⟩) (by assumption) ?_
                rotate_left
                (focus (intro W hSw; (try dsimp only at hSw); obtain ⟨q0, q1, q2, q3, q4, q5, q6, q7⟩ := fd_cells HC1.out HFK.out HE.out; have p0 := (hSw.cell (p := ⟨b1, _, none⟩) hb1).trans q0; have p1 := (hSw.cell (p := ⟨b1, _, none⟩) hb1).trans q1; have p2 := (hSw.cell (p := ⟨b1, _, none⟩) hb1).trans q2; have p3 := (hSw.cell (p := ⟨b1, _, none⟩) hb1).trans q3; have p4 := (hSw.cell (p := ⟨b1, _, none⟩) hb1).trans q4; have p5 := (hSw.cell (p := ⟨b1, _, none⟩) hb1).trans q5; have p6 := (hSw.cell (p := ⟨b1, _, none⟩) hb1).trans q6; clear q0 q1 q2 q3 q4 q5 q6 q7; go_simp; (try with_reducible rfl)))
                (try simp only [Act.put, List.setIfInBounds_toArray, List.set_cons_zero, List.set_cons_succ])
                refine wpAnyH_ready (rs := [17]) (by kernel_rfl) (by simp) ?_
                refine AllReadyH.cons rfl (fun K hK => ?_) AllReadyH.nil
                go_simp
                refine hK.out _ _ (by (repeat' (first | (with_reducible exact Below.refl _ _) | (with_reducible assumption) | (with_reducible refine Below.setCell ?_ ?_ _) | (with_reducible refine Below.alloc ?_ ?_ _) | (with_reducible refine Below.drew ?_) | (with_reducible refine below_drewN ?_ _) | (with_reducible refine below_next ?_ (by with_reducible assumption)) | omega | (dsimp only; omega) | (simp only [World.size_alloc, World.size_setCell, World.size_drew, World.heap_drewN]; omega)))) (fun hHeld => ?_)
                (try simp only [Act.put, List.setIfInBounds_toArray, List.set_cons_zero, List.set_cons_succ])
                refine wpAnyH_done (by kernel_rfl) ?_ _
                go_wp2
                go_roundw
                case rel =>
                  refine ⟨out.length + 1, e2, max a al, f.name.toList :: seen, out ++ [⟨f.name, f.ty, ap⟩], A9, c9, by omega, rfl, by go_num, by have := HE2.out; omega, by have := HE2.out; omega, HAL.out, Lib.hid ?_, Lib.hid (HSE.out.step HFK.out), Lib.hid ?_⟩
                  · rw [HG.out, layGo_some HFK.out HSN.out HCM.out]
                    simp [HAP.out, HE2.out]
                  · rw [← HA2.out]
                    refine RLayS.step (f := ⟨f.name, f.ty, ap⟩) HS.out HLW9.out ?_ ?_ ?_ ?_ HOWN.out HG12.out HB12.out HTY.out rfl
                    · intro b hb1 hb2
                      exact (heap_alloc_old W10.drew _ (by show b < W10.heap.size; omega)).trans (HO10.out b hb1)
                    · show _ = (W10.heap.push _).size; rw [Array.size_push]; omega
                    · exact HB10.out.drew.alloc (by show w.heap.size ≤ W10.heap.size; omega) _
                    · exact (heap_alloc_old W10.drew _ (by show w.heap.size + 1 < W10.heap.size; omega)).trans HL10.out
                case measure => simp [intOf]; omega
              · skip
                go_simp
                refine hK.out _ _ (by (repeat' (first | (with_reducible exact Below.refl _ _) | (with_reducible assumption) | (with_reducible refine Below.setCell ?_ ?_ _) | (with_reducible refine Below.alloc ?_ ?_ _) | (with_reducible refine Below.drew ?_) | (with_reducible refine below_drewN ?_ _) | (with_reducible refine below_next ?_ (by with_reducible assumption)) | omega | (dsimp only; omega) | (simp only [World.size_alloc, World.size_setCell, World.size_drew, World.heap_drewN]; omega)))) (fun hHeld => ?_)
                (try simp only [Act.put, List.setIfInBounds_toArray, List.set_cons_zero, List.set_cons_succ])
                refine wpAnyH_ready (rs := [1]) (by kernel_rfl) (by simp) ?_
                refine AllReadyH.cons rfl (fun K hK => ?_) AllReadyH.nil
                go_simp
                refine hK.out _ _ (by (repeat' (first | (with_reducible exact Below.refl _ _) | (with_reducible assumption) | (with_reducible refine Below.setCell ?_ ?_ _) | (with_reducible refine Below.alloc ?_ ?_ _) | (with_reducible refine Below.drew ?_) | (with_reducible refine below_drewN ?_ _) | (with_reducible refine below_next ?_ (by with_reducible assumption)) | omega | (dsimp only; omega) | (simp only [World.size_alloc, World.size_setCell, World.size_drew, World.heap_drewN]; omega)))) (fun hHeld => ?_)
                (try simp only [Act.put, List.setIfInBounds_toArray, List.set_cons_zero, List.set_cons_succ])
                refine wpAnyH_ready (rs := [15]) (by kernel_rfl) (by simp) ?_
                refine AllReadyH.cons rfl (fun K hK => ?_) AllReadyH.nil
                refine step_app (f := fdC) (w.heap.size + 2) rfl (.tmp 78) (.tmp 91) 34 rfl i0 _ 96 Tryd.underlying34 hi0 hz0 hz1 hz2 rfl (by decide) (.slice A6 out.length c6) out rfl ?c0 ⟨W10.heap.size, 0, none⟩ 1 ⟨f.name, f.ty, ap⟩ rfl (fdC_len _) (fd_news (w := W10.drew) (f := ⟨f.name, f.ty, ap⟩) 59 HE.out) (fdC_one (f := ⟨f.name, f.ty, ap⟩) HTY.out) ?c3 ?c4 ?c5 ?_
                case c0 =>
                  refine HS.out.own.keep fun b hb => ?_
                  have hbl' := HS.out.own.lt hb
                  exact (heap_alloc_old W10.drew _ (by show b < W10.heap.size; omega)).trans ((HO10.out b (by omega)).trans (HLW9.out.block b hbl'.2))
                case c3 => unfold maxLen; omega
                case c4 => omega
                case c5 => show w.heap.size + 2 ≤ (W10.heap.push _).size; rw [Array.size_push]; omega
                intro A9 c9 w12 hown hg hB
                have hb12 : w12.heap[w.heap.size + 1]? = some (.cells (lyBox nm false A6 out.length c6 a2) 36 (0, 0)) := by
                  rw [hB.block _ (by omega)]
                  exact (heap_alloc_old W10.drew _ (by show w.heap.size + 1 < W10.heap.size; omega)).trans HL10.out
                have hx12 := cells_of_block hb12
                have r2 := hx12.1 2
                have rf := hx12.2
                simp [lyBox] at r2
                have hw12 : Below w.heap.size w w12 := (hw10.drew.alloc (by show w.heap.size ≤ W10.heap.size; omega) _).trans (hB.mono (by omega))
                have HOWN := Lib.hid hown
                have HG12 := Lib.hid hg
                have HB12 := Lib.hid hB
                clear hb12 hx12 hown hg hB u1 u2 u3 u4
                refine hK.out _ _ hw12 (fun hHeld => ?_)
                (try simp only [Act.put, List.setIfInBounds_toArray, List.set_cons_zero, List.set_cons_succ])
                refine takeR (i := 16) (some 93) (v := ?_) rfl rfl (by kernel_rfl) (by kernel_rfl) (by kernel_rfl) (fun _ _ _ h => h) (Or.inl ⟨by rfl, ?_⟩) (by assumption) ?_
                rotate_left
                (focus (intro W hSw; (try dsimp only at hSw); obtain ⟨q0, q1, q2, q3, q4, q5, q6, q7⟩ := fd_cells HC1.out HFK.out HE.out; have p0 := (hSw.cell (p := ⟨b1, _, none⟩) hb1).trans q0; have p1 := (hSw.cell (p := ⟨b1, _, none⟩) hb1).trans q1; have p2 := (hSw.cell (p := ⟨b1, _, none⟩) hb1).trans q2; have p3 := (hSw.cell (p := ⟨b1, _, none⟩) hb1).trans q3; have p4 := (hSw.cell (p := ⟨b1, _, none⟩) hb1).trans q4; have p5 := (hSw.cell (p := ⟨b1, _, none⟩) hb1).trans q5; have p6 := (hSw.cell (p := ⟨b1, _, none⟩) hb1).trans q6; clear q0 q1 q2 q3 q4 q5 q6 q7; go_simp; (try with_reducible rfl)))
                (try simp only [Act.put, List.setIfInBounds_toArray, List.set_cons_zero, List.set_cons_succ])
                refine wpAnyH_ready (rs := [17]) (by kernel_rfl) (by simp) ?_
                refine AllReadyH.cons rfl (fun K hK => ?_) AllReadyH.nil
                go_simp
                refine hK.out _ _ (by (repeat' (first | (with_reducible exact Below.refl _ _) | (with_reducible assumption) | (with_reducible refine Below.setCell ?_ ?_ _) | (with_reducible refine Below.alloc ?_ ?_ _) | (with_reducible refine Below.drew ?_) | (with_reducible refine below_drewN ?_ _) | (with_reducible refine below_next ?_ (by with_reducible assumption)) | omega | (dsimp only; omega) | (simp only [World.size_alloc, World.size_setCell, World.size_drew, World.heap_drewN]; omega)))) (fun hHeld => ?_)
                (try simp only [Act.put, List.setIfInBounds_toArray, List.set_cons_zero, List.set_cons_succ])
                refine wpAnyH_done (by kernel_rfl) ?_ _
                go_wp2
                go_roundw
                case rel =>
                  refine ⟨out.length + 1, e2, max a al, f.name.toList :: seen, out ++ [⟨f.name, f.ty, ap⟩], A9, c9, by omega, rfl, by go_num, by have := HE2.out; omega, by have := HE2.out; omega, HAL.out, Lib.hid ?_, Lib.hid (HSE.out.step HFK.out), Lib.hid ?_⟩
                  · rw [HG.out, layGo_some HFK.out HSN.out HCM.out]
                    simp [HAP.out, HE2.out]
                  · rw [← HA2.out]
                    refine RLayS.step (f := ⟨f.name, f.ty, ap⟩) HS.out HLW9.out ?_ ?_ ?_ ?_ HOWN.out HG12.out HB12.out HTY.out rfl
                    · intro b hb1 hb2
                      exact (heap_alloc_old W10.drew _ (by show b < W10.heap.size; omega)).trans (HO10.out b hb1)
                    · show _ = (W10.heap.push _).size; rw [Array.size_push]; omega
                    · exact HB10.out.drew.alloc (by show w.heap.size ≤ W10.heap.size; omega) _
                    · exact (heap_alloc_old W10.drew _ (by show w.heap.size + 1 < W10.heap.size; omega)).trans HL10.out
                case measure => simp [intOf]; omega
            case true =>
              clear HUP
              go_upto_region 19 with (first | (go_at_call 51; (with_reducible refine (HCOMP.out _ (by (repeat' (first | (with_reducible exact Below.refl _ _) | (with_reducible assumption) | (with_reducible refine Below.setCell ?_ ?_ _) | (with_reducible refine Below.alloc ?_ ?_ _) | (with_reducible refine Below.drew ?_) | (with_reducible refine below_drewN ?_ _) | (with_reducible refine below_next ?_ (by with_reducible assumption)) | omega | (dsimp only; omega) | (simp only [World.size_alloc, World.size_setCell, World.size_drew, World.heap_drewN]; omega))))).mono ?_); rintro e w' ⟨rfl, hbl⟩; obtain ⟨hc, hf, hz⟩ := cif hbl; (try simp only [World.size_alloc, World.size_setCell, World.size_drew, World.heap_drewN] at hz)))
              obtain ⟨mx, hMX⟩ : ∃ x : Int, x = (if e < sz then sz else e) := ⟨_, rfl⟩
              rw [← hMX]
              obtain ⟨e2, hE2⟩ : ∃ x : Int, x = mx := ⟨_, rfl⟩
              obtain ⟨a2, hA2'⟩ : ∃ x : Int, x = (if a < al then al else a) := ⟨_, rfl⟩
              rw [← hE2, ← hA2']
              have HE2 : Hid (e2 = min (max e (0 + sz)) 4194304) := Lib.hid (by rw [hE2, hMX]; (repeat' split) <;> omega)
              have HA2 : Hid (a2 = max a al) := Lib.hid (by rw [hA2']; split <;> omega)
              clear hE2 hA2' hMX
              obtain ⟨W10, hW10⟩ : ∃ W, W = w'.setCell ⟨w.heap.size + 1, 4, none⟩ (.int .i64 a2) := ⟨_, rfl⟩
              rw [← hW10]
              have hlw9 : Below W1.heap.size W1 w' := by unfold Ext at *; (repeat' (first | (with_reducible exact Below.refl _ _) | (with_reducible assumption) | (with_reducible refine Below.setCell ?_ ?_ _) | (with_reducible refine Below.alloc ?_ ?_ _) | (with_reducible refine Below.drew ?_) | (with_reducible refine below_drewN ?_ _) | (with_reducible refine below_next ?_ (by with_reducible assumption)) | omega | (dsimp only; omega) | (simp only [World.size_alloc, World.size_setCell, World.size_drew, World.heap_drewN]; omega)))
              have l9 := (hlw9.block (w.heap.size + 1) (by omega)).trans HS.out.box
              have z10 : W10.heap.size = w'.heap.size := by rw [hW10]; simp only [size_setC]
              have l10 : W10.heap[w.heap.size + 1]? = some (.cells (lyBox nm true A6 out.length c6 a2) 36 (0, 0)) := by
                rw [hW10]
                exact set_ly (a := a) _ l9
              have o10 : ∀ b, b ≠ w.heap.size + 1 → W10.heap[b]? = w'.heap[b]? := fun b hb2 => by
                rw [hW10, heap_setC _ _ _ _ _ (by omega)]
              have b10 : Below w.heap.size w' W10 := by rw [hW10]; (repeat' (first | (with_reducible exact Below.refl _ _) | (with_reducible assumption) | (with_reducible refine Below.setCell ?_ ?_ _) | (with_reducible refine Below.alloc ?_ ?_ _) | (with_reducible refine Below.drew ?_) | (with_reducible refine below_drewN ?_ _) | (with_reducible refine below_next ?_ (by with_reducible assumption)) | omega | (dsimp only; omega) | (simp only [World.size_alloc, World.size_setCell, World.size_drew, World.heap_drewN]; omega)))
              have hw10 : Below w.heap.size w W10 := hlow.trans ((hlw9.mono (by omega)).trans b10)
              clear hW10 hc hf hbl p0 p1 p2 p3 p4 p5 p6 x0 x1 x2 x3 x4 xf z0 z1 z2 z3 z4 zf
              have u2 : W10.drew.cell? ⟨w.heap.size + 1, 2, none⟩ = some (.slice A6 out.length c6) := by
                have := (cells_of_block l10).1 2
                simpa [lyBox] using this
              have HL10 := Lib.hid l10
              have HO10 := Lib.hid o10
              have HB10 := Lib.hid b10
              have HLW9 := Lib.hid hlw9
              have zw1 := hlw9.size
              have zz1 : w'.heap.size ≤ W10.heap.size := by omega
              have zz2 : W10.heap.size ≤ w'.heap.size := by omega
              have u1 : W10.cell? ⟨w.heap.size + 1, 2, none⟩ = some (.slice A6 out.length c6) := u2
              have u3 : ∀ o, (W10.alloc o).drew.cell? ⟨w.heap.size + 1, 2, none⟩ = some (.slice A6 out.length c6) := fun o => by
                rw [← u1]
                exact World.cell?_of_block (a := ⟨w.heap.size + 1, 2, none⟩) (heap_alloc_old W10 o (show w.heap.size + 1 < W10.heap.size by omega))
              have u4 : ∀ o, (W10.drew.alloc o).cell? ⟨w.heap.size + 1, 2, none⟩ = some (.slice A6 out.length c6) := u3
              clear l9 l10 o10 b10 hlw9 z10
              refine wp_region_held_drew (S := fun W => Below w.heap.size w W) (by kernel_rfl) hw10.drew (fun hHeld => ?_)
              refine takeR (i := 0) (some 77) (v := ?_) rfl rfl (by kernel_rfl) (by kernel_rfl) (by kernel_rfl) (fun _ _ _ h => h) (Or.inl ⟨by rfl, ?_⟩) (by assumption) ?_
              rotate_left
              (focus (intro W hSw; (try dsimp only at hSw); obtain ⟨q0, q1, q2, q3, q4, q5, q6, q7⟩ := fd_cells HC1.out HFK.out HE.out; have p0 := (hSw.cell (p := ⟨b1, _, none⟩) hb1).trans q0; have p1 := (hSw.cell (p := ⟨b1, _, none⟩) hb1).trans q1; have p2 := (hSw.cell (p := ⟨b1, _, none⟩) hb1).trans q2; have p3 := (hSw.cell (p := ⟨b1, _, none⟩) hb1).trans q3; have p4 := (hSw.cell (p := ⟨b1, _, none⟩) hb1).trans q4; have p5 := (hSw.cell (p := ⟨b1, _, none⟩) hb1).trans q5; have p6 := (hSw.cell (p := ⟨b1, _, none⟩) hb1).trans q6; clear q0 q1 q2 q3 q4 q5 q6 q7; go_simp; (try with_reducible rfl)))
              (try simp only [Act.put, List.setIfInBounds_toArray, List.set_cons_zero, List.set_cons_succ])
              refine takeR (i := 2) (some 79) (v := ?_) rfl rfl (by kernel_rfl) (by kernel_rfl) (by kernel_rfl) (fun _ _ _ h => h) (Or.inl ⟨by rfl, ?_⟩) (by assumption) ?_
              rotate_left
              (focus (intro W hSw; (try dsimp only at hSw); obtain ⟨q0, q1, q2, q3, q4, q5, q6, q7⟩ := fd_cells HC1.out HFK.out HE.out; have p0 := (hSw.cell (p := ⟨b1, _, none⟩) hb1).trans q0; have p1 := (hSw.cell (p := ⟨b1, _, none⟩) hb1).trans q1; have p2 := (hSw.cell (p := ⟨b1, _, none⟩) hb1).trans q2; have p3 := (hSw.cell (p := ⟨b1, _, none⟩) hb1).trans q3; have p4 := (hSw.cell (p := ⟨b1, _, none⟩) hb1).trans q4; have p5 := (hSw.cell (p := ⟨b1, _, none⟩) hb1).trans q5; have p6 := (hSw.cell (p := ⟨b1, _, none⟩) hb1).trans q6; clear q0 q1 q2 q3 q4 q5 q6 q7; go_simp; (try with_reducible rfl)))
              (try simp only [Act.put, List.setIfInBounds_toArray, List.set_cons_zero, List.set_cons_succ])
              refine takeR (i := 3) (some 80) (v := ?_) rfl rfl (by kernel_rfl) (by kernel_rfl) (by kernel_rfl) (fun _ _ _ h => h) (Or.inl ⟨by rfl, ?_⟩) (by assumption) ?_
              rotate_left
              (focus (intro W hSw; (try dsimp only at hSw); obtain ⟨q0, q1, q2, q3, q4, q5, q6, q7⟩ := fd_cells HC1.out HFK.out HE.out; have p0 := (hSw.cell (p := ⟨b1, _, none⟩) hb1).trans q0; have p1 := (hSw.cell (p := ⟨b1, _, none⟩) hb1).trans q1; have p2 := (hSw.cell (p := ⟨b1, _, none⟩) hb1).trans q2; have p3 := (hSw.cell (p := ⟨b1, _, none⟩) hb1).trans q3; have p4 := (hSw.cell (p := ⟨b1, _, none⟩) hb1).trans q4; have p5 := (hSw.cell (p := ⟨b1, _, none⟩) hb1).trans q5; have p6 := (hSw.cell (p := ⟨b1, _, none⟩) hb1).trans q6; clear q0 q1 q2 q3 q4 q5 q6 q7; go_simp; (try with_reducible rfl)))
              (try simp only [Act.put, List.setIfInBounds_toArray, List.set_cons_zero, List.set_cons_succ])
              refine takeR (i := 4) (some 81) (v := ?_) rfl rfl (by kernel_rfl) (by kernel_rfl) (by kernel_rfl) (fun _ _ _ h => h) (Or.inl ⟨by rfl, ?_⟩) (by assumption) ?_
              rotate_left
              (focus (intro W hSw; (try dsimp only at hSw); obtain ⟨q0, q1, q2, q3, q4, q5, q6, q7⟩ := fd_cells HC1.out HFK.out HE.out; have p0 := (hSw.cell (p := ⟨b1, _, none⟩) hb1).trans q0; have p1 := (hSw.cell (p := ⟨b1, _, none⟩) hb1).trans q1; have p2 := (hSw.cell (p := ⟨b1, _, none⟩) hb1).trans q2; have p3 := (hSw.cell (p := ⟨b1, _, none⟩) hb1).trans q3; have p4 := (hSw.cell (p := ⟨b1, _, none⟩) hb1).trans q4; have p5 := (hSw.cell (p := ⟨b1, _, none⟩) hb1).trans q5; have p6 := (hSw.cell (p := ⟨b1, _, none⟩) hb1).trans q6; clear q0 q1 q2 q3 q4 q5 q6 q7; go_simp; (try with_reducible rfl)))
              (try simp only [Act.put, List.setIfInBounds_toArray, List.set_cons_zero, List.set_cons_succ])
              refine takeR (i := 5) (some 82) (v := ?_) rfl rfl (by kernel_rfl) (by kernel_rfl) (by kernel_rfl) (fun _ _ _ h => h) (Or.inl ⟨by rfl, ?_⟩) (by assumption) ?_
              rotate_left
              (focus (intro W hSw; (try dsimp only at hSw); obtain ⟨q0, q1, q2, q3, q4, q5, q6, q7⟩ := fd_cells HC1.out HFK.out HE.out; have p0 := (hSw.cell (p := ⟨b1, _, none⟩) hb1).trans q0; have p1 := (hSw.cell (p := ⟨b1, _, none⟩) hb1).trans q1; have p2 := (hSw.cell (p := ⟨b1, _, none⟩) hb1).trans q2; have p3 := (hSw.cell (p := ⟨b1, _, none⟩) hb1).trans q3; have p4 := (hSw.cell (p := ⟨b1, _, none⟩) hb1).trans q4; have p5 := (hSw.cell (p := ⟨b1, _, none⟩) hb1).trans q5; have p6 := (hSw.cell (p := ⟨b1, _, none⟩) hb1).trans q6; clear q0 q1 q2 q3 q4 q5 q6 q7; go_simp; (try with_reducible rfl)))
              (try simp only [Act.put, List.setIfInBounds_toArray, List.set_cons_zero, List.set_cons_succ])
              refine takeR (i := 6) (some 83) (v := ?_) rfl rfl (by kernel_rfl) (by kernel_rfl) (by kernel_rfl) (fun _ _ _ h => h) (Or.inl ⟨by rfl, ?_⟩) (by assumption) ?_
              rotate_left
              (focus (intro W hSw; (try dsimp only at hSw); obtain ⟨q0, q1, q2, q3, q4, q5, q6, q7⟩ := fd_cells HC1.out HFK.out HE.out; have p0 := (hSw.cell (p := ⟨b1, _, none⟩) hb1).trans q0; have p1 := (hSw.cell (p := ⟨b1, _, none⟩) hb1).trans q1; have p2 := (hSw.cell (p := ⟨b1, _, none⟩) hb1).trans q2; have p3 := (hSw.cell (p := ⟨b1, _, none⟩) hb1).trans q3; have p4 := (hSw.cell (p := ⟨b1, _, none⟩) hb1).trans q4; have p5 := (hSw.cell (p := ⟨b1, _, none⟩) hb1).trans q5; have p6 := (hSw.cell (p := ⟨b1, _, none⟩) hb1).trans q6; clear q0 q1 q2 q3 q4 q5 q6 q7; go_simp; (try with_reducible rfl)))
              (try simp only [Act.put, List.setIfInBounds_toArray, List.set_cons_zero, List.set_cons_succ])
              refine takeR (i := 7) (some 84) (v := ?_) rfl rfl (by kernel_rfl) (by kernel_rfl) (by kernel_rfl) (fun _ _ _ h => h) (Or.inl ⟨by rfl, ?_⟩) (by assumption) ?_
              rotate_left
              (focus (intro W hSw; (try dsimp only at hSw); obtain ⟨q0, q1, q2, q3, q4, q5, q6, q7⟩ := fd_cells HC1.out HFK.out HE.out; have p0 := (hSw.cell (p := ⟨b1, _, none⟩) hb1).trans q0; have p1 := (hSw.cell (p := ⟨b1, _, none⟩) hb1).trans q1; have p2 := (hSw.cell (p := ⟨b1, _, none⟩) hb1).trans q2; have p3 := (hSw.cell (p := ⟨b1, _, none⟩) hb1).trans q3; have p4 := (hSw.cell (p := ⟨b1, _, none⟩) hb1).trans q4; have p5 := (hSw.cell (p := ⟨b1, _, none⟩) hb1).trans q5; have p6 := (hSw.cell (p := ⟨b1, _, none⟩) hb1).trans q6; clear q0 q1 q2 q3 q4 q5 q6 q7; go_simp; (try with_reducible rfl)))
              (try simp only [Act.put, List.setIfInBounds_toArray, List.set_cons_zero, List.set_cons_succ])
              refine takeR (i := 8) (some 85) (v := ?_) rfl rfl (by kernel_rfl) (by kernel_rfl) (by kernel_rfl) (fun _ _ _ h => h) (Or.inl ⟨by rfl, ?_⟩) (by assumption) ?_
              rotate_left
              (focus (intro W hSw; (try dsimp only at hSw); obtain ⟨q0, q1, q2, q3, q4, q5, q6, q7⟩ := fd_cells HC1.out HFK.out HE.out; have p0 := (hSw.cell (p := ⟨b1, _, none⟩) hb1).trans q0; have p1 := (hSw.cell (p := ⟨b1, _, none⟩) hb1).trans q1; have p2 := (hSw.cell (p := ⟨b1, _, none⟩) hb1).trans q2; have p3 := (hSw.cell (p := ⟨b1, _, none⟩) hb1).trans q3; have p4 := (hSw.cell (p := ⟨b1, _, none⟩) hb1).trans q4; have p5 := (hSw.cell (p := ⟨b1, _, none⟩) hb1).trans q5; have p6 := (hSw.cell (p := ⟨b1, _, none⟩) hb1).trans q6; clear q0 q1 q2 q3 q4 q5 q6 q7; go_simp; (try with_reducible rfl)))
              (try simp only [Act.put, List.setIfInBounds_toArray, List.set_cons_zero, List.set_cons_succ])
              refine takeR (i := 9) (some 86) (v := ?_) rfl rfl (by kernel_rfl) (by kernel_rfl) (by kernel_rfl) (fun _ _ _ h => h) (Or.inl ⟨by rfl, ?_⟩) (by assumption) ?_
              rotate_left
              (focus (intro W hSw; (try dsimp only at hSw); obtain ⟨q0, q1, q2, q3, q4, q5, q6, q7⟩ := fd_cells HC1.out HFK.out HE.out; have p0 := (hSw.cell (p := ⟨b1, _, none⟩) hb1).trans q0; have p1 := (hSw.cell (p := ⟨b1, _, none⟩) hb1).trans q1; have p2 := (hSw.cell (p := ⟨b1, _, none⟩) hb1).trans q2; have p3 := (hSw.cell (p := ⟨b1, _, none⟩) hb1).trans q3; have p4 := (hSw.cell (p := ⟨b1, _, none⟩) hb1).trans q4; have p5 := (hSw.cell (p := ⟨b1, _, none⟩) hb1).trans q5; have p6 := (hSw.cell (p := ⟨b1, _, none⟩) hb1).trans q6; clear q0 q1 q2 q3 q4 q5 q6 q7; go_simp; (try with_reducible rfl)))
              (try simp only [Act.put, List.setIfInBounds_toArray, List.set_cons_zero, List.set_cons_succ])
              refine takeR (i := 10) (some 87) (v := ?_) rfl rfl (by kernel_rfl) (by kernel_rfl) (by kernel_rfl) (fun _ _ _ h => h) (Or.inl ⟨by rfl, ?_⟩) (by assumption) ?_
              rotate_left
              (focus (intro W hSw; (try dsimp only at hSw); obtain ⟨q0, q1, q2, q3, q4, q5, q6, q7⟩ := fd_cells HC1.out HFK.out HE.out; have p0 := (hSw.cell (p := ⟨b1, _, none⟩) hb1).trans q0; have p1 := (hSw.cell (p := ⟨b1, _, none⟩) hb1).trans q1; have p2 := (hSw.cell (p := ⟨b1, _, none⟩) hb1).trans q2; have p3 := (hSw.cell (p := ⟨b1, _, none⟩) hb1).trans q3; have p4 := (hSw.cell (p := ⟨b1, _, none⟩) hb1).trans q4; have p5 := (hSw.cell (p := ⟨b1, _, none⟩) hb1).trans q5; have p6 := (hSw.cell (p := ⟨b1, _, none⟩) hb1).trans q6; clear q0 q1 q2 q3 q4 q5 q6 q7; go_simp; (try with_reducible rfl)))
              (try simp only [Act.put, List.setIfInBounds_toArray, List.set_cons_zero, List.set_cons_succ])
              refine takeR (i := 11) (some 88) (v := ?_) rfl rfl (by kernel_rfl) (by kernel_rfl) (by kernel_rfl) (fun _ _ _ h => h) (Or.inl ⟨by rfl, ?_⟩) (by assumption) ?_
              rotate_left
              (focus (intro W hSw; (try dsimp only at hSw); obtain ⟨q0, q1, q2, q3, q4, q5, q6, q7⟩ := fd_cells HC1.out HFK.out HE.out; have p0 := (hSw.cell (p := ⟨b1, _, none⟩) hb1).trans q0; have p1 := (hSw.cell (p := ⟨b1, _, none⟩) hb1).trans q1; have p2 := (hSw.cell (p := ⟨b1, _, none⟩) hb1).trans q2; have p3 := (hSw.cell (p := ⟨b1, _, none⟩) hb1).trans q3; have p4 := (hSw.cell (p := ⟨b1, _, none⟩) hb1).trans q4; have p5 := (hSw.cell (p := ⟨b1, _, none⟩) hb1).trans q5; have p6 := (hSw.cell (p := ⟨b1, _, none⟩) hb1).trans q6; clear q0 q1 q2 q3 q4 q5 q6 q7; go_simp; (try with_reducible rfl)))
              (try simp only [Act.put, List.setIfInBounds_toArray, List.set_cons_zero, List.set_cons_succ])
              refine takeR (i := 12) (some 89) (v := ?_) rfl rfl (by kernel_rfl) (by kernel_rfl) (by kernel_rfl) (fun _ _ _ h => h) (Or.inl ⟨by rfl, ?_⟩) (by assumption) ?_
              rotate_left
              (focus (intro W hSw; (try dsimp only at hSw); obtain ⟨q0, q1, q2, q3, q4, q5, q6, q7⟩ := fd_cells HC1.out HFK.out HE.out; have p0 := (hSw.cell (p := ⟨b1, _, none⟩) hb1).trans q0; have p1 := (hSw.cell (p := ⟨b1, _, none⟩) hb1).trans q1; have p2 := (hSw.cell (p := ⟨b1, _, none⟩) hb1).trans q2; have p3 := (hSw.cell (p := ⟨b1, _, none⟩) hb1).trans q3; have p4 := (hSw.cell (p := ⟨b1, _, none⟩) hb1).trans q4; have p5 := (hSw.cell (p := ⟨b1, _, none⟩) hb1).trans q5; have p6 := (hSw.cell (p := ⟨b1, _, none⟩) hb1).trans q6; clear q0 q1 q2 q3 q4 q5 q6 q7; go_simp; (try with_reducible rfl)))
              (try simp only [Act.put, List.setIfInBounds_toArray, List.set_cons_zero, List.set_cons_succ])
              refine takeR (i := 13) (some 90) (v := ?_) rfl rfl (by kernel_rfl) (by kernel_rfl) (by kernel_rfl) (fun _ _ _ h => h) (Or.inl ⟨by rfl, ?_⟩) (by assumption) ?_
              rotate_left
              (focus (intro W hSw; (try dsimp only at hSw); obtain ⟨q0, q1, q2, q3, q4, q5, q6, q7⟩ := fd_cells HC1.out HFK.out HE.out; have p0 := (hSw.cell (p := ⟨b1, _, none⟩) hb1).trans q0; have p1 := (hSw.cell (p := ⟨b1, _, none⟩) hb1).trans q1; have p2 := (hSw.cell (p := ⟨b1, _, none⟩) hb1).trans q2; have p3 := (hSw.cell (p := ⟨b1, _, none⟩) hb1).trans q3; have p4 := (hSw.cell (p := ⟨b1, _, none⟩) hb1).trans q4; have p5 := (hSw.cell (p := ⟨b1, _, none⟩) hb1).trans q5; have p6 := (hSw.cell (p := ⟨b1, _, none⟩) hb1).trans q6; clear q0 q1 q2 q3 q4 q5 q6 q7; go_simp; (try with_reducible rfl)))
              (try simp only [Act.put, List.setIfInBounds_toArray, List.set_cons_zero, List.set_cons_succ])
              refine wpAnyH_ready (rs := [1, 14]) (by kernel_rfl) (by simp) ?_
              refine AllReadyH.cons rfl (fun K hK => ?_) (AllReadyH.cons rfl (fun K hK => ?_) AllReadyH.nil)
              · skip
                go_simp
                refine hK.out _ _ (by (repeat' (first | (with_reducible exact Below.refl _ _) | (with_reducible assumption) | (with_reducible refine Below.setCell ?_ ?_ _) | (with_reducible refine Below.alloc ?_ ?_ _) | (with_reducible refine Below.drew ?_) | (with_reducible refine below_drewN ?_ _) | (with_reducible refine below_next ?_ (by with_reducible assumption)) | omega | (dsimp only; omega) | (simp only [World.size_alloc, World.size_setCell, World.size_drew, World.heap_drewN]; omega)))) (fun hHeld => ?_)
                (try simp only [Act.put, List.setIfInBounds_toArray, List.set_cons_zero, List.set_cons_succ])
                refine wpAnyH_ready (rs := [14]) (by kernel_rfl) (by simp) ?_
                refine AllReadyH.cons rfl (fun K hK => ?_) AllReadyH.nil
                go_simp
                refine hK.out _ _ (by (repeat' (first | (with_reducible exact Below.refl _ _) | (with_reducible assumption) | (with_reducible refine Below.setCell ?_ ?_ _) | (with_reducible refine Below.alloc ?_ ?_ _) | (with_reducible refine Below.drew ?_) | (with_reducible refine below_drewN ?_ _) | (with_reducible refine below_next ?_ (by with_reducible assumption)) | omega | (dsimp only; omega) | (simp only [World.size_alloc, World.size_setCell, World.size_drew, World.heap_drewN]; omega)))) (fun hHeld => ?_)
                (try simp only [Act.put, List.setIfInBounds_toArray, List.set_cons_zero, List.set_cons_succ])
                refine wpAnyH_ready (rs := [15]) (by kernel_rfl) (by simp) ?_
                refine AllReadyH.cons rfl (fun K hK => ?_) AllReadyH.nil
                refine step_app (f := fdC) (w.heap.size + 2) rfl (.tmp 78) (.tmp 91) 34 rfl i0 _ 96 Tryd.underlying34 hi0 hz0 hz1 hz2 rfl (by decide) (.slice A6 out.length c6) out rfl ?c0 ⟨W10.heap.size, 0, none⟩ 1 ⟨f.name, f.ty, 0⟩ rfl (fdC_len _) (fd_news (w := W10.drew) (f := ⟨f.name, f.ty, 0⟩) 59 HE.out) (fdC_one (f := ⟨f.name, f.ty, 0⟩) HTY.out) ?c3 ?c4 ?c5 ?_
                case c0 =>
                  refine HS.out.own.keep fun b hb => ?_
                  have hbl' := HS.out.own.lt hb
                  exact (heap_alloc_old W10.drew _ (by show b < W10.heap.size; omega)).trans ((HO10.out b (by omega)).trans (HLW9.out.block b hbl'.2))
                case c3 => unfold maxLen; omega
                case c4 => omega
                case c5 => show w.heap.size + 2 ≤ (W10.heap.push _).size; rw [Array.size_push]; omega
                intro A9 c9 w12 hown hg hB
                have hb12 : w12.heap[w.heap.size + 1]? = some (.cells (lyBox nm true A6 out.length c6 a2) 36 (0, 0)) := by
                  rw [hB.block _ (by omega)]
                  exact (heap_alloc_old W10.drew _ (by show w.heap.size + 1 < W10.heap.size; omega)).trans HL10.out
                have hx12 := cells_of_block hb12
                have r2 := hx12.1 2
                have rf := hx12.2
                simp [lyBox] at r2
                have hw12 : Below w.heap.size w w12 := (hw10.drew.alloc (by show w.heap.size ≤ W10.heap.size; omega) _).trans (hB.mono (by omega))
                have HOWN := Lib.hid hown
                have HG12 := Lib.hid hg
                have HB12 := Lib.hid hB
                clear hb12 hx12 hown hg hB u1 u2 u3 u4
                refine hK.out _ _ hw12 (fun hHeld => ?_)
                (try simp only [Act.put, List.setIfInBounds_toArray, List.set_cons_zero, List.set_cons_succ])
                refine takeR (i := 16) (some 93) (v := ?_) rfl rfl (by kernel_rfl) (by kernel_rfl) (by kernel_rfl) (fun _ _ _ h => h) (Or.inl ⟨by rfl, ?_⟩) (by assumption) ?_
                rotate_left
                (focus (intro W hSw; (try dsimp only at hSw); obtain ⟨q0, q1, q2, q3, q4, q5, q6, q7⟩ := fd_cells HC1.out HFK.out HE.out; have p0 := (hSw.cell (p := ⟨b1, _, none⟩) hb1).trans q0; have p1 := (hSw.cell (p := ⟨b1, _, none⟩) hb1).trans q1; have p2 := (hSw.cell (p := ⟨b1, _, none⟩) hb1).trans q2; have p3 := (hSw.cell (p := ⟨b1, _, none⟩) hb1).trans q3; have p4 := (hSw.cell (p := ⟨b1, _, none⟩) hb1).trans q4; have p5 := (hSw.cell (p := ⟨b1, _, none⟩) hb1).trans q5; have p6 := (hSw.cell (p := ⟨b1, _, none⟩) hb1).trans q6; clear q0 q1 q2 q3 q4 q5 q6 q7; go_simp; (try with_reducible rfl)))
                (try simp only [Act.put, List.setIfInBounds_toArray, List.set_cons_zero, List.set_cons_succ])
                refine wpAnyH_ready (rs := [17]) (by kernel_rfl) (by simp) ?_
                refine AllReadyH.cons rfl (fun K hK => ?_) AllReadyH.nil
                go_simp
                refine hK.out _ _ (by (repeat' (first | (with_reducible exact Below.refl _ _) | (with_reducible assumption) | (with_reducible refine Below.setCell ?_ ?_ _) | (with_reducible refine Below.alloc ?_ ?_ _) | (with_reducible refine Below.drew ?_) | (with_reducible refine below_drewN ?_ _) | (with_reducible refine below_next ?_ (by with_reducible assumption)) | omega | (dsimp only; omega) | (simp only [World.size_alloc, World.size_setCell, World.size_drew, World.heap_drewN]; omega)))) (fun hHeld => ?_)
                (try simp only [Act.put, List.setIfInBounds_toArray, List.set_cons_zero, List.set_cons_succ])
                refine wpAnyH_done (by kernel_rfl) ?_ _
                go_wp2
                go_roundw
                case rel =>
                  refine ⟨out.length + 1, e2, max a al, f.name.toList :: seen, out ++ [⟨f.name, f.ty, 0⟩], A9, c9, by omega, rfl, by go_num, by have := HE2.out; omega, by have := HE2.out; omega, HAL.out, Lib.hid ?_, Lib.hid (HSE.out.step HFK.out), Lib.hid ?_⟩
                  · rw [HG.out, layGo_some HFK.out HSN.out HCM.out]
                    simp [HAP.out, HE2.out]
                  · rw [← HA2.out]
                    refine RLayS.step (f := ⟨f.name, f.ty, 0⟩) HS.out HLW9.out ?_ ?_ ?_ ?_ HOWN.out HG12.out HB12.out HTY.out rfl
                    · intro b hb1 hb2
                      exact (heap_alloc_old W10.drew _ (by show b < W10.heap.size; omega)).trans (HO10.out b hb1)
                    · show _ = (W10.heap.push _).size; rw [Array.size_push]; omega
                    · exact HB10.out.drew.alloc (by show w.heap.size ≤ W10.heap.size; omega) _
                    · exact (heap_alloc_old W10.drew _ (by show w.heap.size + 1 < W10.heap.size; omega)).trans HL10.out
                case measure => simp [intOf]; omega
              · skip
                go_simp
                refine hK.out _ _ (by (repeat' (first | (with_reducible exact Below.refl _ _) | (with_reducible assumption) | (with_reducible refine Below.setCell ?_ ?_ _) | (with_reducible refine Below.alloc ?_ ?_ _) | (with_reducible refine Below.drew ?_) | (with_reducible refine below_drewN ?_ _) | (with_reducible refine below_next ?_ (by with_reducible assumption)) | omega | (dsimp only; omega) | (simp only [World.size_alloc, World.size_setCell, World.size_drew, World.heap_drewN]; omega)))) (fun hHeld => ?_)
                (try simp only [Act.put, List.setIfInBounds_toArray, List.set_cons_zero, List.set_cons_succ])
                refine wpAnyH_ready (rs := [1]) (by kernel_rfl) (by simp) ?_
                refine AllReadyH.cons rfl (fun K hK => ?_) AllReadyH.nil
                go_simp
                refine hK.out _ _ (by (repeat' (first | (with_reducible exact Below.refl _ _) | (with_reducible assumption) | (with_reducible refine Below.setCell ?_ ?_ _) | (with_reducible refine Below.alloc ?_ ?_ _) | (with_reducible refine Below.drew ?_) | (with_reducible refine below_drewN ?_ _) | (with_reducible refine below_next ?_ (by with_reducible assumption)) | omega | (dsimp only; omega) | (simp only [World.size_alloc, World.size_setCell, World.size_drew, World.heap_drewN]; omega)))) (fun hHeld => ?_)
                (try simp only [Act.put, List.setIfInBounds_toArray, List.set_cons_zero, List.set_cons_succ])
                refine wpAnyH_ready (rs := [15]) (by kernel_rfl) (by simp) ?_
                refine AllReadyH.cons rfl (fun K hK => ?_) AllReadyH.nil
                refine step_app (f := fdC) (w.heap.size + 2) rfl (.tmp 78) (.tmp 91) 34 rfl i0 _ 96 Tryd.underlying34 hi0 hz0 hz1 hz2 rfl (by decide) (.slice A6 out.length c6) out rfl ?c0 ⟨W10.heap.size, 0, none⟩ 1 ⟨f.name, f.ty, 0⟩ rfl (fdC_len _) (fd_news (w := W10.drew) (f := ⟨f.name, f.ty, 0⟩) 59 HE.out) (fdC_one (f := ⟨f.name, f.ty, 0⟩) HTY.out) ?c3 ?c4 ?c5 ?_
                case c0 =>
                  refine HS.out.own.keep fun b hb => ?_
                  have hbl' := HS.out.own.lt hb
                  exact (heap_alloc_old W10.drew _ (by show b < W10.heap.size; omega)).trans ((HO10.out b (by omega)).trans (HLW9.out.block b hbl'.2))
                case c3 => unfold maxLen; omega
                case c4 => omega
                case c5 => show w.heap.size + 2 ≤ (W10.heap.push _).size; rw [Array.size_push]; omega
                intro A9 c9 w12 hown hg hB
                have hb12 : w12.heap[w.heap.size + 1]? = some (.cells (lyBox nm true A6 out.length c6 a2) 36 (0, 0)) := by
                  rw [hB.block _ (by omega)]
                  exact (heap_alloc_old W10.drew _ (by show w.heap.size + 1 < W10.heap.size; omega)).trans HL10.out
                have hx12 := cells_of_block hb12
                have r2 := hx12.1 2
                have rf := hx12.2
                simp [lyBox] at r2
                have hw12 : Below w.heap.size w w12 := (hw10.drew.alloc (by show w.heap.size ≤ W10.heap.size; omega) _).trans (hB.mono (by omega))
                have HOWN := Lib.hid hown
                have HG12 := Lib.hid hg
                have HB12 := Lib.hid hB
                clear hb12 hx12 hown hg hB u1 u2 u3 u4
                refine hK.out _ _ hw12 (fun hHeld => ?_)
                (try simp only [Act.put, List.setIfInBounds_toArray, List.set_cons_zero, List.set_cons_succ])
                refine takeR (i := 16) (some 93) (v := ?_) rfl rfl (by kernel_rfl) (by kernel_rfl) (by kernel_rfl) (fun _ _ _ h => h) (Or.inl ⟨by rfl, ?_⟩) (by assumption) ?_
                rotate_left
                (focus (intro W hSw; (try dsimp only at hSw); obtain ⟨q0, q1, q2, q3, q4, q5, q6, q7⟩ := fd_cells HC1.out HFK.out HE.out; have p0 := (hSw.cell (p := ⟨b1, _, none⟩) hb1).trans q0; have p1 := (hSw.cell (p := ⟨b1, _, none⟩) hb1).trans q1; have p2 := (hSw.cell (p := ⟨b1, _, none⟩) hb1).trans q2; have p3 := (hSw.cell (p := ⟨b1, _, none⟩) hb1).trans q3; have p4 := (hSw.cell (p := ⟨b1, _, none⟩) hb1).trans q4; have p5 := (hSw.cell (p := ⟨b1, _, none⟩) hb1).trans q5; have p6 := (hSw.cell (p := ⟨b1, _, none⟩) hb1).trans q6; clear q0 q1 q2 q3 q4 q5 q6 q7; go_simp; (try with_reducible rfl)))
                (try simp only [Act.put, List.setIfInBounds_toArray, List.set_cons_zero, List.set_cons_succ])
                refine wpAnyH_ready (rs := [17]) (by kernel_rfl) (by simp) ?_
                refine AllReadyH.cons rfl (fun K hK => ?_) AllReadyH.nil
                go_simp
                refine hK.out _ _ (by (repeat' (first | (with_reducible exact Below.refl _ _) | (with_reducible assumption) | (with_reducible refine Below.setCell ?_ ?_ _) | (with_reducible refine Below.alloc ?_ ?_ _) | (with_reducible refine Below.drew ?_) | (with_reducible refine below_drewN ?_ _) | (with_reducible refine below_next ?_ (by with_reducible assumption)) | omega | (dsimp only; omega) | (simp only [World.size_alloc, World.size_setCell, World.size_drew, World.heap_drewN]; omega)))) (fun hHeld => ?_)
                (try simp only [Act.put, List.setIfInBounds_toArray, List.set_cons_zero, List.set_cons_succ])
                refine wpAnyH_done (by kernel_rfl) ?_ _
                go_wp2
                go_roundw
                case rel =>
                  refine ⟨out.length + 1, e2, max a al, f.name.toList :: seen, out ++ [⟨f.name, f.ty, 0⟩], A9, c9, by omega, rfl, by go_num, by have := HE2.out; omega, by have := HE2.out; omega, HAL.out, Lib.hid ?_, Lib.hid (HSE.out.step HFK.out), Lib.hid ?_⟩
                  · rw [HG.out, layGo_some HFK.out HSN.out HCM.out]
                    simp [HAP.out, HE2.out]
                  · rw [← HA2.out]
                    refine RLayS.step (f := ⟨f.name, f.ty, 0⟩) HS.out HLW9.out ?_ ?_ ?_ ?_ HOWN.out HG12.out HB12.out HTY.out rfl
                    · intro b hb1 hb2
                      exact (heap_alloc_old W10.drew _ (by show b < W10.heap.size; omega)).trans (HO10.out b hb1)
                    · show _ = (W10.heap.push _).size; rw [Array.size_push]; omega
                    · exact HB10.out.drew.alloc (by show w.heap.size ≤ W10.heap.size; omega) _
                    · exact (heap_alloc_old W10.drew _ (by show w.heap.size + 1 < W10.heap.size; omega)).trans HL10.out
                case measure => simp [intOf]; omega
    · have hkn : out.length = l.length := by omega
      have h5 : 1 ≤ a ∧ a ≤ 8 := by unfold Al at hal; omega
      obtain ⟨ap, hap⟩ : ∃ x, x = upTo e a := ⟨_, rfl⟩
      have hub := upTo_ok he1 hal
      have hup := fun W => rup_any e a ⟨he1, by omega⟩ hal W
      rw [← hap] at hub hup
      obtain ⟨hu1, hu2⟩ := hub
      have HUP := Lib.hid hup
      have HAP := Lib.hid hap
      have hgo := HG.out
      rw [hkn, layGo_end] at hgo
      have HGO := Lib.hid hgo
      have hxR := cells_of_block HS.out.res
      have x0 := hxR.1 0
      have x1 := hxR.1 1
      have x2 := hxR.1 2
      have x3 := hxR.1 3
      have x4 := hxR.1 4
      have xf := hxR.2
      simp [zeroLyC] at x0 x1 x2 x3 x4
      have hxB := cells_of_block HS.out.box
      have z0 := hxB.1 0
      have z1 := hxB.1 1
      have z2 := hxB.1 2
      have z3 := hxB.1 3
      have z4 := hxB.1 4
      have zf := hxB.2
      simp [lyBox] at z0 z1 z2 z3 z4
      clear hxR hxB hup hap hgo hal HG
      by_cases hbig : 1048576 < ap
      · have HBIG := Lib.hid hbig
        go_wp2_with (go_at_call 75; (with_reducible refine (HUP.out _).mono ?_); rintro e w' ⟨rfl, rfl⟩)
        ((try simp only [Exit.inBlock, Exit.then]); go_light; refine bodyPost_ret (by simp [results, Tryd.results46, go_sem, *, ↓IntWalk.iteOmega]; try rfl) rfl ?_)
        refine .inl ⟨-1, 7, ?_, rfl, by (repeat' (first | (with_reducible exact Below.refl _ _) | (with_reducible assumption) | (with_reducible refine Below.setCell ?_ ?_ _) | (with_reducible refine Below.alloc ?_ ?_ _) | (with_reducible refine Below.drew ?_) | (with_reducible refine below_drewN ?_ _) | (with_reducible refine below_next ?_ (by with_reducible assumption)) | omega | (dsimp only; omega) | (simp only [World.size_alloc, World.size_setCell, World.size_drew, World.heap_drewN]; omega)))⟩
        unfold layF
        rw [HGO.out]
        dsimp only
        rw [← HAP.out, if_pos HBIG.out]
      · have hbig2 : ap ≤ 1048576 := by omega
        have HBIG := Lib.hid hbig
        clear hbig
        go_wp2_with (go_at_call 75; (with_reducible refine (HUP.out _).mono ?_); rintro e w' ⟨rfl, rfl⟩)
        ((try simp only [Exit.inBlock, Exit.then]); go_light; refine bodyPost_ret (by simp [results, Tryd.results46, go_sem, *, ↓IntWalk.iteOmega]; try rfl) rfl ?_)
        refine .inr ⟨ap, a, out, .slice A6 out.length c6, ?_, by rw [hkn]; rfl, ⟨(HS.out.own.keep fun b hb => ?_).rdl fdC_len, fun f hf => (HS.out.tys f hf).next (by (repeat' (first | (with_reducible exact Below.refl _ _) | (with_reducible assumption) | (with_reducible refine Below.setCell ?_ ?_ _) | (with_reducible refine Below.alloc ?_ ?_ _) | (with_reducible refine Below.drew ?_) | (with_reducible refine below_drewN ?_ _) | (with_reducible refine below_next ?_ (by with_reducible assumption)) | omega | (dsimp only; omega) | (simp only [World.size_alloc, World.size_setCell, World.size_drew, World.heap_drewN]; omega))))⟩, fun b hb => by (have := (HS.out.own.lt hb).1; omega), by (repeat' (first | (with_reducible exact Below.refl _ _) | (with_reducible assumption) | (with_reducible refine Below.setCell ?_ ?_ _) | (with_reducible refine Below.alloc ?_ ?_ _) | (with_reducible refine Below.drew ?_) | (with_reducible refine below_drewN ?_ _) | (with_reducible refine below_next ?_ (by with_reducible assumption)) | omega | (dsimp only; omega) | (simp only [World.size_alloc, World.size_setCell, World.size_drew, World.heap_drewN]; omega)))⟩
        · unfold layF
          rw [HGO.out]
          dsimp only
          rw [← HAP.out, if_neg (by have := HBIG.out; omega)]
        · have := (HS.out.own.lt hb).1
          repeat rw [heap_setC _ _ _ _ _ (by omega)]
end Go.Proofs.YteeojgepgjndgaaDoor
