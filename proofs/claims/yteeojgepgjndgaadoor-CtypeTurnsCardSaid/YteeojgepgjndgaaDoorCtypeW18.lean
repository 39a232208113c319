/-
  A record's layout: the program's walk.
-/
import Derived.Test.YteeojgepgjndgaaDoorCtypeW17
namespace Go.Proofs.YteeojgepgjndgaaDoor
open Go.RowKit
set_option linter.unusedVariables false
set_option linter.unusedSimpArgs false

/-- What Lay answers. -/
def LayP (nm : ByteArray) (u : Bool) (K : List Ly) (l : List Fd) (w : World) (e : Ending) (w' : World) : Prop :=
  (∃ i c, layF u K l = .error (i, c) ∧ e = .returned (.tuple #[.agg zeroLyC, .int .i64 i, .int .i64 c]) ∧ Below w.heap.size w w') ∨
  (∃ S A out sv, layF u K l = .ok (S, A, out) ∧ e = .returned (.tuple #[.agg (lyC ⟨nm, u, sv, out, S, A⟩).toArray, .int .i64 (-1), .int .i64 0]) ∧ RdFs w' sv out ∧ (∀ b, sv.ownBlock = some b → w.heap.size ≤ b) ∧ Below w.heap.size w w')
theorem lay_err {nm : ByteArray} {u : Bool} {K : List Ly} {l : List Fd} {w w' : World} {k : Nat} {c : Int} (h : layGo u K l 0 [] 0 1 [] = .error (k, c)) (hb : Below w.heap.size w w') :
    LayP nm u K l w (.returned (.tuple #[.agg zeroLyC, .int .i64 k, .int .i64 c])) w' := .inl ⟨k, c, by unfold layF; rw [h], rfl, hb⟩
theorem layGo_seen {u : Bool} {K : List Ly} {l : List Fd} {k : Nat} {f : Fd} {seen : List (List UInt8)} {e a : Int} {out : List Fd} (h : l[k]? = some f) (hn : f.name.toList ∈ seen) : layGo u K (l.drop k) k seen e a out = .error (k, 4) := by
  rw [List.drop_eq_getElem?_toList_append, h]
  simp [layGo, hn]
theorem layGo_none {u : Bool} {K : List Ly} {l : List Fd} {k : Nat} {f : Fd} {seen : List (List UInt8)} {e a : Int} {out : List Fd} (h : l[k]? = some f) (hn : f.name.toList ∉ seen) (hc : complete K f.ty = none) : layGo u K (l.drop k) k seen e a out = .error (k, 5) := by
  rw [List.drop_eq_getElem?_toList_append, h]
  simp [layGo, hn, hc]
theorem layGo_some {u : Bool} {K : List Ly} {l : List Fd} {k : Nat} {f : Fd} {seen : List (List UInt8)} {e a : Int} {out : List Fd} {s b : Int} (h : l[k]? = some f) (hn : f.name.toList ∉ seen) (hc : complete K f.ty = some (s, b)) :
    layGo u K (l.drop k) k seen e a out = layGo u K (l.drop (k + 1)) (k + 1) (f.name.toList :: seen) (min (max e ((if u then 0 else upTo e b) + s)) 4194304) (max a b) (out ++ [⟨f.name, f.ty, if u then 0 else upTo e b⟩]) := by
  rw [List.drop_eq_getElem?_toList_append, h]
  simp [layGo, hn, hc]
theorem layGo_end {u : Bool} {K : List Ly} {l : List Fd} {seen : List (List UInt8)} {e a : Int} {out : List Fd} : layGo u K (l.drop l.length) l.length seen e a out = .ok (e, a, out) := by
  simp [layGo]
theorem Al.max {a b : Int} (ha : Al a) (hb : Al b) : Al (max a b) := by
  unfold Al at *
  omega
theorem upTo_ok {e a : Int} (he : 0 ≤ e) (ha : Al a) : e ≤ upTo e a ∧ upTo e a < e + 8 := by
  unfold upTo Al at *
  rcases ha with rfl | rfl | rfl | rfl <;> simp <;> omega

set_option maxRecDepth 100000 in
set_option maxHeartbeats 8000000 in
theorem lay_any (nm : ByteArray) (u : Bool) (s sK : Value) (l : List Fd) (K : List Ly) (w : World) (hK : KOk K) (hs : RdFs w s l) (hk : RdLs w sK K) (hn : ∀ f ∈ l, f.name.size ≤ maxLen) (hl : l.length ≤ 1048576) :
    Calls Tryd.prog 34 #[.string nm, .bool u, s, sK] w (LayP nm u K l w) := by
  obtain ⟨i0, hi0, hz0, hz1, hz2⟩ := info_parts fd_info
  obtain ⟨h1, h2⟩ := hs
  obtain ⟨A1, c1, rfl, hm1, hm2, hcells⟩ := h1
  have HC := Lib.hid hcells
  have HT := Lib.hid h2
  have HK := Lib.hid hK
  have HL := Lib.hid hk
  have HN := Lib.hid hn
  have hmm := @run_makeMap Tryd.prog
  clear hcells h2 hK hk hn
  have hA1 := cell_alloc_if
  have hA2 := frozen_alloc_if
  have hA3 := cell_set_if
  go_enter Tryd.func34, Tryd.ntmps34
  go_wp2
  have hF0 : LayS w (((w.alloc (.cells zeroLyC 36)).alloc (.cells (lyBox nm u none 0 0 1) 36)).alloc (.map #[] 0)) nm u [] 1 [] none 0 0 := by
    have e1 : (w.alloc (.cells zeroLyC 36)).heap.size = w.heap.size + 1 := by simp
    have e2 : ((w.alloc (.cells zeroLyC 36)).alloc (.cells (lyBox nm u none 0 0 1) 36)).heap.size = w.heap.size + 2 := by simp
    refine ⟨by (repeat' (first | (with_reducible exact Below.refl _ _) | (with_reducible assumption) | (with_reducible refine Below.setCell ?_ ?_ _) | (with_reducible refine Below.alloc ?_ ?_ _) | (with_reducible refine Below.drew ?_) | (with_reducible refine below_drewN ?_ _) | (with_reducible refine below_next ?_ (by with_reducible assumption)) | omega | (dsimp only; omega) | (simp only [World.size_alloc, World.size_setCell, World.size_drew, World.heap_drewN]; omega))), by simp, ?_, ?_, ?_, OwnL.nil _ _ _ _ _, rfl, fun f hf => by cases hf⟩
    · rw [heap_alloc_old _ _ (by simp only [World.size_alloc]; omega), heap_alloc_old _ _ (by simp only [World.size_alloc]; omega), heap_alloc_new]
    · rw [heap_alloc_old _ _ (by simp only [World.size_alloc]; omega)]
      have := heap_alloc_new (w.alloc (.cells zeroLyC 36)) (.cells (lyBox nm u none 0 0 1) 36)
      rw [e1] at this
      exact this
    · have := MapS.made (P := Tryd.prog) (k := 9) (e := 3) ((w.alloc (.cells zeroLyC 36)).alloc (.cells (lyBox nm u none 0 0 1) 36))
      rw [e2] at this
      have e : (fun _ => 0 : List UInt8 → Int) = seenF [] := by funext x; simp [seenF]
      rw [e] at this
      exact this
  have HF := Lib.hid hF0
  clear hF0 hmm
  go_loopw [13, 24] (fun e13 k24 wr => ∃ (k : Nat) (e a : Int) (seen : List (List UInt8)) (out : List Fd) (A6 : Option Addr) (c6 : Nat), k ≤ l.length ∧ e13 = .int .i64 e ∧ k24 = .int .i64 k ∧ 0 ≤ e ∧ e ≤ 4194304 ∧ Al a ∧ Hid (layGo u K l 0 [] 0 1 [] = layGo u K (l.drop k) k seen e a out) ∧ Hid (LayS w wr nm u out a seen A6 c6 k)) (fun _ k24 _ => l.length - (intOf k24).toNat)
  case atStart => exact ⟨0, 0, 1, [], [], none, 0, by omega, rfl, rfl, by omega, by omega, .inl rfl, Lib.hid (by simp), HF⟩
  case round =>
    obtain ⟨k, e, a, seen, out, A6, c6, hk, rfl, rfl, he1, he2, hal, HG, HS⟩ := hrel
    obtain rfl : out.length = k := HS.out.len
    have hlow := HS.out.low
    have hsz := HS.out.size
    by_cases hlt : out.length < l.length
    · obtain ⟨b1, o1, hA, hb1, hc1⟩ := HC.out (by omega)
      subst hA
      obtain ⟨f, hf⟩ : ∃ f, l[out.length]? = some f := ⟨_, List.getElem?_eq_getElem hlt⟩
      have hfm := List.mem_of_getElem? hf
      have hty := HT.out f hfm
      have hnm := HN.out f hfm
      obtain ⟨tk, ts, tl, tf, tn, TA, tm, tc, et⟩ := tyC_form f.ty hty
      obtain ⟨p0, p1, p2, p3, p4, p5, p6, p7⟩ := fd_cells hc1 hf et
      have q0 := (hlow.cell (p := ⟨b1, _, none⟩) hb1).trans p0
      have q1 := (hlow.cell (p := ⟨b1, _, none⟩) hb1).trans p1
      have q2 := (hlow.cell (p := ⟨b1, _, none⟩) hb1).trans p2
      have q3 := (hlow.cell (p := ⟨b1, _, none⟩) hb1).trans p3
      have q4 := (hlow.cell (p := ⟨b1, _, none⟩) hb1).trans p4
      have q5 := (hlow.cell (p := ⟨b1, _, none⟩) hb1).trans p5
      have q6 := (hlow.cell (p := ⟨b1, _, none⟩) hb1).trans p6
      have q7 := (hlow.cell (p := ⟨b1, _, none⟩) hb1).trans p7
      have HTY := Lib.hid hty
      have HNM := Lib.hid hnm
      have HE := Lib.hid et
      have HFK := Lib.hid hf
      clear hc1 p0 p1 p2 p3 p4 p5 p6 p7 hty hnm et hf
      have hfb : ∀ (c : Array Value) (T : TypeId), (wr.alloc (.cells c T)).heap[wr.heap.size]? = some (.cells c T (0, 0)) := fun c T => heap_alloc_new wr (.cells c T)
      have hM6 : ∀ (c : Array Value) (T : TypeId), MapS Tryd.prog 9 3 (wr.alloc (.cells c T)) (w.heap.size + 2) out.length (seenF seen) := fun c T => HS.out.map.next ((Below.refl _ _).alloc (Nat.le_refl _) _)
      have HFB := Lib.hid hfb
      have HM6 := Lib.hid hM6
      clear hfb hM6
      by_cases hsn : f.name.toList ∈ seen
      · have hv : seenF seen f.name.toList = 1 := by unfold seenF; rw [if_pos hsn]
        have hv2 : setS (seenF seen) f.name.toList 2 f.name.toList = 2 := by unfold setS; rw [if_pos rfl]
        have HSN := Lib.hid hsn
        have HV := Lib.hid hv
        have HV2 := Lib.hid hv2
        clear hsn hv hv2
        go_upto_region 8 with (first
          | (at_lookup; refine wpList_lookS rfl _ _ rfl Tryd.underlying9 Tryd.underlying3 Tryd.underlying117 zint (HM6.out _ _) f.name HNM.out rfl rfl ?_; rw [HV.out])
          | (at_mapUpdate; refine wpList_putS rfl _ _ _ _ rfl Tryd.underlying9 Tryd.underlying3 Tryd.underlying117 (HM6.out _ _) (by unfold maxLen; omega) f.name HNM.out 2 (by decide) rfl rfl rfl ?_; intro w7 hm7 hg7))
        have h7 : ∀ b, b ≠ w.heap.size + 2 → b < wr.heap.size → w7.heap[b]? = wr.heap[b]? := fun b hb hlt => by
          rw [hg7.block b (by simp only [World.size_alloc]; omega) (by intro e; injection e with e; exact hb e), heap_alloc_old _ _ hlt]
        have hF7 := (hg7.block wr.heap.size (by simp only [World.size_alloc]; omega) (by intro e; injection e with e; omega)).trans (HFB.out _ _)
        have hs7 := hg7.size
        simp only [World.size_alloc] at hs7
        have hl7 : Below w.heap.size wr w7 := ((Below.refl w.heap.size wr).alloc (by omega) _).grown hg7 (by simp only [World.size_alloc]; omega) (fun k hk => by injection hk with hk; omega)
        have hxF := cells_of_block hF7
        have y0 := hxF.1 0
        have y1 := hxF.1 1
        have y2 := hxF.1 2
        have y3 := hxF.1 3
        have y4 := hxF.1 4
        have y5 := hxF.1 5
        have y6 := hxF.1 6
        have y7 := hxF.1 7
        have yf := hxF.2
        simp at y0 y1 y2 y3 y4 y5 y6 y7
        have hxR := cells_of_block ((h7 _ (by omega) (by omega)).trans HS.out.res)
        have x0 := hxR.1 0
        have x1 := hxR.1 1
        have x2 := hxR.1 2
        have x3 := hxR.1 3
        have x4 := hxR.1 4
        have xf := hxR.2
        simp [zeroLyC] at x0 x1 x2 x3 x4
        have hxB := cells_of_block ((h7 _ (by omega) (by omega)).trans HS.out.box)
        have z0 := hxB.1 0
        have z1 := hxB.1 1
        have z2 := hxB.1 2
        have z3 := hxB.1 3
        have z4 := hxB.1 4
        have zf := hxB.2
        simp [lyBox] at z0 z1 z2 z3 z4
        have hb7 : Below w.heap.size w w7 := hlow.trans hl7
        have HM7 := Lib.hid hm7
        have HF7 := Lib.hid hF7
        have H7 := Lib.hid h7
        have HL7 := Lib.hid hl7
        clear hm7 hg7 hF7 hxF hxR hxB h7 hl7 q0 q1 q2 q3 q4 q5 q6 q7
        go_wp2_with (at_lookup; refine wpList_lookS rfl _ _ rfl Tryd.underlying9 Tryd.underlying3 Tryd.underlying117 zint HM7.out f.name HNM.out rfl rfl ?_; rw [HV2.out])
        ((try simp only [Exit.inBlock, Exit.then]); go_light; refine bodyPost_ret (by simp [results, Tryd.results34, go_sem, *, ↓IntWalk.iteOmega]; try rfl) rfl ?_)
        exact lay_err (HG.out.trans (layGo_seen HFK.out HSN.out)) (by (repeat' (first | (with_reducible exact Below.refl _ _) | (with_reducible assumption) | (with_reducible refine Below.setCell ?_ ?_ _) | (with_reducible refine Below.alloc ?_ ?_ _) | (with_reducible refine Below.drew ?_) | (with_reducible refine below_drewN ?_ _) | (with_reducible refine below_next ?_ (by with_reducible assumption)) | omega | (dsimp only; omega) | (simp only [World.size_alloc, World.size_setCell, World.size_drew, World.heap_drewN]; omega))))
      · have hv : seenF seen f.name.toList = 0 := by unfold seenF; rw [if_neg hsn]
        have hv2 : setS (seenF seen) f.name.toList 1 f.name.toList = 1 := by unfold setS; rw [if_pos rfl]
        have hcomp := fun W (hW : Below w.heap.size w W) => (both_any f.ty).1 K sK W HK.out (HL.out.next hW) (HTY.out.next hW)
        have hsize := fun W (hW : Below w.heap.size w W) => (both_any f.ty).2 K sK W HK.out (HL.out.next hW) (HTY.out.next hW)
        rw [tyV_of HE.out] at hcomp hsize
        cases hcm : complete K f.ty with
        | none =>
          rw [hcm] at hcomp
          have HCOMP := Lib.hid hcomp
          have HCM := Lib.hid hcm
          have HSN := Lib.hid hsn
          have HV := Lib.hid hv
          have HV2 := Lib.hid hv2
          clear hcomp hsize hcm hsn hv hv2
          go_upto_region 8 with (first
            | (at_lookup; refine wpList_lookS rfl _ _ rfl Tryd.underlying9 Tryd.underlying3 Tryd.underlying117 zint (HM6.out _ _) f.name HNM.out rfl rfl ?_; rw [HV.out])
            | (at_mapUpdate; refine wpList_putS rfl _ _ _ _ rfl Tryd.underlying9 Tryd.underlying3 Tryd.underlying117 (HM6.out _ _) (by unfold maxLen; omega) f.name HNM.out 1 (by decide) rfl rfl rfl ?_; intro w7 hm7 hg7))
          have h7 : ∀ b, b ≠ w.heap.size + 2 → b < wr.heap.size → w7.heap[b]? = wr.heap[b]? := fun b hb hlt => by
            rw [hg7.block b (by simp only [World.size_alloc]; omega) (by intro e; injection e with e; exact hb e), heap_alloc_old _ _ hlt]
          have hF7 := (hg7.block wr.heap.size (by simp only [World.size_alloc]; omega) (by intro e; injection e with e; omega)).trans (HFB.out _ _)
          have hs7 := hg7.size
          simp only [World.size_alloc] at hs7
          have hl7 : Below w.heap.size wr w7 := ((Below.refl w.heap.size wr).alloc (by omega) _).grown hg7 (by simp only [World.size_alloc]; omega) (fun k hk => by injection hk with hk; omega)
          have hxF := cells_of_block hF7
          have y0 := hxF.1 0
          have y1 := hxF.1 1
          have y2 := hxF.1 2
          have y3 := hxF.1 3
          have y4 := hxF.1 4
          have y5 := hxF.1 5
          have y6 := hxF.1 6
          have y7 := hxF.1 7
          have yf := hxF.2
          simp at y0 y1 y2 y3 y4 y5 y6 y7
          have hxR := cells_of_block ((h7 _ (by omega) (by omega)).trans HS.out.res)
          have x0 := hxR.1 0
          have x1 := hxR.1 1
          have x2 := hxR.1 2
          have x3 := hxR.1 3
          have x4 := hxR.1 4
          have xf := hxR.2
          simp [zeroLyC] at x0 x1 x2 x3 x4
          have hxB := cells_of_block ((h7 _ (by omega) (by omega)).trans HS.out.box)
          have z0 := hxB.1 0
          have z1 := hxB.1 1
          have z2 := hxB.1 2
          have z3 := hxB.1 3
          have z4 := hxB.1 4
          have zf := hxB.2
          simp [lyBox] at z0 z1 z2 z3 z4
          have hb7 : Below w.heap.size w w7 := hlow.trans hl7
          have HM7 := Lib.hid hm7
          have HF7 := Lib.hid hF7
          have H7 := Lib.hid h7
          have HL7 := Lib.hid hl7
          clear hm7 hg7 hF7 hxF hxR hxB h7 hl7 q0 q1 q2 q3 q4 q5 q6 q7
          go_wp2_with (first | (at_lookup; refine wpList_lookS rfl _ _ rfl Tryd.underlying9 Tryd.underlying3 Tryd.underlying117 zint HM7.out f.name HNM.out rfl rfl ?_; rw [HV2.out]) | (go_at_call 50; (with_reducible refine (HCOMP.out _ (by (repeat' (first | (with_reducible exact Below.refl _ _) | (with_reducible assumption) | (with_reducible refine Below.setCell ?_ ?_ _) | (with_reducible refine Below.alloc ?_ ?_ _) | (with_reducible refine Below.drew ?_) | (with_reducible refine below_drewN ?_ _) | (with_reducible refine below_next ?_ (by with_reducible assumption)) | omega | (dsimp only; omega) | (simp only [World.size_alloc, World.size_setCell, World.size_drew, World.heap_drewN]; omega))))).mono ?_); rintro e w' ⟨rfl, hbl⟩; obtain ⟨hc, hf, hz⟩ := cif hbl; (try simp only [World.size_alloc, World.size_setCell, World.size_drew, World.heap_drewN] at hz)))
          ((try simp only [Exit.inBlock, Exit.then]); go_light; refine bodyPost_ret (by simp [results, Tryd.results34, go_sem, *, ↓IntWalk.iteOmega]; try rfl) rfl ?_)
          exact lay_err (HG.out.trans (layGo_none HFK.out HSN.out HCM.out)) (by (repeat' (first | (with_reducible exact Below.refl _ _) | (with_reducible assumption) | (with_reducible refine Below.setCell ?_ ?_ _) | (with_reducible refine Below.alloc ?_ ?_ _) | (with_reducible refine Below.drew ?_) | (with_reducible refine below_drewN ?_ _) | (with_reducible refine below_next ?_ (by with_reducible assumption)) | omega | (dsimp only; omega) | (simp only [World.size_alloc, World.size_setCell, World.size_drew, World.heap_drewN]; omega))))
        | some sb =>
          obtain ⟨sz, al⟩ := sb
          rw [hcm] at hcomp
          rw [show sizeT K f.ty = (sz, al) by unfold sizeT; rw [hcm]; rfl] at hsize
          obtain ⟨g1, g2, g3⟩ := complete_ok K HK.out f.ty sz al hcm
          have g4 : 1 ≤ al ∧ al ≤ 8 := by unfold Al at g3; omega
          have g5 : 1 ≤ a ∧ a ≤ 8 := by unfold Al at hal; omega
          obtain ⟨ap, hap⟩ : ∃ x, x = upTo e al := ⟨_, rfl⟩
          have hub := upTo_ok he1 g3
          have hup := fun W => up_any e al ⟨he1, by omega⟩ g3 W
          rw [← hap] at hub hup
          obtain ⟨hu1, hu2⟩ := hub
          have HUP := Lib.hid hup
          have HAP := Lib.hid hap
          have HCOMP := Lib.hid hcomp
          have HSIZE := Lib.hid hsize
          have HCM := Lib.hid hcm
          have HSN := Lib.hid hsn
          have HV := Lib.hid hv
          have HV2 := Lib.hid hv2
          have HAL := Lib.hid (Al.max hal g3)
          clear hcomp hsize hcm hsn hv hv2 hup hap g3 hal
          cases u
          case false =>
            go_upto_region 8 with (first
              | (at_lookup; refine wpList_lookS rfl _ _ rfl Tryd.underlying9 Tryd.underlying3 Tryd.underlying117 zint (HM6.out _ _) f.name HNM.out rfl rfl ?_; rw [HV.out])
              | (at_mapUpdate; refine wpList_putS rfl _ _ _ _ rfl Tryd.underlying9 Tryd.underlying3 Tryd.underlying117 (HM6.out _ _) (by unfold maxLen; omega) f.name HNM.out 1 (by decide) rfl rfl rfl ?_; intro w7 hm7 hg7))
            have h7 : ∀ b, b ≠ w.heap.size + 2 → b < wr.heap.size → w7.heap[b]? = wr.heap[b]? := fun b hb hlt => by
              rw [hg7.block b (by simp only [World.size_alloc]; omega) (by intro e; injection e with e; exact hb e), heap_alloc_old _ _ hlt]
            have hF7 := (hg7.block wr.heap.size (by simp only [World.size_alloc]; omega) (by intro e; injection e with e; omega)).trans (HFB.out _ _)
            have hs7 := hg7.size
            simp only [World.size_alloc] at hs7
            have hl7 : Below w.heap.size wr w7 := ((Below.refl w.heap.size wr).alloc (by omega) _).grown hg7 (by simp only [World.size_alloc]; omega) (fun k hk => by injection hk with hk; omega)
            have hxF := cells_of_block hF7
            have y0 := hxF.1 0
            have y1 := hxF.1 1
            have y2 := hxF.1 2
            have y3 := hxF.1 3
            have y4 := hxF.1 4
            have y5 := hxF.1 5
            have y6 := hxF.1 6
            have y7 := hxF.1 7
            have yf := hxF.2
            simp at y0 y1 y2 y3 y4 y5 y6 y7
            have hxR := cells_of_block ((h7 _ (by omega) (by omega)).trans HS.out.res)
            have x0 := hxR.1 0
            have x1 := hxR.1 1
            have x2 := hxR.1 2
            have x3 := hxR.1 3
            have x4 := hxR.1 4
            have xf := hxR.2
            simp [zeroLyC] at x0 x1 x2 x3 x4
            have hxB := cells_of_block ((h7 _ (by omega) (by omega)).trans HS.out.box)
            have z0 := hxB.1 0
            have z1 := hxB.1 1
            have z2 := hxB.1 2
            have z3 := hxB.1 3
            have z4 := hxB.1 4
            have zf := hxB.2
            simp [lyBox] at z0 z1 z2 z3 z4
            have hb7 : Below w.heap.size w w7 := hlow.trans hl7
            have HM7 := Lib.hid hm7
            have HF7 := Lib.hid hF7
            have H7 := Lib.hid h7
            have HL7 := Lib.hid hl7
            clear hm7 hg7 hF7 hxF hxR hxB h7 hl7 q0 q1 q2 q3 q4 q5 q6 q7
            go_upto_region 18 with (first | (at_lookup; refine wpList_lookS rfl _ _ rfl Tryd.underlying9 Tryd.underlying3 Tryd.underlying117 zint HM7.out f.name HNM.out rfl rfl ?_; rw [HV2.out]) | (go_at_call 50; (with_reducible refine (HCOMP.out _ (by (repeat' (first | (with_reducible exact Below.refl _ _) | (with_reducible assumption) | (with_reducible refine Below.setCell ?_ ?_ _) | (with_reducible refine Below.alloc ?_ ?_ _) | (with_reducible refine Below.drew ?_) | (with_reducible refine below_drewN ?_ _) | (with_reducible refine below_next ?_ (by with_reducible assumption)) | omega | (dsimp only; omega) | (simp only [World.size_alloc, World.size_setCell, World.size_drew, World.heap_drewN]; omega))))).mono ?_); rintro e w' ⟨rfl, hbl⟩; obtain ⟨hc, hf, hz⟩ := cif hbl; (try simp only [World.size_alloc, World.size_setCell, World.size_drew, World.heap_drewN] at hz)) | (go_at_call 12; (with_reducible refine (HSIZE.out _ (by (repeat' (first | (with_reducible exact Below.refl _ _) | (with_reducible assumption) | (with_reducible refine Below.setCell ?_ ?_ _) | (with_reducible refine Below.alloc ?_ ?_ _) | (with_reducible refine Below.drew ?_) | (with_reducible refine below_drewN ?_ _) | (with_reducible refine below_next ?_ (by with_reducible assumption)) | omega | (dsimp only; omega) | (simp only [World.size_alloc, World.size_setCell, World.size_drew, World.heap_drewN]; omega))))).mono ?_); rintro e w9 ⟨rfl, hb9⟩; obtain ⟨hc9, hf9, hz9⟩ := cif hb9; (try simp only [World.size_alloc, World.size_setCell, World.size_drew, World.heap_drewN] at hz9)) | (go_at_call 73; (with_reducible refine (HUP.out _).mono ?_); rintro e w' ⟨rfl, rfl⟩))
            have HB9 := Lib.hid hb9
            have HBL := Lib.hid hbl
            have f9 := (hb9.block wr.heap.size (by omega)).trans ((hbl.block wr.heap.size (by omega)).trans HF7.out)
            have l9 := (hb9.block (w.heap.size + 1) (by omega)).trans ((hbl.block (w.heap.size + 1) (by omega)).trans ((H7.out _ (by omega) (by omega)).trans HS.out.box))
            have o9 : ∀ b, b ≠ w.heap.size + 2 → b < wr.heap.size → w9.heap[b]? = wr.heap[b]? := fun b hb hlt => (hb9.block b (by omega)).trans ((hbl.block b (by omega)).trans (H7.out b hb hlt))
            have hlw9 : Below w.heap.size wr w9 := HL7.out.trans ((hbl.mono (by omega)).trans (hb9.mono (by omega)))
            have hlw79 : Below w7.heap.size w7 w9 := hbl.trans (hb9.mono (by omega))
            obtain ⟨mx, hMX⟩ : ∃ x : Int, x = (if e < ap + sz then ap + sz else e) := ⟨_, rfl⟩
            rw [← hMX]
            obtain ⟨e2, hE2⟩ : ∃ x : Int, x = (if 4194304 < mx then 4194304 else mx) := ⟨_, rfl⟩
            obtain ⟨a2, hA2'⟩ : ∃ x : Int, x = (if a < al then al else a) := ⟨_, rfl⟩
            rw [← hE2, ← hA2']
            have HE2 : Hid (e2 = min (max e (ap + sz)) 4194304) := Lib.hid (by rw [hE2, hMX]; (repeat' split) <;> omega)
            have HA2 : Hid (a2 = max a al) := Lib.hid (by rw [hA2']; split <;> omega)
            clear hE2 hA2' hMX
            obtain ⟨W10, hW10⟩ : ∃ W, W = ((w9.setCell ⟨wr.heap.size, 7, none⟩ (.int .i64 0)).setCell ⟨wr.heap.size, 7, none⟩ (.int .i64 ap)).setCell ⟨w.heap.size + 1, 4, none⟩ (.int .i64 a2) := ⟨_, rfl⟩
            rw [← hW10]
            have z10 : W10.heap.size = w9.heap.size := by rw [hW10]; simp only [size_setC]
            have f10 : W10.heap[wr.heap.size]? = some (.cells (fdBox tk ts tl tf tn f.name TA tm tc ap) 59 (0, 0)) := by
              rw [hW10, heap_setC _ _ _ _ _ (by omega)]
              exact set_fd _ (set_fd 0 f9)
            have l10 : W10.heap[w.heap.size + 1]? = some (.cells (lyBox nm false A6 out.length c6 a2) 36 (0, 0)) := by
              rw [hW10]
              refine set_ly (a := a) _ ?_
              repeat rw [heap_setC _ _ _ _ _ (by omega)]
              exact l9
            have o10 : ∀ b, b ≠ wr.heap.size → b ≠ w.heap.size + 1 → W10.heap[b]? = w9.heap[b]? := fun b hb hb2 => by
              rw [hW10]
              repeat rw [heap_setC _ _ _ _ _ (by omega)]
            have b10 : Below w.heap.size w9 W10 := by rw [hW10]; (repeat' (first | (with_reducible exact Below.refl _ _) | (with_reducible assumption) | (with_reducible refine Below.setCell ?_ ?_ _) | (with_reducible refine Below.alloc ?_ ?_ _) | (with_reducible refine Below.drew ?_) | (with_reducible refine below_drewN ?_ _) | (with_reducible refine below_next ?_ (by with_reducible assumption)) | omega | (dsimp only; omega) | (simp only [World.size_alloc, World.size_setCell, World.size_drew, World.heap_drewN]; omega)))
            have hxF := cells_of_block f10
            have v0 := hxF.1 0
            have v1 := hxF.1 1
            have v2 := hxF.1 2
            have v3 := hxF.1 3
            have v4 := hxF.1 4
            have v5 := hxF.1 5
            have v6 := hxF.1 6
            have v7 := hxF.1 7
            simp [fdBox] at v0 v1 v2 v3 v4 v5 v6 v7
            have hxB := cells_of_block l10
            have t2 := hxB.1 2
            simp [lyBox] at t2
            have tf' := hxB.2
            clear hxF hxB hc hf hc9 hf9 y0 y1 y2 y3 y4 y5 y6 y7 yf x0 x1 x2 x3 x4 xf z0 z1 z2 z3 z4 zf hW10 hbl hb9
            have HF10 := Lib.hid f10
            have HL10 := Lib.hid l10
            have HO9 := Lib.hid o9
            have HO10 := Lib.hid o10
            have HB10 := Lib.hid b10
            have HLW9 := Lib.hid hlw9
            have HLW79 := Lib.hid hlw79
            clear f9 l9 f10 l10 o9 o10 b10 hlw9 hlw79
            go_wp2_with (at_builtin; refine wpList_app (e := 59) (f := fdC) rfl _ _ 34 rfl (w.heap.size + 3) i0 _ 96 Tryd.underlying34 hi0 hz0 hz1 hz2 rfl (by decide) fdC_len (.slice A6 out.length c6) out rfl ?c0 _ 1 _ [⟨f.name, f.ty, ap⟩] rfl ?c1 ?c2 (by decide) ?c3 ?c4 ?_)
            case c0 =>
              refine HS.out.own.keep fun b hb => ?_
              have := HS.out.own.lt hb
              rw [heap_alloc_old _ _ (by omega), HO10.out b (by omega) (by omega), HO9.out b (by omega) this.2]
            case c1 => exact RdL.oneFd (f := ⟨f.name, f.ty, ap⟩) (T := 59) HE.out (by rw [← z10]; exact heap_alloc_new _ _)
            case c2 => intro x hx u hu; simp at hx; subst hx; exact fdC_one (f := ⟨f.name, f.ty, ap⟩) HTY.out u hu
            case c3 => simp; omega
            case c4 => simp only [World.size_alloc]; omega
            intro A9 c9 w12 hown hg hB hor
            have hb12 : w12.heap[w.heap.size + 1]? = some (.cells (lyBox nm false A6 out.length c6 a2) 36 (0, 0)) := by
              rw [hB.block _ (by omega), heap_alloc_old _ _ (by omega)]
              exact HL10.out
            have hx12 := cells_of_block hb12
            have r2 := hx12.1 2
            have rf := hx12.2
            simp [lyBox] at r2
            have HOWN := Lib.hid hown
            have HG12 := Lib.hid hg
            have HB12 := Lib.hid hB
            clear hb12 hx12 hown hg hB hor v0 v1 v2 v3 v4 v5 v6 v7 t2 tf'
            go_wp2
            go_roundw
            case rel =>
              refine ⟨out.length + 1, e2, max a al, f.name.toList :: seen, out ++ [⟨f.name, f.ty, ap⟩], A9, c9, by omega, rfl, by go_num, by have := HE2.out; omega, by have := HE2.out; omega, HAL.out, Lib.hid ?_, Lib.hid ?_⟩
              · rw [HG.out, layGo_some HFK.out HSN.out HCM.out]
                simp [HAP.out, HE2.out]
              · rw [← HA2.out]
                refine LayS.step (f := ⟨f.name, f.ty, ap⟩) HS.out H7.out (by omega) HL7.out HM7.out HSN.out HLW79.out ?_ ?_ ?_ ?_ HOWN.out HG12.out HB12.out HTY.out rfl
                · intro b hb1 hb2 hb3
                  rw [heap_alloc_old _ _ (by omega), HO10.out b hb1 hb2]
                · simp only [World.size_alloc]; omega
                · exact HB10.out.alloc (by omega) _
                · rw [heap_alloc_old _ _ (by omega)]; exact HL10.out
            case measure => simp [intOf]; omega
          case true =>
            clear HUP
            go_upto_region 8 with (first
              | (at_lookup; refine wpList_lookS rfl _ _ rfl Tryd.underlying9 Tryd.underlying3 Tryd.underlying117 zint (HM6.out _ _) f.name HNM.out rfl rfl ?_; rw [HV.out])
              | (at_mapUpdate; refine wpList_putS rfl _ _ _ _ rfl Tryd.underlying9 Tryd.underlying3 Tryd.underlying117 (HM6.out _ _) (by unfold maxLen; omega) f.name HNM.out 1 (by decide) rfl rfl rfl ?_; intro w7 hm7 hg7))
            have h7 : ∀ b, b ≠ w.heap.size + 2 → b < wr.heap.size → w7.heap[b]? = wr.heap[b]? := fun b hb hlt => by
              rw [hg7.block b (by simp only [World.size_alloc]; omega) (by intro e; injection e with e; exact hb e), heap_alloc_old _ _ hlt]
            have hF7 := (hg7.block wr.heap.size (by simp only [World.size_alloc]; omega) (by intro e; injection e with e; omega)).trans (HFB.out _ _)
            have hs7 := hg7.size
            simp only [World.size_alloc] at hs7
            have hl7 : Below w.heap.size wr w7 := ((Below.refl w.heap.size wr).alloc (by omega) _).grown hg7 (by simp only [World.size_alloc]; omega) (fun k hk => by injection hk with hk; omega)
            have hxF := cells_of_block hF7
            have y0 := hxF.1 0
            have y1 := hxF.1 1
            have y2 := hxF.1 2
            have y3 := hxF.1 3
            have y4 := hxF.1 4
            have y5 := hxF.1 5
            have y6 := hxF.1 6
            have y7 := hxF.1 7
            have yf := hxF.2
            simp at y0 y1 y2 y3 y4 y5 y6 y7
            have hxR := cells_of_block ((h7 _ (by omega) (by omega)).trans HS.out.res)
            have x0 := hxR.1 0
            have x1 := hxR.1 1
            have x2 := hxR.1 2
            have x3 := hxR.1 3
            have x4 := hxR.1 4
            have xf := hxR.2
            simp [zeroLyC] at x0 x1 x2 x3 x4
            have hxB := cells_of_block ((h7 _ (by omega) (by omega)).trans HS.out.box)
            have z0 := hxB.1 0
            have z1 := hxB.1 1
            have z2 := hxB.1 2
            have z3 := hxB.1 3
            have z4 := hxB.1 4
            have zf := hxB.2
            simp [lyBox] at z0 z1 z2 z3 z4
            have hb7 : Below w.heap.size w w7 := hlow.trans hl7
            have HM7 := Lib.hid hm7
            have HF7 := Lib.hid hF7
            have H7 := Lib.hid h7
            have HL7 := Lib.hid hl7
            clear hm7 hg7 hF7 hxF hxR hxB h7 hl7 q0 q1 q2 q3 q4 q5 q6 q7
            go_upto_region 18 with (first | (at_lookup; refine wpList_lookS rfl _ _ rfl Tryd.underlying9 Tryd.underlying3 Tryd.underlying117 zint HM7.out f.name HNM.out rfl rfl ?_; rw [HV2.out]) | (go_at_call 50; (with_reducible refine (HCOMP.out _ (by (repeat' (first | (with_reducible exact Below.refl _ _) | (with_reducible assumption) | (with_reducible refine Below.setCell ?_ ?_ _) | (with_reducible refine Below.alloc ?_ ?_ _) | (with_reducible refine Below.drew ?_) | (with_reducible refine below_drewN ?_ _) | (with_reducible refine below_next ?_ (by with_reducible assumption)) | omega | (dsimp only; omega) | (simp only [World.size_alloc, World.size_setCell, World.size_drew, World.heap_drewN]; omega))))).mono ?_); rintro e w' ⟨rfl, hbl⟩; obtain ⟨hc, hf, hz⟩ := cif hbl; (try simp only [World.size_alloc, World.size_setCell, World.size_drew, World.heap_drewN] at hz)) | (go_at_call 12; (with_reducible refine (HSIZE.out _ (by (repeat' (first | (with_reducible exact Below.refl _ _) | (with_reducible assumption) | (with_reducible refine Below.setCell ?_ ?_ _) | (with_reducible refine Below.alloc ?_ ?_ _) | (with_reducible refine Below.drew ?_) | (with_reducible refine below_drewN ?_ _) | (with_reducible refine below_next ?_ (by with_reducible assumption)) | omega | (dsimp only; omega) | (simp only [World.size_alloc, World.size_setCell, World.size_drew, World.heap_drewN]; omega))))).mono ?_); rintro e w9 ⟨rfl, hb9⟩; obtain ⟨hc9, hf9, hz9⟩ := cif hb9; (try simp only [World.size_alloc, World.size_setCell, World.size_drew, World.heap_drewN] at hz9)))
            have HB9 := Lib.hid hb9
            have HBL := Lib.hid hbl
            have f9 := (hb9.block wr.heap.size (by omega)).trans ((hbl.block wr.heap.size (by omega)).trans HF7.out)
            have l9 := (hb9.block (w.heap.size + 1) (by omega)).trans ((hbl.block (w.heap.size + 1) (by omega)).trans ((H7.out _ (by omega) (by omega)).trans HS.out.box))
            have o9 : ∀ b, b ≠ w.heap.size + 2 → b < wr.heap.size → w9.heap[b]? = wr.heap[b]? := fun b hb hlt => (hb9.block b (by omega)).trans ((hbl.block b (by omega)).trans (H7.out b hb hlt))
            have hlw9 : Below w.heap.size wr w9 := HL7.out.trans ((hbl.mono (by omega)).trans (hb9.mono (by omega)))
            have hlw79 : Below w7.heap.size w7 w9 := hbl.trans (hb9.mono (by omega))
            obtain ⟨mx, hMX⟩ : ∃ x : Int, x = (if e < sz then sz else e) := ⟨_, rfl⟩
            rw [← hMX]
            obtain ⟨e2, hE2⟩ : ∃ x : Int, x = mx := ⟨_, rfl⟩
            obtain ⟨a2, hA2'⟩ : ∃ x : Int, x = (if a < al then al else a) := ⟨_, rfl⟩
            rw [← hE2, ← hA2']
            have HE2 : Hid (e2 = min (max e (0 + sz)) 4194304) := Lib.hid (by rw [hE2, hMX]; (repeat' split) <;> omega)
            have HA2 : Hid (a2 = max a al) := Lib.hid (by rw [hA2']; split <;> omega)
            clear hE2 hA2' hMX
            obtain ⟨W10, hW10⟩ : ∃ W, W = (w9.setCell ⟨wr.heap.size, 7, none⟩ (.int .i64 0)).setCell ⟨w.heap.size + 1, 4, none⟩ (.int .i64 a2) := ⟨_, rfl⟩
            rw [← hW10]
            have z10 : W10.heap.size = w9.heap.size := by rw [hW10]; simp only [size_setC]
            have f10 : W10.heap[wr.heap.size]? = some (.cells (fdBox tk ts tl tf tn f.name TA tm tc 0) 59 (0, 0)) := by
              rw [hW10, heap_setC _ _ _ _ _ (by omega)]
              exact set_fd 0 f9
            have l10 : W10.heap[w.heap.size + 1]? = some (.cells (lyBox nm true A6 out.length c6 a2) 36 (0, 0)) := by
              rw [hW10]
              refine set_ly (a := a) _ ?_
              repeat rw [heap_setC _ _ _ _ _ (by omega)]
              exact l9
            have o10 : ∀ b, b ≠ wr.heap.size → b ≠ w.heap.size + 1 → W10.heap[b]? = w9.heap[b]? := fun b hb hb2 => by
              rw [hW10]
              repeat rw [heap_setC _ _ _ _ _ (by omega)]
            have b10 : Below w.heap.size w9 W10 := by rw [hW10]; (repeat' (first | (with_reducible exact Below.refl _ _) | (with_reducible assumption) | (with_reducible refine Below.setCell ?_ ?_ _) | (with_reducible refine Below.alloc ?_ ?_ _) | (with_reducible refine Below.drew ?_) | (with_reducible refine below_drewN ?_ _) | (with_reducible refine below_next ?_ (by with_reducible assumption)) | omega | (dsimp only; omega) | (simp only [World.size_alloc, World.size_setCell, World.size_drew, World.heap_drewN]; omega)))
            have hxF := cells_of_block f10
            have v0 := hxF.1 0
            have v1 := hxF.1 1
            have v2 := hxF.1 2
            have v3 := hxF.1 3
            have v4 := hxF.1 4
            have v5 := hxF.1 5
            have v6 := hxF.1 6
            have v7 := hxF.1 7
            simp [fdBox] at v0 v1 v2 v3 v4 v5 v6 v7
            have hxB := cells_of_block l10
            have t2 := hxB.1 2
            simp [lyBox] at t2
            have tf' := hxB.2
            clear hxF hxB hc hf hc9 hf9 y0 y1 y2 y3 y4 y5 y6 y7 yf x0 x1 x2 x3 x4 xf z0 z1 z2 z3 z4 zf hW10 hbl hb9
            have HF10 := Lib.hid f10
            have HL10 := Lib.hid l10
            have HO9 := Lib.hid o9
            have HO10 := Lib.hid o10
            have HB10 := Lib.hid b10
            have HLW9 := Lib.hid hlw9
            have HLW79 := Lib.hid hlw79
            clear f9 l9 f10 l10 o9 o10 b10 hlw9 hlw79
            go_wp2_with (at_builtin; refine wpList_app (e := 59) (f := fdC) rfl _ _ 34 rfl (w.heap.size + 3) i0 _ 96 Tryd.underlying34 hi0 hz0 hz1 hz2 rfl (by decide) fdC_len (.slice A6 out.length c6) out rfl ?c0 _ 1 _ [⟨f.name, f.ty, 0⟩] rfl ?c1 ?c2 (by decide) ?c3 ?c4 ?_)
            case c0 =>
              refine HS.out.own.keep fun b hb => ?_
              have := HS.out.own.lt hb
              rw [heap_alloc_old _ _ (by omega), HO10.out b (by omega) (by omega), HO9.out b (by omega) this.2]
            case c1 => exact RdL.oneFd (f := ⟨f.name, f.ty, 0⟩) (T := 59) HE.out (by rw [← z10]; exact heap_alloc_new _ _)
            case c2 => intro x hx u hu; simp at hx; subst hx; exact fdC_one (f := ⟨f.name, f.ty, 0⟩) HTY.out u hu
            case c3 => simp; omega
            case c4 => simp only [World.size_alloc]; omega
            intro A9 c9 w12 hown hg hB hor
            have hb12 : w12.heap[w.heap.size + 1]? = some (.cells (lyBox nm true A6 out.length c6 a2) 36 (0, 0)) := by
              rw [hB.block _ (by omega), heap_alloc_old _ _ (by omega)]
              exact HL10.out
            have hx12 := cells_of_block hb12
            have r2 := hx12.1 2
            have rf := hx12.2
            simp [lyBox] at r2
            have HOWN := Lib.hid hown
            have HG12 := Lib.hid hg
            have HB12 := Lib.hid hB
            clear hb12 hx12 hown hg hB hor v0 v1 v2 v3 v4 v5 v6 v7 t2 tf'
            go_wp2
            go_roundw
            case rel =>
              refine ⟨out.length + 1, e2, max a al, f.name.toList :: seen, out ++ [⟨f.name, f.ty, 0⟩], A9, c9, by omega, rfl, by go_num, by have := HE2.out; omega, by have := HE2.out; omega, HAL.out, Lib.hid ?_, Lib.hid ?_⟩
              · rw [HG.out, layGo_some HFK.out HSN.out HCM.out]
                simp [HAP.out, HE2.out]
              · rw [← HA2.out]
                refine LayS.step (f := ⟨f.name, f.ty, 0⟩) HS.out H7.out (by omega) HL7.out HM7.out HSN.out HLW79.out ?_ ?_ ?_ ?_ HOWN.out HG12.out HB12.out HTY.out rfl
                · intro b hb1 hb2 hb3
                  rw [heap_alloc_old _ _ (by omega), HO10.out b hb1 hb2]
                · simp only [World.size_alloc]; omega
                · exact HB10.out.alloc (by omega) _
                · rw [heap_alloc_old _ _ (by omega)]; exact HL10.out
            case measure => simp [intOf]; omega
    · have hkn : out.length = l.length := by omega
      have h5 : 1 ≤ a ∧ a ≤ 8 := by unfold Al at hal; omega
      obtain ⟨ap, hap⟩ : ∃ x, x = upTo e a := ⟨_, rfl⟩
      have hub := upTo_ok he1 hal
      have hup := fun W => up_any e a ⟨he1, by omega⟩ hal W
      rw [← hap] at hub hup
      obtain ⟨hu1, hu2⟩ := hub
      have HUP := Lib.hid hup
      have HAP := Lib.hid hap
      have hgo := HG.out
      rw [hkn, layGo_end] at hgo
      have HGO := Lib.hid hgo
      have hxR := cells_of_block HS.out.res
      have x0 := hxR.1 0
      have x1 := hxR.1 1
      have x2 := hxR.1 2
      have x3 := hxR.1 3
      have x4 := hxR.1 4
      have xf := hxR.2
      simp [zeroLyC] at x0 x1 x2 x3 x4
      have hxB := cells_of_block HS.out.box
      have z0 := hxB.1 0
      have z1 := hxB.1 1
      have z2 := hxB.1 2
      have z3 := hxB.1 3
      have z4 := hxB.1 4
      have zf := hxB.2
      simp [lyBox] at z0 z1 z2 z3 z4
      clear hxR hxB hup hap hgo hal HG
      by_cases hbig : 1048576 < ap
      · have HBIG := Lib.hid hbig
        go_wp2_with (go_at_call 73; (with_reducible refine (HUP.out _).mono ?_); rintro e w' ⟨rfl, rfl⟩)
        ((try simp only [Exit.inBlock, Exit.then]); go_light; refine bodyPost_ret (by simp [results, Tryd.results34, go_sem, *, ↓IntWalk.iteOmega]; try rfl) rfl ?_)
        refine .inl ⟨-1, 7, ?_, rfl, by (repeat' (first | (with_reducible exact Below.refl _ _) | (with_reducible assumption) | (with_reducible refine Below.setCell ?_ ?_ _) | (with_reducible refine Below.alloc ?_ ?_ _) | (with_reducible refine Below.drew ?_) | (with_reducible refine below_drewN ?_ _) | (with_reducible refine below_next ?_ (by with_reducible assumption)) | omega | (dsimp only; omega) | (simp only [World.size_alloc, World.size_setCell, World.size_drew, World.heap_drewN]; omega)))⟩
        unfold layF
        rw [HGO.out]
        dsimp only
        rw [← HAP.out, if_pos HBIG.out]
      · have hbig2 : ap ≤ 1048576 := by omega
        have HBIG := Lib.hid hbig
        clear hbig
        go_wp2_with (go_at_call 73; (with_reducible refine (HUP.out _).mono ?_); rintro e w' ⟨rfl, rfl⟩)
        ((try simp only [Exit.inBlock, Exit.then]); go_light; refine bodyPost_ret (by simp [results, Tryd.results34, go_sem, *, ↓IntWalk.iteOmega]; try rfl) rfl ?_)
        refine .inr ⟨ap, a, out, .slice A6 out.length c6, ?_, by rw [hkn]; rfl, ⟨(HS.out.own.keep fun b hb => ?_).rdl fdC_len, fun f hf => (HS.out.tys f hf).next (by (repeat' (first | (with_reducible exact Below.refl _ _) | (with_reducible assumption) | (with_reducible refine Below.setCell ?_ ?_ _) | (with_reducible refine Below.alloc ?_ ?_ _) | (with_reducible refine Below.drew ?_) | (with_reducible refine below_drewN ?_ _) | (with_reducible refine below_next ?_ (by with_reducible assumption)) | omega | (dsimp only; omega) | (simp only [World.size_alloc, World.size_setCell, World.size_drew, World.heap_drewN]; omega))))⟩, fun b hb => by (have := (HS.out.own.lt hb).1; omega), by (repeat' (first | (with_reducible exact Below.refl _ _) | (with_reducible assumption) | (with_reducible refine Below.setCell ?_ ?_ _) | (with_reducible refine Below.alloc ?_ ?_ _) | (with_reducible refine Below.drew ?_) | (with_reducible refine below_drewN ?_ _) | (with_reducible refine below_next ?_ (by with_reducible assumption)) | omega | (dsimp only; omega) | (simp only [World.size_alloc, World.size_setCell, World.size_drew, World.heap_drewN]; omega)))⟩
        · unfold layF
          rw [HGO.out]
          dsimp only
          rw [← HAP.out, if_neg (by have := HBIG.out; omega)]
        · have := (HS.out.own.lt hb).1
          repeat rw [heap_setC _ _ _ _ _ (by omega)]
end Go.Proofs.YteeojgepgjndgaaDoor
