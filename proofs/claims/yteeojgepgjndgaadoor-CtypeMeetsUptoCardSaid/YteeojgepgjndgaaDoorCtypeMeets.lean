/-
  The law CtypeMeets, walked: a struct's members stand one behind the other, aligned and within its size; a union's all at its beginning.
-/
import Derived.Test.YteeojgepgjndgaaDoorCtypeW23
import Derived.Test.YteeojgepgjndgaaDoorCtypeW25
import Derived.Test.YteeojgepgjndgaaDoorCtypeW26
namespace Go.Proofs.YteeojgepgjndgaaDoor
open Go.RowKit
set_option linter.unusedVariables false
set_option linter.unusedSimpArgs false

set_option maxRecDepth 100000 in
set_option maxHeartbeats 8000000 in
theorem meets_core (nm : Int) (un : Bool) (An At : Option Addr) (nn cn nt ct : Nat) (fg : Bool) (r : Rc) (w : World) (ht : TabW w)
    (hr : RdRc w r) (e1 : r.name = nm) (e2 : r.union = un) (e3 : r.nsv = .slice An nn cn) (e4 : r.tsv = .slice At nt ct) (e5 : r.forget = fg) :
    Calls Tryd.prog 6 #[.agg #[.int .i64 nm, .bool un, .slice An nn cn, .slice At nt ct, .bool fg]] w fun e w' => e = .returned (.bool true) ∧ Below w.heap.size w w' := by
  have HF : Hid (∀ W, Below w.heap.size w W → Calls Tryd.prog 9 #[] W fun e w' => e = .returned (.bool true) ∧ Below W.heap.size W w') := Lib.hid fun W hW => fixed_any W (ht.next hW)
  have HFD : Hid (∀ W, Below w.heap.size w W → Calls Tryd.prog 35 #[.agg #[.int .i64 nm, .bool un, .slice An nn cn, .slice At nt ct, .bool fg]] W (FieldsP r W)) := Lib.hid fun W hW => by
    have h := fields_any r _ _ _ _ _ _ W e3 e4 (hr.next hW)
    rw [e1, e2, e5] at h
    exact h
  have HNT : Hid (r.rows.length = nt) := Lib.hid (by obtain ⟨_, _, e, _⟩ := hr.2.1.1; rw [e4] at e; injection e with _ e _; exact e.symm)
  have HLN : Hid (r.rows.length ≤ 1048576) := Lib.hid hr.2.2
  clear ht hr e1 e2 e3 e4 e5
  have hA1 := cell_alloc_if
  have hA2 := frozen_alloc_if
  have hA3 := cell_set_if
  go_enter Tryd.func6, Tryd.ntmps6
  go_wp2_with (go_at_call 9; (with_reducible refine (HF.out _ (by (repeat' (first | (with_reducible exact Below.refl _ _) | (with_reducible assumption) | (with_reducible refine Below.setCell ?_ ?_ _) | (with_reducible refine Below.alloc ?_ ?_ _) | (with_reducible refine Below.drew ?_) | (with_reducible refine below_drewN ?_ _) | (with_reducible refine below_next ?_ (by with_reducible assumption)) | omega | (dsimp only; omega) | (simp only [World.size_alloc, World.size_setCell, World.size_drew, World.heap_drewN]; omega))))).mono ?_); rintro e w1 ⟨rfl, hb1⟩; obtain ⟨hc1, hf1, hz1⟩ := cif hb1; clear hf1; (try simp only [World.size_alloc, World.size_setCell, World.size_drew, World.heap_drewN] at hz1))
  go_cut [3, 4, 5] (fun s3 s4 s5 wx => ∃ (b3 : Nat) (lf : List Fd) (n' : ByteArray) (u' : Bool) (A' : Option Addr) (m' c' : Nat) (S' L' i c : Int), s3 = .pointer (some ⟨b3, 0, none⟩) ∧ s4 = .int .i64 i ∧ s5 = .int .i64 c ∧ Below w.heap.size w wx ∧ (wx.cell? ⟨w.heap.size, 0, none⟩ = some (.int .i64 nm) ∧ wx.cell? ⟨w.heap.size, 1, none⟩ = some (.bool un) ∧ wx.cell? ⟨w.heap.size, 2, none⟩ = some (.slice An nn cn) ∧ wx.cell? ⟨w.heap.size, 3, none⟩ = some (.slice At nt ct) ∧ wx.cell? ⟨w.heap.size, 4, none⟩ = some (.bool fg)) ∧ w.heap.size < b3 ∧ b3 < wx.heap.size ∧
    (wx.cell? ⟨b3, 0, none⟩ = some (.string n') ∧ wx.cell? ⟨b3, 1, none⟩ = some (.bool u') ∧ wx.cell? ⟨b3, 2, none⟩ = some (.slice A' m' c') ∧ wx.cell? ⟨b3, 3, none⟩ = some (.int .i64 S') ∧ wx.cell? ⟨b3, 4, none⟩ = some (.int .i64 L')) ∧ Hid (lf.length = r.rows.length) ∧ Hid (∃ B, LayD ⟨#[114]⟩ un [] lf B wx n' u' A' m' c' S' L' i c))
  case first =>
    go_region_held3 (fun W => Ext w W ∧ W.cell? ⟨w.heap.size, 0, none⟩ = some (.int .i64 nm) ∧ W.cell? ⟨w.heap.size, 1, none⟩ = some (.bool un) ∧ W.cell? ⟨w.heap.size, 2, none⟩ = some (.slice An nn cn) ∧ W.cell? ⟨w.heap.size, 3, none⟩ = some (.slice At nt ct) ∧ W.cell? ⟨w.heap.size, 4, none⟩ = some (.bool fg))
      (first | exact ⟨by unfold Ext at *; (repeat' (first | (with_reducible exact Below.refl _ _) | (with_reducible assumption) | (with_reducible refine Below.setCell ?_ ?_ _) | (with_reducible refine Below.alloc ?_ ?_ _) | (with_reducible refine Below.drew ?_) | (with_reducible refine below_drewN ?_ _) | (with_reducible refine below_next ?_ (by with_reducible assumption)) | omega | (dsimp only; omega) | (simp only [World.size_alloc, World.size_setCell, World.size_drew, World.heap_drewN]; omega))), by simp [*, ↓IntWalk.iteOmega], by simp [*, ↓IntWalk.iteOmega], by simp [*, ↓IntWalk.iteOmega], by simp [*, ↓IntWalk.iteOmega], by simp [*, ↓IntWalk.iteOmega]⟩)
      (first
      | (go_at_call 35; (with_reducible refine (HFD.out _ (by unfold Ext at *; (repeat' (first | (with_reducible exact Below.refl _ _) | (with_reducible assumption) | (with_reducible refine Below.setCell ?_ ?_ _) | (with_reducible refine Below.alloc ?_ ?_ _) | (with_reducible refine Below.drew ?_) | (with_reducible refine below_drewN ?_ _) | (with_reducible refine below_next ?_ (by with_reducible assumption)) | omega | (dsimp only; omega) | (simp only [World.size_alloc, World.size_setCell, World.size_drew, World.heap_drewN]; omega))))).mono ?_); rintro e w2 ⟨Af, cf, lf, rfl, hrf, hsp, hoff, hll, hit, hb2⟩; have HRF := Lib.hid hrf; have HOFF := Lib.hid hoff; have HLL := Lib.hid hll; have HIT := Lib.hid hit; clear hrf hsp hoff hll hit; obtain ⟨hc2, hf2, hz2⟩ := cif hb2; (try simp only [World.size_alloc, World.size_setCell, World.size_drew, World.heap_drewN] at hz2))
      | (go_at_call 34; (with_reducible refine (layq_any _ _ _ _ lf [] _ KOk.nil (HRF.out.next (by (repeat' (first | (with_reducible exact Below.refl _ _) | (with_reducible assumption) | (with_reducible refine Below.setCell ?_ ?_ _) | (with_reducible refine Below.alloc ?_ ?_ _) | (with_reducible refine Below.drew ?_) | (with_reducible refine below_drewN ?_ _) | (with_reducible refine below_next ?_ (by with_reducible assumption)) | omega | (dsimp only; omega) | (simp only [World.size_alloc, World.size_setCell, World.size_drew, World.heap_drewN]; omega))))) (RdLs.nil _) (fun f hf => (HOFF.out f hf).2) (by rw [HLL.out]; exact HLN.out)).mono ?_); rintro e w3 ⟨n', u', A', m', c', S', L', i, c, rfl, hb3, hld⟩; have HLD := Lib.hid hld; clear hld; obtain ⟨hc3, hf3, hz3⟩ := cif hb3; (try simp only [World.size_alloc, World.size_setCell, World.size_drew, World.heap_drewN] at hz3)))
    all_goals (
      go_wp2_with fail
      go_meet
      refine ⟨_, lf, n', u', A', m', c', S', L', i, c, rfl, rfl, rfl, by unfold Ext at *; (repeat' (first | (with_reducible exact Below.refl _ _) | (with_reducible assumption) | (with_reducible refine Below.setCell ?_ ?_ _) | (with_reducible refine Below.alloc ?_ ?_ _) | (with_reducible refine Below.drew ?_) | (with_reducible refine below_drewN ?_ _) | (with_reducible refine below_next ?_ (by with_reducible assumption)) | omega | (dsimp only; omega) | (simp only [World.size_alloc, World.size_setCell, World.size_drew, World.heap_drewN]; omega))), ⟨?_, ?_, ?_, ?_, ?_⟩, ?_, ?_, ⟨?_, ?_, ?_, ?_, ?_⟩, HLL, ?_⟩)
    all_goals (first
      | omega
      | (simp; omega)
      | (simp [*, ↓IntWalk.iteOmega]; done)
      | (refine Lib.hid ⟨_, HLD.out.next ?_⟩; (repeat' (first | (with_reducible exact Below.refl _ _) | (with_reducible assumption) | (with_reducible refine Below.setCell ?_ ?_ _) | (with_reducible refine Below.alloc ?_ ?_ _) | (with_reducible refine Below.drew ?_) | (with_reducible refine below_drewN ?_ _) | (with_reducible refine below_next ?_ (by with_reducible assumption)) | omega | (dsimp only; omega) | (simp only [World.size_alloc, World.size_setCell, World.size_drew, World.heap_drewN]; omega))); done)
      | (refine Lib.hid ⟨_, HLD.out.keep (g := w2.heap.size) ?_ (fun f hf => InT.mono (fun b hb => Nat.ne_of_lt hb.2) _ (HIT.out f hf)) (fun b hb => ?_)⟩; all_goals (first | (simp; done) | ((repeat rw [heap_setC _ _ _ _ _ hb]); done)); done)
      | (refine Lib.hid ⟨_, HLD.out.keep (g := w1.heap.size) ?_ (fun f hf => InT.mono (fun b hb => ?_) _ (HIT.out f hf)) (fun b hb => ?_)⟩; all_goals (first | omega | (have h1 := hb.1; simp at h1; omega) | ((repeat rw [heap_setC _ _ _ _ _ hb]); done)); done))
  case rest =>
    obtain ⟨b3, lf, n', u', A', m', c', S', L', i, c, rfl, rfl, rfl, hbw, ⟨x0, x1, x2, x3, x4⟩, hlt3, hlt3', ⟨y0, y1, y2, y3, y4⟩, HLL, HLD⟩ := hcut
    have hbz := hbw.size
    clear hc1
    obtain ⟨B, hld⟩ := HLD.out
    rcases hld with ⟨h, rfl, rfl, rfl, rfl, rfl, rfl, rfl⟩ | ⟨rfl, rfl, rfl, rfl, out, h, hrd, rfl, _, _⟩
    · obtain ⟨hc0, hi, hc⟩ := layF_err _ _ _ _ _ h
      clear HLD h hc0
      rcases hc with rfl | rfl | rfl
      · have hi2 : 0 ≤ i := hi.2 (by decide)
        clear hi
        go_wp2
        go_returns
        exact ⟨rfl, by (repeat' (first | (with_reducible exact Below.refl _ _) | (with_reducible assumption) | (with_reducible refine Below.setCell ?_ ?_ _) | (with_reducible refine Below.alloc ?_ ?_ _) | (with_reducible refine Below.drew ?_) | (with_reducible refine below_drewN ?_ _) | (with_reducible refine below_next ?_ (by with_reducible assumption)) | omega | (dsimp only; omega) | (simp only [World.size_alloc, World.size_setCell, World.size_drew, World.heap_drewN]; omega)))⟩
      · have hi2 : 0 ≤ i := hi.2 (by decide)
        clear hi
        go_wp2
        go_returns
        exact ⟨rfl, by (repeat' (first | (with_reducible exact Below.refl _ _) | (with_reducible assumption) | (with_reducible refine Below.setCell ?_ ?_ _) | (with_reducible refine Below.alloc ?_ ?_ _) | (with_reducible refine Below.drew ?_) | (with_reducible refine below_drewN ?_ _) | (with_reducible refine below_next ?_ (by with_reducible assumption)) | omega | (dsimp only; omega) | (simp only [World.size_alloc, World.size_setCell, World.size_drew, World.heap_drewN]; omega)))⟩
      · have hi2 : ¬ 0 ≤ i := fun h => hi.1 h rfl
        clear hi
        go_wp2
        go_returns
        exact ⟨rfl, by (repeat' (first | (with_reducible exact Below.refl _ _) | (with_reducible assumption) | (with_reducible refine Below.setCell ?_ ?_ _) | (with_reducible refine Below.alloc ?_ ?_ _) | (with_reducible refine Below.drew ?_) | (with_reducible refine below_drewN ?_ _) | (with_reducible refine below_next ?_ (by with_reducible assumption)) | omega | (dsimp only; omega) | (simp only [World.size_alloc, World.size_setCell, World.size_drew, World.heap_drewN]; omega)))⟩
    · obtain ⟨q1, q2, q3, q4, q5, q6⟩ := layF_ok _ _ KOk.nil _ _ _ _ h
      have q2' : 1 ≤ L' ∧ L' ≤ 8 := by unfold Al at q2; omega
      have HM0 := Lib.hid q6
      have HQ1 := Lib.hid (q1.trans HLL.out)
      have HRD := Lib.hid hrd
      have HL := Lib.hid q2
      have hol := hrd.1.len
      unfold maxLen at hol
      have HQ3 := Lib.hid q3
      clear q1 q2 q6 hrd h HLD HLL q3
      go_wp2
      go_loopw [6, 43] (fun t i wr => ∃ (k : Nat) (e : Int), k ≤ out.length ∧ i = .int .i64 k ∧ t = .int .i64 e ∧ 0 ≤ e ∧ e ≤ 2097152 ∧ Ext wc wr ∧ Hid (Meets u' [] L' S' e (out.drop k))) (fun _ i _ => out.length - (intOf i).toNat)
      case atStart => exact ⟨0, 0, by omega, rfl, rfl, by omega, by omega, Below.refl _ _, HM0⟩
      case round =>
        obtain ⟨k, e, hk, rfl, rfl, he1, he2, hX, HM⟩ := hrel
        have hXb := Ext.of hX
        have hXz := hXb.size
        have x1' := (hXb.cell (p := ⟨w.heap.size, 1, none⟩) (by show w.heap.size < _; omega)).trans x1
        have x3' := (hXb.cell (p := ⟨w.heap.size, 3, none⟩) (by show w.heap.size < _; omega)).trans x3
        have y2' := (hXb.cell (p := ⟨b3, 2, none⟩) hlt3').trans y2
        have y3' := (hXb.cell (p := ⟨b3, 3, none⟩) hlt3').trans y3
        have y4' := (hXb.cell (p := ⟨b3, 4, none⟩) hlt3').trans y4
        by_cases hlt : k < out.length
        · obtain ⟨f, ef⟩ : ∃ f, out[k]? = some f := ⟨_, List.getElem?_eq_getElem hlt⟩
          have hdr : out.drop k = f :: out.drop (k + 1) := by
            rw [List.drop_eq_getElem?_toList_append, ef]; rfl
          have hM := HM.out
          rw [hdr] at hM
          obtain ⟨⟨s, b, hcp, hb1, hm1, hm2, hle, hu1, hu2⟩, hrest⟩ := hM
          obtain ⟨hs0, hs1, hal⟩ := complete_ok _ KOk.nil _ _ _ hcp
          have hb8 : b ≤ 8 := by unfold Al at hal; omega
          have hoe : offEnd [] f = f.off + s := by unfold offEnd; rw [hcp]; rfl
          rw [hoe] at hrest
          have HRS := Lib.hid hrest
          obtain ⟨g, o, c2, ev, _, _, hgl, hgc⟩ := (HRD.out.1.next hXb).some_ (by omega)
          injection ev with ev0 ev1 ev2
          subst ev0
          have q1 : RdT wr f.ty := (HRD.out.2 f (List.mem_of_getElem? ef)).next hXb
          obtain ⟨ka, sa, la, fa, na, Aa, ma, ca, ea⟩ := tyC_form f.ty q1
          obtain ⟨p0, p1, p2, p3, p4, p5, p6, p7⟩ := fd_cells hgc ef ea
          have HSZ : Hid (∀ W, Below wr.heap.size wr W → Calls Tryd.prog 12 #[.agg #[.int .i64 ka, .int .i64 sa, .int .i64 la, .bool fa, .string na, .slice Aa ma ca], .slice none 0 0] W fun e w' => e = .returned (.tuple #[.int .i64 s, .int .i64 b]) ∧ Below W.heap.size W w') := Lib.hid fun W hW => by
            have h := (both_any f.ty).2 [] _ W KOk.nil (RdLs.nil W) (q1.next hW)
            rw [show sizeT [] f.ty = (s, b) by unfold sizeT; rw [hcp]; rfl, tyV_of ea] at h
            exact h
          have hoff0 : 0 ≤ f.off := by
            cases u'
            · have := hu2 rfl; omega
            · have := hu1 rfl; omega
          have hoff1 : f.off ≤ 1048576 := by omega
          generalize f.off = off at *
          generalize f.name = fnm at *
          have hm3 : off.tmod b = 0 := by rw [Int.tmod_eq_emod_of_nonneg hoff0]; exact hm1
          have hm4 : L'.tmod b = 0 := by rw [Int.tmod_eq_emod_of_nonneg (by omega)]; exact hm2
          have hb0 : ¬ b < 1 := by omega
          have hle2 : ¬ S' < off + s := by omega
          clear hgc ef ea hcp hal hoe hrest ev1 ev2 hdr HM q1 y3 y4 y2 x0 x1 x2 x3 x4
          cases u' with
          | true =>
            obtain rfl : off = 0 := hu1 rfl
            clear hu1 hu2
            go_wp2_with (go_at_call 12; (with_reducible refine (HSZ.out _ (by (repeat' (first | (with_reducible exact Below.refl _ _) | (with_reducible assumption) | (with_reducible refine Below.setCell ?_ ?_ _) | (with_reducible refine Below.alloc ?_ ?_ _) | (with_reducible refine Below.drew ?_) | (with_reducible refine below_drewN ?_ _) | (with_reducible refine below_next ?_ (by with_reducible assumption)) | omega | (dsimp only; omega) | (simp only [World.size_alloc, World.size_setCell, World.size_drew, World.heap_drewN]; omega))))).mono ?_); rintro e w4 ⟨rfl, hb4⟩; obtain ⟨hc4, hf4, hz4⟩ := cif hb4; clear hf4; (try simp only [World.size_alloc, World.size_setCell, World.size_drew, World.heap_drewN] at hz4))
            all_goals (
              go_roundw
              case rel => exact ⟨k + 1, _, by omega, by go_num, rfl, by omega, by omega, by unfold Ext at *; (repeat' (first | (with_reducible exact Below.refl _ _) | (with_reducible assumption) | (with_reducible refine Below.setCell ?_ ?_ _) | (with_reducible refine Below.alloc ?_ ?_ _) | (with_reducible refine Below.drew ?_) | (with_reducible refine below_drewN ?_ _) | (with_reducible refine below_next ?_ (by with_reducible assumption)) | omega | (dsimp only; omega) | (simp only [World.size_alloc, World.size_setCell, World.size_drew, World.heap_drewN]; omega))), by simpa using HRS⟩
              case measure => simp [intOf]; omega)
          | false =>
            obtain ⟨hu3, hu4⟩ := hu2 rfl
            have hu5 : ¬ off < e := by omega
            have hu6 : ¬ e + b ≤ off := by omega
            clear hu1 hu2
            go_wp2_with (go_at_call 12; (with_reducible refine (HSZ.out _ (by (repeat' (first | (with_reducible exact Below.refl _ _) | (with_reducible assumption) | (with_reducible refine Below.setCell ?_ ?_ _) | (with_reducible refine Below.alloc ?_ ?_ _) | (with_reducible refine Below.drew ?_) | (with_reducible refine below_drewN ?_ _) | (with_reducible refine below_next ?_ (by with_reducible assumption)) | omega | (dsimp only; omega) | (simp only [World.size_alloc, World.size_setCell, World.size_drew, World.heap_drewN]; omega))))).mono ?_); rintro e w4 ⟨rfl, hb4⟩; obtain ⟨hc4, hf4, hz4⟩ := cif hb4; clear hf4; (try simp only [World.size_alloc, World.size_setCell, World.size_drew, World.heap_drewN] at hz4))
            all_goals (
              go_roundw
              case rel => exact ⟨k + 1, _, by omega, by go_num, rfl, by omega, by omega, by unfold Ext at *; (repeat' (first | (with_reducible exact Below.refl _ _) | (with_reducible assumption) | (with_reducible refine Below.setCell ?_ ?_ _) | (with_reducible refine Below.alloc ?_ ?_ _) | (with_reducible refine Below.drew ?_) | (with_reducible refine below_drewN ?_ _) | (with_reducible refine below_next ?_ (by with_reducible assumption)) | omega | (dsimp only; omega) | (simp only [World.size_alloc, World.size_setCell, World.size_drew, World.heap_drewN]; omega))), HRS⟩
              case measure => simp [intOf]; omega)
        · have hq : out.length = nt := HQ1.out.trans HNT.out
          have hs3 : S'.tmod L' = 0 := by rw [Int.tmod_eq_emod_of_nonneg q4]; exact HQ3.out
          have hs4 := HQ3.out
          go_wp2
          go_returns
          exact ⟨rfl, by unfold Ext at *; (repeat' (first | (with_reducible exact Below.refl _ _) | (with_reducible assumption) | (with_reducible refine Below.setCell ?_ ?_ _) | (with_reducible refine Below.alloc ?_ ?_ _) | (with_reducible refine Below.drew ?_) | (with_reducible refine below_drewN ?_ _) | (with_reducible refine below_next ?_ (by with_reducible assumption)) | omega | (dsimp only; omega) | (simp only [World.size_alloc, World.size_setCell, World.size_drew, World.heap_drewN]; omega)))⟩
end Go.Proofs.YteeojgepgjndgaaDoor
