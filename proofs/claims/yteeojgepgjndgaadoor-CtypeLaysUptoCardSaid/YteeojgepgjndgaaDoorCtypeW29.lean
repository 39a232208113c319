/-
  The layouts of records (the statement's own known): the program's are the reference's.
-/
import Derived.Test.YteeojgepgjndgaaDoorCtypeW28
import Derived.Test.YteeojgepgjndgaaDoorStep
namespace Go.Proofs.YteeojgepgjndgaaDoor
open Go.RowKit Go.WideShapes Go.ChangeShapes Go.Deep
set_option linter.unusedVariables false
set_option linter.unusedSimpArgs false

/-- What two Lays of the same members beside the same layouts have in common. -/
theorem lay_pair {nm : ByteArray} {u : Bool} {K K' : List Ly} {lf lf2 : List Fd} {B1 B2 : Nat} {w : World} {n1 n2 : ByteArray} {u1 u2 : Bool} {A1 A2 : Option Addr} {m1 m2 k1 k2 : Nat} {S1 L1 i1 c1 S2 L2 i2 c2 : Int}
    (h1 : LayD nm u K lf B1 w n1 u1 A1 m1 k1 S1 L1 i1 c1) (h2 : LayD nm u K' lf2 B2 w n2 u2 A2 m2 k2 S2 L2 i2 c2) (hK : K.map erL = K'.map erL) (hl : lf.map erN = lf2.map erN) (hok : KOk K) :
    (i2 = i1 ∧ c2 = c1 ∧ n2 = n1 ∧ u2 = u1 ∧ m2 = m1 ∧ S2 = S1 ∧ L2 = L1) ∧
    ∃ l1 l2, RdFs w (.slice A1 m1 k1) l1 ∧ RdFs w (.slice A2 m2 k2) l2 ∧ l1.map erF = l2.map erF ∧ m1 = l1.length ∧
      (c1 = 0 → (0 ≤ S1 ∧ S1 ≤ 1048576 ∧ Al L1) ∧ (∀ b, (Value.slice A1 m1 k1).ownBlock = some b → B1 ≤ b) ∧ (∀ b, (Value.slice A2 m2 k2).ownBlock = some b → B2 ≤ b) ∧ (∀ f ∈ l1, ∃ g ∈ lf, f.ty = g.ty) ∧ (∀ f ∈ l2, ∃ g ∈ lf2, f.ty = g.ty)) := by
  have he := layE_er u K K' hK lf lf2 hl
  unfold layE at he
  rcases h1 with ⟨a1, rfl, rfl, rfl, rfl, rfl, rfl, rfl⟩ | ⟨rfl, rfl, rfl, rfl, o1, a1, a2, rfl, a3, a4⟩
  · rcases h2 with ⟨b1, rfl, rfl, rfl, rfl, rfl, rfl, rfl⟩ | ⟨rfl, rfl, rfl, rfl, o2, b1, b2, rfl, b3, b4⟩
    · rw [a1, b1] at he
      injection he with he
      injection he with e1 e2
      refine ⟨⟨e1.symm, e2.symm, rfl, rfl, rfl, rfl, rfl⟩, [], [], ⟨RdL.nil _ _ _, by simp⟩, ⟨RdL.nil _ _ _, by simp⟩, rfl, rfl, fun h0 => ?_⟩
      exact absurd h0 (layF_err _ _ _ _ _ a1).1
    · rw [a1, b1] at he
      cases he
  · rcases h2 with ⟨b1, rfl, rfl, rfl, rfl, rfl, rfl, rfl⟩ | ⟨rfl, rfl, rfl, rfl, o2, b1, b2, rfl, b3, b4⟩
    · rw [a1, b1] at he
      cases he
    · rw [a1, b1] at he
      injection he with he
      injection he with e1 he
      injection he with e2 e3
      have hm : o2.length = o1.length := by have := congrArg List.length e3; simpa using this.symm
      obtain ⟨q1, q2, q3, q4, q5, q6⟩ := layF_ok _ _ hok _ _ _ _ a1
      exact ⟨⟨rfl, rfl, rfl, rfl, hm, e1.symm, e2.symm⟩, o1, o2, a2, by simpa using b2, e3, rfl, fun _ => ⟨⟨q4, q5, q2⟩, a3, by simpa using b3, a4, b4⟩⟩

def KnownP (w : World) (e : Ending) (w' : World) : Prop := ∃ K A c, e = .returned (.tuple #[.slice A K.length c, .bool true]) ∧ RdLs w' (.slice A K.length c) K ∧ KOk K ∧ Below w.heap.size w w'
theorem rc_cells {w : World} {b off : Nat} {l : List Rc} (hc : ∀ (k : Nat) (a : Rc), l[k]? = some a → ∀ (j : Nat) (v : Value), (rcC a)[j]? = some v → w.cell? ⟨b, off + k * 5 + j, none⟩ = some v) {i : Nat} {r : Rc} (h : l[i]? = some r)
    {An At : Option Addr} {nn cn nt ct : Nat} (e1 : r.nsv = .slice An nn cn) (e2 : r.tsv = .slice At nt ct) :
    w.cell? ⟨b, off + i * 5, none⟩ = some (.int .i64 r.name) ∧ w.cell? ⟨b, off + i * 5 + 1, none⟩ = some (.bool r.union) ∧ w.cell? ⟨b, off + i * 5 + 2, none⟩ = some (.slice An nn cn) ∧ w.cell? ⟨b, off + i * 5 + 3, none⟩ = some (.slice At nt ct) ∧ w.cell? ⟨b, off + i * 5 + 4, none⟩ = some (.bool r.forget) :=
  ⟨hc i r h 0 _ rfl, hc i r h 1 _ rfl, by rw [← e1]; exact hc i r h 2 _ rfl, by rw [← e2]; exact hc i r h 3 _ rfl, hc i r h 4 _ rfl⟩
set_option maxRecDepth 100000 in
set_option maxHeartbeats 16000000 in
theorem known_core (recs : List Rc) (Ar : Option Addr) (nr cr : Nat) (w : World) (h : RdL rcC 5 w (.slice Ar nr cr) recs) (hr : ∀ r ∈ recs, RdRc w r) (hlen : recs.length ≤ 30) :
    Calls Tryd.prog 10 #[.slice Ar nr cr] w (KnownP w) := by
  have hnr : recs.length = nr := by obtain ⟨_, _, e, _⟩ := h; injection e with _ e _; exact e.symm
  subst hnr
  have H := Lib.hid h
  have HR := Lib.hid hr
  clear h hr
  have hA1 := cell_alloc_if
  have hA2 := frozen_alloc_if
  have hA3 := cell_set_if
  go_enter Tryd.func10, Tryd.ntmps10
  go_wp2
  go_loopw [4, 5, 18] (fun s4 s5 i wr => ∃ (k : Nat) (K K' : List Ly) (AL AW : Option Addr) (cL cW : Nat), k ≤ recs.length ∧ i = .int .i64 k ∧ s4 = .slice AL K.length cL ∧ s5 = .slice AW K'.length cW ∧ K.length ≤ k ∧ Hid (KnS w wr K K' AL AW cL cW)) (fun _ _ i _ => recs.length - (intOf i).toNat)
  case atStart => exact ⟨0, [], [], none, none, 0, 0, by omega, rfl, rfl, rfl, by simp, Lib.hid ⟨Below.refl _ _, OwnL.nil _ _ _ _ _, OwnL.nil _ _ _ _ _, by simp [Value.ownBlock], by simp, by simp, rfl, KOk.nil, KOk.nil⟩⟩
  case round =>
    obtain ⟨k, K, K', AL, AW, cL, cW, hk, rfl, rfl, rfl, hKk, HS⟩ := hrel
    have hwr := HS.out.low
    have hwz := hwr.size
    by_cases hlt : k < recs.length
    · obtain ⟨r, e1⟩ : ∃ r, recs[k]? = some r := ⟨_, List.getElem?_eq_getElem hlt⟩
      have hrr : RdRc wr r := (HR.out r (List.mem_of_getElem? e1)).next hwr
      obtain ⟨An, cn, en⟩ := hrr.1.form
      obtain ⟨At, ct, et⟩ := hrr.2.1.1.form
      obtain ⟨br, orr, cr', er', _, _, hlt3, hcr⟩ := (H.out.next hwr).some_ (by omega)
      injection er' with er0 er1 er2
      subst er0
      obtain ⟨p0, p1, p2, p3, p4⟩ := rc_cells hcr e1 en et
      have HNT : Hid (r.rows.length ≤ 1048576) := Lib.hid hrr.2.2
      have HFD : Hid (∀ W, Below wr.heap.size wr W → Calls Tryd.prog 35 #[.agg #[.int .i64 r.name, .bool r.union, .slice An r.names.length cn, .slice At r.rows.length ct, .bool r.forget]] W (FieldsP r W)) := Lib.hid fun W hW => fields_any r _ _ _ _ _ _ W en et (hrr.next hW)
      generalize r.name = nm at *
      generalize r.union = un at *
      generalize r.forget = fg at *
      generalize r.names.length = nn at *
      obtain ⟨nt, hnt⟩ : ∃ n, n = r.rows.length := ⟨_, rfl⟩
      rw [← hnt] at p3 HFD
      have HNT2 := Lib.hid hnt
      clear hcr e1 en et er1 er2 hrr hnt
      go_upto_region 6 with (go_at_call 35; (with_reducible refine (HFD.out _ (by (try unfold Ext at *); (repeat' (first | (with_reducible exact Below.refl _ _) | (with_reducible assumption) | (with_reducible refine Below.setCell ?_ ?_ _) | (with_reducible refine Below.alloc ?_ ?_ _) | (with_reducible refine Below.drew ?_) | (with_reducible refine below_drewN ?_ _) | (with_reducible refine below_next ?_ (by with_reducible assumption)) | omega | (dsimp only; omega) | (simp only [World.size_alloc, World.size_setCell, World.size_drew, World.heap_drewN]; omega))))).mono ?_); rintro e w2 ⟨Af1, cf1, lf1, rfl, hrf, hsp, hoff, hll, hit, hb2⟩; have HRF1 := Lib.hid hrf; have HSP1 := Lib.hid hsp; have HOFF1 := Lib.hid hoff; have HLL1 := Lib.hid hll; have HIT1 := Lib.hid hit; have HB1 := Lib.hid hb2; clear hrf hsp hoff hll hit; obtain ⟨hc2, hf2, hz2⟩ := cif hb2; (try simp only [World.size_alloc, World.size_setCell, World.size_drew, World.heap_drewN] at hz2))
      have x0 : w2.cell? ⟨wr.heap.size, 0, none⟩ = some (.int .i64 nm) := by simp [*, ↓IntWalk.iteOmega]
      have x1 : w2.cell? ⟨wr.heap.size, 1, none⟩ = some (.bool un) := by simp [*, ↓IntWalk.iteOmega]
      have x2 : w2.cell? ⟨wr.heap.size, 2, none⟩ = some (.slice An nn cn) := by simp [*, ↓IntWalk.iteOmega]
      have x3 : w2.cell? ⟨wr.heap.size, 3, none⟩ = some (.slice At nt ct) := by simp [*, ↓IntWalk.iteOmega]
      have x4 : w2.cell? ⟨wr.heap.size, 4, none⟩ = some (.bool fg) := by simp [*, ↓IntWalk.iteOmega]
      have HSW2 : Hid (KnS w w2 K K' AL AW cL cW) := Lib.hid (HS.out.next (below_step ((Below.refl _ _).alloc (Nat.le_refl _) _) HB1.out))
      clear hc2 hf2 p0 p1 p2 p3 p4
      go_cut [9, 10, 11] (fun s9 s10 s11 wx => ∃ (b9 : Nat) (n' : ByteArray) (u' : Bool) (A' : Option Addr) (m' c' : Nat) (S' L' i c : Int), s9 = .pointer (some ⟨b9, 0, none⟩) ∧ s10 = .int .i64 i ∧ s11 = .int .i64 c ∧ Below w2.heap.size w2 wx ∧ w2.heap.size ≤ b9 ∧ b9 < wx.heap.size ∧ (wx.cell? ⟨b9, 0, none⟩ = some (.string n') ∧ wx.cell? ⟨b9, 1, none⟩ = some (.bool u') ∧ wx.cell? ⟨b9, 2, none⟩ = some (.slice A' m' c') ∧ wx.cell? ⟨b9, 3, none⟩ = some (.int .i64 S') ∧ wx.cell? ⟨b9, 4, none⟩ = some (.int .i64 L')) ∧ Hid (∃ B, w2.heap.size ≤ B ∧ LayD (nameB nm) un K lf1 B wx n' u' A' m' c' S' L' i c))
      case first =>
        go_region_held3 (fun W => Below w2.heap.size w2 W ∧ W.cell? ⟨wr.heap.size, 0, none⟩ = some (.int .i64 nm) ∧ W.cell? ⟨wr.heap.size, 1, none⟩ = some (.bool un))
          (first | exact ⟨by (repeat' (first | (with_reducible exact Below.refl _ _) | (with_reducible assumption) | (with_reducible refine Below.setCell ?_ ?_ _) | (with_reducible refine Below.alloc ?_ ?_ _) | (with_reducible refine Below.drew ?_) | (with_reducible refine below_drewN ?_ _) | (with_reducible refine below_next ?_ (by with_reducible assumption)) | omega | (dsimp only; omega) | (simp only [World.size_alloc, World.size_setCell, World.size_drew, World.heap_drewN]; omega))), by simp [*, ↓IntWalk.iteOmega], by simp [*, ↓IntWalk.iteOmega]⟩)
          (first
          | (go_at_call 15; (with_reducible refine (name_any _ _).mono ?_); rintro e w' ⟨rfl, rfl⟩)
          | (go_at_call 34; (with_reducible refine (layq_any _ _ _ _ lf1 K _ HS.out.ok.1 (HRF1.out.next (by (repeat' (first | (with_reducible exact Below.refl _ _) | (with_reducible assumption) | (with_reducible refine Below.setCell ?_ ?_ _) | (with_reducible refine Below.alloc ?_ ?_ _) | (with_reducible refine Below.drew ?_) | (with_reducible refine below_drewN ?_ _) | (with_reducible refine below_next ?_ (by with_reducible assumption)) | omega | (dsimp only; omega) | (simp only [World.size_alloc, World.size_setCell, World.size_drew, World.heap_drewN]; omega))))) (HSW2.out.rdL.next (by (repeat' (first | (with_reducible exact Below.refl _ _) | (with_reducible assumption) | (with_reducible refine Below.setCell ?_ ?_ _) | (with_reducible refine Below.alloc ?_ ?_ _) | (with_reducible refine Below.drew ?_) | (with_reducible refine below_drewN ?_ _) | (with_reducible refine below_next ?_ (by with_reducible assumption)) | omega | (dsimp only; omega) | (simp only [World.size_alloc, World.size_setCell, World.size_drew, World.heap_drewN]; omega))))) (fun f hf => (HOFF1.out f hf).2) (by rw [HLL1.out]; exact HNT.out)).mono ?_); rintro e w3 ⟨n', u', A', m', c', S', L', i, c, rfl, hb3, hld⟩; have HLD := Lib.hid hld; clear hld; obtain ⟨hc3, hf3, hz3⟩ := cif hb3; (try simp only [World.size_alloc, World.size_setCell, World.size_drew, World.heap_drewN] at hz3)))
        all_goals (
          go_wp2_with fail
          go_meet
          refine ⟨_, n', u', A', m', c', S', L', i, c, rfl, rfl, rfl, by (repeat' (first | (with_reducible exact Below.refl _ _) | (with_reducible assumption) | (with_reducible refine Below.setCell ?_ ?_ _) | (with_reducible refine Below.alloc ?_ ?_ _) | (with_reducible refine Below.drew ?_) | (with_reducible refine below_drewN ?_ _) | (with_reducible refine below_next ?_ (by with_reducible assumption)) | omega | (dsimp only; omega) | (simp only [World.size_alloc, World.size_setCell, World.size_drew, World.heap_drewN]; omega))), ?_, ?_, ⟨?_, ?_, ?_, ?_, ?_⟩, ?_⟩)
        all_goals (first
          | omega
          | (simp; omega)
          | (simp [*, ↓IntWalk.iteOmega]; done)
          | (refine Lib.hid ⟨_, ?_, HLD.out.next ?_⟩; all_goals (first | omega | (simp; omega) | (simp; done) | (repeat' (first | (with_reducible exact Below.refl _ _) | (with_reducible assumption) | (with_reducible refine Below.setCell ?_ ?_ _) | (with_reducible refine Below.alloc ?_ ?_ _) | (with_reducible refine Below.drew ?_) | (with_reducible refine below_drewN ?_ _) | (with_reducible refine below_next ?_ (by with_reducible assumption)) | omega | (dsimp only; omega) | (simp only [World.size_alloc, World.size_setCell, World.size_drew, World.heap_drewN]; omega)))); done)
          | (refine Lib.hid ⟨_, ?_, HLD.out.keep (g := w2.heap.size) ?_ (fun f hf => InT.mono (fun b hb => ?_) _ (HIT1.out f hf)) (fun b hb => ?_)⟩; all_goals (first | omega | (simp; omega) | (simp; done) | (have h1 := hb.1; have h2 := hb.2; simp at h1 h2; omega) | ((repeat rw [heap_setC _ _ _ _ _ hb]); done)); done)
          | skip)
      case rest =>
        obtain ⟨b9, n1, u1, A1, m1, c1, S1, L1, i1, e1', rfl, rfl, rfl, hwA, hb9, hb9', ⟨y0, y1, y2, y3, y4⟩, HLD1⟩ := hcut
        obtain ⟨wA, rfl⟩ : ∃ x : World, x = wc := ⟨_, rfl⟩
        have hzA := hwA.size
        have z0 := (hwA.cell (p := ⟨wr.heap.size, 0, none⟩) (by show wr.heap.size < _; omega)).trans x0
        have z1 := (hwA.cell (p := ⟨wr.heap.size, 1, none⟩) (by show wr.heap.size < _; omega)).trans x1
        have z2 := (hwA.cell (p := ⟨wr.heap.size, 2, none⟩) (by show wr.heap.size < _; omega)).trans x2
        have z3 := (hwA.cell (p := ⟨wr.heap.size, 3, none⟩) (by show wr.heap.size < _; omega)).trans x3
        have z4 := (hwA.cell (p := ⟨wr.heap.size, 4, none⟩) (by show wr.heap.size < _; omega)).trans x4
        have hrA : Below wr.heap.size wr wA := Below.trans (below_step ((Below.refl _ _).alloc (Nat.le_refl _) _) HB1.out) (hwA.mono (by omega))
        have HSA : Hid (KnS w wA K K' AL AW cL cW) := Lib.hid (HSW2.out.next hwA)
        clear x0 x1 x2 x3 x4
        go_wp2_with fail
        go_cut [12, 13, 14] (fun s12 s13 s14 wx => ∃ (b12 : Nat) (lf2 : List Fd) (n2 : ByteArray) (u2' : Bool) (A2 : Option Addr) (m2 c2 : Nat) (S2 L2 i2 e2' : Int), s12 = .pointer (some ⟨b12, 0, none⟩) ∧ s13 = .int .i64 i2 ∧ s14 = .int .i64 e2' ∧ Below wA.heap.size wA wx ∧ wA.heap.size ≤ b12 ∧ b12 < wx.heap.size ∧ (wx.cell? ⟨b12, 0, none⟩ = some (.string n2) ∧ wx.cell? ⟨b12, 1, none⟩ = some (.bool u2') ∧ wx.cell? ⟨b12, 2, none⟩ = some (.slice A2 m2 c2) ∧ wx.cell? ⟨b12, 3, none⟩ = some (.int .i64 S2) ∧ wx.cell? ⟨b12, 4, none⟩ = some (.int .i64 L2)) ∧ Hid (lf1.map erN = lf2.map erN) ∧ Hid (∀ f ∈ lf2, InT (fun b => wA.heap.size ≤ b ∧ b < wx.heap.size) f.ty) ∧ Hid (∃ B, wA.heap.size ≤ B ∧ LayD (nameB nm) un K' lf2 B wx n2 u2' A2 m2 c2 S2 L2 i2 e2'))
        case first =>
          go_region_held3 (fun W => Below wA.heap.size wA W ∧ W.cell? ⟨wr.heap.size, 0, none⟩ = some (.int .i64 nm) ∧ W.cell? ⟨wr.heap.size, 1, none⟩ = some (.bool un) ∧ W.cell? ⟨wr.heap.size, 2, none⟩ = some (.slice An nn cn) ∧ W.cell? ⟨wr.heap.size, 3, none⟩ = some (.slice At nt ct) ∧ W.cell? ⟨wr.heap.size, 4, none⟩ = some (.bool fg))
            (first | exact ⟨by (repeat' (first | (with_reducible exact Below.refl _ _) | (with_reducible assumption) | (with_reducible refine Below.setCell ?_ ?_ _) | (with_reducible refine Below.alloc ?_ ?_ _) | (with_reducible refine Below.drew ?_) | (with_reducible refine below_drewN ?_ _) | (with_reducible refine below_next ?_ (by with_reducible assumption)) | omega | (dsimp only; omega) | (simp only [World.size_alloc, World.size_setCell, World.size_drew, World.heap_drewN]; omega))), by simp [*, ↓IntWalk.iteOmega], by simp [*, ↓IntWalk.iteOmega], by simp [*, ↓IntWalk.iteOmega], by simp [*, ↓IntWalk.iteOmega], by simp [*, ↓IntWalk.iteOmega]⟩)
            (first
            | (go_at_call 15; (with_reducible refine (name_any _ _).mono ?_); rintro e w' ⟨rfl, rfl⟩)
            | (go_at_call 35; (with_reducible refine (HFD.out _ (by (try unfold Ext at *); (repeat' (first | (with_reducible exact Below.refl _ _) | (with_reducible assumption) | (with_reducible refine Below.setCell ?_ ?_ _) | (with_reducible refine Below.alloc ?_ ?_ _) | (with_reducible refine Below.drew ?_) | (with_reducible refine below_drewN ?_ _) | (with_reducible refine below_next ?_ (by with_reducible assumption)) | omega | (dsimp only; omega) | (simp only [World.size_alloc, World.size_setCell, World.size_drew, World.heap_drewN]; omega))))).mono ?_); rintro e w4 ⟨Af2, cf2, lf2, rfl, hrf, hsp, hoff, hll, hit, hb2⟩; have HRF2 := Lib.hid hrf; have HSP2 := Lib.hid hsp; have HOFF2 := Lib.hid hoff; have HLL2 := Lib.hid hll; have HIT2 := Lib.hid hit; have HB2 := Lib.hid hb2; clear hrf hsp hoff hll hit; obtain ⟨hc2, hf2, hz2⟩ := cif hb2; (try simp only [World.size_alloc, World.size_setCell, World.size_drew, World.heap_drewN] at hz2))
            | (go_at_call 46; (with_reducible refine (rlayq_any _ _ _ _ lf2 K' _ HS.out.ok.2 (HRF2.out.next (by (repeat' (first | (with_reducible exact Below.refl _ _) | (with_reducible assumption) | (with_reducible refine Below.setCell ?_ ?_ _) | (with_reducible refine Below.alloc ?_ ?_ _) | (with_reducible refine Below.drew ?_) | (with_reducible refine below_drewN ?_ _) | (with_reducible refine below_next ?_ (by with_reducible assumption)) | omega | (dsimp only; omega) | (simp only [World.size_alloc, World.size_setCell, World.size_drew, World.heap_drewN]; omega))))) (HSA.out.rdW.next (by (repeat' (first | (with_reducible exact Below.refl _ _) | (with_reducible assumption) | (with_reducible refine Below.setCell ?_ ?_ _) | (with_reducible refine Below.alloc ?_ ?_ _) | (with_reducible refine Below.drew ?_) | (with_reducible refine below_drewN ?_ _) | (with_reducible refine below_next ?_ (by with_reducible assumption)) | omega | (dsimp only; omega) | (simp only [World.size_alloc, World.size_setCell, World.size_drew, World.heap_drewN]; omega))))) (by rw [HLL2.out]; exact HNT.out)).mono ?_); rintro e w5 ⟨n', u', A', m', c', S', L', i, c, rfl, hb5, hld⟩; have HLD := Lib.hid hld; clear hld; obtain ⟨hc5, hf5, hz5⟩ := cif hb5; (try simp only [World.size_alloc, World.size_setCell, World.size_drew, World.heap_drewN] at hz5)))
          all_goals (
            go_wp2_with fail
            go_meet
            refine ⟨_, lf2, n', u', A', m', c', S', L', i, c, rfl, rfl, rfl, by (repeat' (first | (with_reducible exact Below.refl _ _) | (with_reducible assumption) | (with_reducible refine Below.setCell ?_ ?_ _) | (with_reducible refine Below.alloc ?_ ?_ _) | (with_reducible refine Below.drew ?_) | (with_reducible refine below_drewN ?_ _) | (with_reducible refine below_next ?_ (by with_reducible assumption)) | omega | (dsimp only; omega) | (simp only [World.size_alloc, World.size_setCell, World.size_drew, World.heap_drewN]; omega))), ?_, ?_, ⟨?_, ?_, ?_, ?_, ?_⟩, Lib.hid (HSP1.out.trans HSP2.out.symm), ?_, ?_⟩)
          all_goals (first
            | omega
            | (simp; omega)
            | (simp [*, ↓IntWalk.iteOmega]; done)
            | (refine Lib.hid (fun f hf => InT.mono (fun b hb => ?_) _ (HIT2.out f hf)); obtain ⟨h1, h2⟩ := hb; simp at h1 ⊢; omega)
            | (refine Lib.hid ⟨_, ?_, HLD.out.next ?_⟩; all_goals (first | omega | (simp; omega) | (simp; done) | (repeat' (first | (with_reducible exact Below.refl _ _) | (with_reducible assumption) | (with_reducible refine Below.setCell ?_ ?_ _) | (with_reducible refine Below.alloc ?_ ?_ _) | (with_reducible refine Below.drew ?_) | (with_reducible refine below_drewN ?_ _) | (with_reducible refine below_next ?_ (by with_reducible assumption)) | omega | (dsimp only; omega) | (simp only [World.size_alloc, World.size_setCell, World.size_drew, World.heap_drewN]; omega)))); done)
            | (refine Lib.hid ⟨_, ?_, HLD.out.keep (g := w4.heap.size) ?_ (fun f hf => InT.mono (fun b hb => ?_) _ (HIT2.out f hf)) (fun b hb => ?_)⟩; all_goals (first | omega | (simp; omega) | (simp; done) | (have h1 := hb.1; have h2 := hb.2; simp at h1 h2; omega) | ((repeat rw [heap_setC _ _ _ _ _ hb]); done)); done)
            | (refine Lib.hid ⟨_, ?_, HLD.out.keep (g := wA.heap.size) ?_ (fun f hf => InT.mono (fun b hb => ?_) _ (HIT2.out f hf)) (fun b hb => ?_)⟩; all_goals (first | omega | (simp; omega) | (simp; done) | (have h1 := hb.1; have h2 := hb.2; simp at h1 h2; omega) | ((repeat rw [heap_setC _ _ _ _ _ hb]); done)); done)
            | skip)
        case rest =>
          obtain ⟨b12, lf2, n2, u2', A2, m2, c2, S2, L2, i2, e2', rfl, rfl, rfl, hwB, hb12, hb12', ⟨v0, v1, v2, v3, v4⟩, HER, HIT2, HLD2⟩ := hcut
          obtain ⟨wB, rfl⟩ : ∃ x : World, x = wc := ⟨_, rfl⟩
          have hzB := hwB.size
          have t4 := (hwB.cell (p := ⟨wr.heap.size, 4, none⟩) (by show wr.heap.size < _; omega)).trans z4
          have y0' := (hwB.cell (p := ⟨b9, 0, none⟩) hb9').trans y0
          have y1' := (hwB.cell (p := ⟨b9, 1, none⟩) hb9').trans y1
          have y2' := (hwB.cell (p := ⟨b9, 2, none⟩) hb9').trans y2
          have y3' := (hwB.cell (p := ⟨b9, 3, none⟩) hb9').trans y3
          have y4' := (hwB.cell (p := ⟨b9, 4, none⟩) hb9').trans y4
          have hrB : Below wr.heap.size wr wB := below_step hrA (hwB.mono (by omega))
          have HSB : Hid (KnS w wB K K' AL AW cL cW) := Lib.hid (HSA.out.next hwB)
          have HRFB : Hid (RdFs wB (.slice Af1 lf1.length cf1) lf1) := Lib.hid ((HRF1.out.next hwA).next hwB)
          obtain ⟨B1, hB1, hld1⟩ := HLD1.out
          obtain ⟨B2, hB2, hld2⟩ := HLD2.out
          obtain ⟨⟨rfl, rfl, rfl, rfl, rfl, rfl, rfl⟩, l1, l2, hr1, hr2, her, rfl, hok⟩ := lay_pair (hld1.next hwB) hld2 HS.out.eqs HER.out HS.out.ok.1
          have HSL : Hid (∀ W, Below wB.heap.size wB W → Calls Tryd.prog 17 #[.agg #[.string n2, .bool u2', .slice A1 l1.length c1, .int .i64 S2, .int .i64 L2], .agg #[.string n2, .bool u2', .slice A2 l1.length c2, .int .i64 S2, .int .i64 L2]] W fun e w' => e = .returned (.bool true) ∧ Below W.heap.size W w') := Lib.hid fun W hW => same_layout _ _ _ _ _ _ _ _ _ l1 l2 W (hr1.next hW) (hr2.next hW) her
          have HR1 := Lib.hid hr1
          have HR2 := Lib.hid hr2
          have HE12 := Lib.hid her
          have HOK := Lib.hid hok
          have hbl := HRFB.out.1.len
          unfold maxLen at hbl
          clear z0 z1 z2 z3 z4 y0 y1 y2 y3 y4 hld1 hld2 hr1 hr2 her hok HLD1 HLD2
          go_wp2_with (go_at_call 17; (with_reducible refine (HSL.out _ (by (repeat' (first | (with_reducible exact Below.refl _ _) | (with_reducible assumption) | (with_reducible refine Below.setCell ?_ ?_ _) | (with_reducible refine Below.alloc ?_ ?_ _) | (with_reducible refine Below.drew ?_) | (with_reducible refine below_drewN ?_ _) | (with_reducible refine below_next ?_ (by with_reducible assumption)) | omega | (dsimp only; omega) | (simp only [World.size_alloc, World.size_setCell, World.size_drew, World.heap_drewN]; omega))))).mono ?_); rintro e w8 ⟨rfl, hb8⟩; have hz8 := hb8.size; (try simp only [World.size_alloc, World.size_setCell, World.size_drew, World.heap_drewN] at hz8))
          have fA0 := (hb8.cell (p := ⟨b9, 0, none⟩) (by show b9 < _; omega)).trans y0'
          have fA1 := (hb8.cell (p := ⟨b9, 1, none⟩) (by show b9 < _; omega)).trans y1'
          have fA2 := (hb8.cell (p := ⟨b9, 2, none⟩) (by show b9 < _; omega)).trans y2'
          have fA3 := (hb8.cell (p := ⟨b9, 3, none⟩) (by show b9 < _; omega)).trans y3'
          have fA4 := (hb8.cell (p := ⟨b9, 4, none⟩) (by show b9 < _; omega)).trans y4'
          have fB0 := (hb8.cell (p := ⟨b12, 0, none⟩) hb12').trans v0
          have fB1 := (hb8.cell (p := ⟨b12, 1, none⟩) hb12').trans v1
          have fB2 := (hb8.cell (p := ⟨b12, 2, none⟩) hb12').trans v2
          have fB3 := (hb8.cell (p := ⟨b12, 3, none⟩) hb12').trans v3
          have fB4 := (hb8.cell (p := ⟨b12, 4, none⟩) hb12').trans v4
          have t4' := (hb8.cell (p := ⟨wr.heap.size, 4, none⟩) (by show wr.heap.size < _; omega)).trans t4
          have hr8 : Below wr.heap.size wr w8 := below_step hrB (hb8.mono (by omega))
          clear y0' y1' y2' y3' y4' v0 v1 v2 v3 v4 t4
          go_loop [65] (fun i => ∃ j : Nat, j ≤ lf1.length ∧ i = .int .i64 j) (fun i => lf1.length - (intOf i).toNat)
          case atStart => exact ⟨0, by omega, rfl⟩
          case round =>
            obtain ⟨j, hj, rfl⟩ := hrel
            by_cases hjl : j < lf1.length
            · obtain ⟨f, ef⟩ : ∃ f, lf1[j]? = some f := ⟨_, List.getElem?_eq_getElem hjl⟩
              obtain ⟨g, o, c, ev, _, _, hgl, hgc⟩ := (HRFB.out.1.next hb8).some_ (by omega)
              injection ev with ev0 ev1 ev2
              subst ev0
              obtain ⟨ka, sa, la, fa, na, Aa, ma, ca, ea⟩ := tyC_form f.ty (HRFB.out.2 f (List.mem_of_getElem? ef))
              obtain ⟨_, _, _, _, _, _, _, p7⟩ := fd_cells hgc ef ea
              rw [(HOFF1.out f (List.mem_of_getElem? ef)).1] at p7
              clear hgc ef ea ev1 ev2
              go_wp2
              go_round
              case rel => exact ⟨j + 1, by omega, by go_num⟩
              case measure => simp [intOf]; omega
            · by_cases hc0 : e2' = 0
              · subst hc0
                cases fg with
                | true =>
                  go_wp2
                  go_roundw
                  case rel => exact ⟨k + 1, K, K', AL, AW, cL, cW, by omega, by go_num, rfl, rfl, by omega, Lib.hid (HSB.out.next hb8)⟩
                  case measure => simp [intOf]; omega
                | false =>
                  obtain ⟨i0, hi0, hz0, hz1, hz2⟩ := info_parts ly_info
                  have HS8 := HSB.out.next hb8
                  have hw8z := HS8.low.size
                  have hKK : K'.length ≤ 30 := by
                    have h := congrArg List.length HS8.eqs
                    simp at h
                    omega
                  have hoL : ∀ q, (Value.slice AL K.length cL).ownBlock = some q → q < wr.heap.size := fun q hq => (HS.out.ownL.lt hq).2
                  have hoW' : ∀ q, (Value.slice AW K'.length cW).ownBlock = some q → q < wr.heap.size := fun q hq => (HS.out.ownW.lt hq).2
                  have hr8z := hr8.size
                  have hoW : ∀ q, (Value.slice AW K'.length cW).ownBlock = some q → q < w8.heap.size := fun q hq => Nat.lt_of_lt_of_le (hoW' q hq) hr8z
                  have lb9 : b9 < w8.heap.size := by omega
                  have lb12 : b12 < w8.heap.size := by omega
                  have n91 : some b9 ≠ (Value.slice AL K.length cL).ownBlock := fun e => by have := hoL b9 e.symm; omega
                  have n92 : some b9 ≠ (Value.slice AW K'.length cW).ownBlock := fun e => by have := hoW' b9 e.symm; omega
                  have n121 : some b12 ≠ (Value.slice AL K.length cL).ownBlock := fun e => by have := hoL b12 e.symm; omega
                  have n122 : some b12 ≠ (Value.slice AW K'.length cW).ownBlock := fun e => by have := hoW' b12 e.symm; omega
                  have hk0 : Kn2 w.heap.size w8 w8 (Value.slice AL K.length cL).ownBlock (Value.slice AW K'.length cW).ownBlock (.slice AL K.length cL) (.slice AW K'.length cW) K K' := ⟨Below.refl _ _, fun _ _ _ _ => rfl, HS8.ownL, HS8.ownW, fun q hq => .inl hq, fun q hq => .inl hq, HS8.ne⟩
                  have iyA : YIn (fun b => wr.heap.size ≤ b ∧ b < w8.heap.size) (⟨n2, u2', .slice A1 l1.length c1, l1, S2, L2⟩ : Ly) := by
                    obtain ⟨_, g1, g2, g3, g4⟩ := HOK.out rfl
                    refine ⟨fun hn b hb => ?_, fun f hf => ?_⟩
                    · have h1 := g1 b hb
                      obtain ⟨b', off, c, e, _, _, hlt, _⟩ := HR1.out.1.some_ hn
                      have hb' : (Value.slice A1 l1.length c1).ownBlock = some b := hb
                      rw [e] at hb'
                      simp [Value.ownBlock] at hb'
                      omega
                    · obtain ⟨x, hx, ex⟩ := g3 f hf
                      rw [ex]
                      refine InT.mono (fun b hb => ?_) _ (HIT1.out x hx)
                      have h1 := hb.1
                      have h2 := hb.2
                      simp only [World.size_alloc] at h1
                      omega
                  have iyB : YIn (fun b => wr.heap.size ≤ b ∧ b < w8.heap.size) (⟨n2, u2', .slice A2 l1.length c2, l2, S2, L2⟩ : Ly) := by
                    obtain ⟨_, g1, g2, g3, g4⟩ := HOK.out rfl
                    have hl12 : l2.length = l1.length := by have h := congrArg List.length HE12.out; simpa using h.symm
                    refine ⟨fun hn b hb => ?_, fun f hf => ?_⟩
                    · have h1 := g2 b hb
                      obtain ⟨b', off, c, e, _, _, hlt, _⟩ := HR2.out.1.some_ hn
                      have hb' : (Value.slice A2 l1.length c2).ownBlock = some b := hb
                      rw [e] at hb'
                      simp [Value.ownBlock] at hb'
                      omega
                    · obtain ⟨x, hx, ex⟩ := g4 f hf
                      rw [ex]
                      refine InT.mono (fun b hb => ?_) _ (HIT2.out x hx)
                      have h1 := hb.1
                      have h2 := hb.2
                      omega
                  have heAB : erL (⟨n2, u2', .slice A1 l1.length c1, l1, S2, L2⟩ : Ly) = erL (⟨n2, u2', .slice A2 l1.length c2, l2, S2, L2⟩ : Ly) := by simp [erL, HE12.out]
                  have hkD := hk0.drew
                  obtain ⟨KK, hKKe⟩ : ∃ x, x = K := ⟨_, rfl⟩
                  subst hKKe
                  go_upto_region 17 with (fail)
                  refine wp_region_held_drew (S := fun W => (∀ o, W.cell? ⟨b9, o, none⟩ = w8.cell? ⟨b9, o, none⟩) ∧ (∀ o, W.cell? ⟨b12, o, none⟩ = w8.cell? ⟨b12, o, none⟩)) (by kernel_rfl) ⟨fun _ => rfl, fun _ => rfl⟩ (fun hHeld => ?_)
                  refine takeR (i := 0) (some 82) (v := ?_) rfl rfl (by kernel_rfl) (by kernel_rfl) (by kernel_rfl) (fun _ _ _ h => h) (Or.inl ⟨by rfl, ?_⟩) (by assumption) ?_
                  rotate_left
                  (focus (intro W hSw; (try dsimp only at hSw); obtain ⟨hs9, hs12⟩ := hSw; have g0 := (hs9 0).trans fA0; have g1 := (hs9 1).trans fA1; have g2 := (hs9 2).trans fA2; have g3 := (hs9 3).trans fA3; have g4 := (hs9 4).trans fA4; have k0 := (hs12 0).trans fB0; have k1 := (hs12 1).trans fB1; have k2 := (hs12 2).trans fB2; have k3 := (hs12 3).trans fB3; have k4 := (hs12 4).trans fB4; clear hs9 hs12; go_simp; (try with_reducible rfl)))
                  (try simp only [Act.put, List.setIfInBounds_toArray, List.set_cons_zero, List.set_cons_succ])
                  refine takeR (i := 1) (some 83) (v := ?_) rfl rfl (by kernel_rfl) (by kernel_rfl) (by kernel_rfl) (fun _ _ _ h => h) (Or.inl ⟨by rfl, ?_⟩) (by assumption) ?_
                  rotate_left
                  (focus (intro W hSw; (try dsimp only at hSw); obtain ⟨hs9, hs12⟩ := hSw; have g0 := (hs9 0).trans fA0; have g1 := (hs9 1).trans fA1; have g2 := (hs9 2).trans fA2; have g3 := (hs9 3).trans fA3; have g4 := (hs9 4).trans fA4; have k0 := (hs12 0).trans fB0; have k1 := (hs12 1).trans fB1; have k2 := (hs12 2).trans fB2; have k3 := (hs12 3).trans fB3; have k4 := (hs12 4).trans fB4; clear hs9 hs12; go_simp; (try with_reducible rfl)))
                  (try simp only [Act.put, List.setIfInBounds_toArray, List.set_cons_zero, List.set_cons_succ])
                  refine takeR (i := 4) (some 86) (v := ?_) rfl rfl (by kernel_rfl) (by kernel_rfl) (by kernel_rfl) (fun _ _ _ h => h) (Or.inl ⟨by rfl, ?_⟩) (by assumption) ?_
                  rotate_left
                  (focus (intro W hSw; (try dsimp only at hSw); obtain ⟨hs9, hs12⟩ := hSw; have g0 := (hs9 0).trans fA0; have g1 := (hs9 1).trans fA1; have g2 := (hs9 2).trans fA2; have g3 := (hs9 3).trans fA3; have g4 := (hs9 4).trans fA4; have k0 := (hs12 0).trans fB0; have k1 := (hs12 1).trans fB1; have k2 := (hs12 2).trans fB2; have k3 := (hs12 3).trans fB3; have k4 := (hs12 4).trans fB4; clear hs9 hs12; go_simp; (try with_reducible rfl)))
                  (try simp only [Act.put, List.setIfInBounds_toArray, List.set_cons_zero, List.set_cons_succ])
                  refine takeR (i := 5) (some 87) (v := ?_) rfl rfl (by kernel_rfl) (by kernel_rfl) (by kernel_rfl) (fun _ _ _ h => h) (Or.inl ⟨by rfl, ?_⟩) (by assumption) ?_
                  rotate_left
                  (focus (intro W hSw; (try dsimp only at hSw); obtain ⟨hs9, hs12⟩ := hSw; have g0 := (hs9 0).trans fA0; have g1 := (hs9 1).trans fA1; have g2 := (hs9 2).trans fA2; have g3 := (hs9 3).trans fA3; have g4 := (hs9 4).trans fA4; have k0 := (hs12 0).trans fB0; have k1 := (hs12 1).trans fB1; have k2 := (hs12 2).trans fB2; have k3 := (hs12 3).trans fB3; have k4 := (hs12 4).trans fB4; clear hs9 hs12; go_simp; (try with_reducible rfl)))
                  (try simp only [Act.put, List.setIfInBounds_toArray, List.set_cons_zero, List.set_cons_succ])
                  refine wpAnyH_ready (rs := [2, 6]) (by kernel_rfl) (by simp) ?_
                  refine AllReadyH.cons rfl (fun K hK => ?_) (AllReadyH.cons rfl (fun K hK => ?_) AllReadyH.nil)
                  · have hk1 := (hk0.alloc hw8z (.cells #[.string n2, .bool u2', .slice A1 l1.length c1, .int .i64 S2, .int .i64 L2] 36)).drew
                    go_simp
                    refine hK.out _ _ ⟨kn_cell hk1 lb9 n91 n92, kn_cell hk1 lb12 n121 n122⟩ (fun hHeld => ?_)
                    (try simp only [Act.put, List.setIfInBounds_toArray, List.set_cons_zero, List.set_cons_succ])
                    refine wpAnyH_ready (rs := [3, 6]) (by kernel_rfl) (by simp) ?_
                    refine AllReadyH.cons rfl (fun K hK => ?_) (AllReadyH.cons rfl (fun K hK => ?_) AllReadyH.nil)
                    · have hb1 : (w8.alloc (.cells #[.string n2, .bool u2', .slice A1 l1.length c1, .int .i64 S2, .int .i64 L2] 36)).drew.heap[w8.heap.size]? = some (.cells #[.string n2, .bool u2', .slice A1 l1.length c1, .int .i64 S2, .int .i64 L2] 36 (0, 0)) := heap_alloc_new _ _
                      refine step_app2 (f := lyC) w.heap.size rfl (.tmp 82) (.tmp 84) 25 rfl i0 _ 64 Tryd.underlying25 hi0 hz0 hz1 hz2 rfl (by decide) (.slice AL KK.length cL) KK rfl hk1.own1 ⟨w8.heap.size, 0, none⟩ 1 (⟨n2, u2', .slice A1 l1.length c1, l1, S2, L2⟩ : Ly) rfl rfl (ly_news (cs := #[.string n2, .bool u2', .slice A1 l1.length c1, .int .i64 S2, .int .i64 L2]) (T := 36) hb1 rfl) (fun u hu => by simp [lyC] at hu; rcases hu with rfl | rfl | rfl | rfl | rfl <;> rfl) (by unfold maxLen; omega) (by omega) (Nat.le_trans hw8z hk1.low.size) ?_
                      intro A9 c9 w12 hown hg hB hor
                      have hkA := Kn2.app1 hk1 hoW hown hg hB hor
                      refine hK.out _ _ ⟨kn_cell hkA lb9 n91 n92, kn_cell hkA lb12 n121 n122⟩ (fun hHeld => ?_)
                      (try simp only [Act.put, List.setIfInBounds_toArray, List.set_cons_zero, List.set_cons_succ])
                      refine wpAnyH_ready (rs := [6]) (by kernel_rfl) (by simp) ?_
                      refine AllReadyH.cons rfl (fun K hK => ?_) AllReadyH.nil
                      have hk2 := hkA.alloc hw8z (.cells #[.string n2, .bool u2', .slice A2 l1.length c2, .int .i64 S2, .int .i64 L2] 36)
                      go_simp
                      refine hK.out _ _ ⟨kn_cell hk2 lb9 n91 n92, kn_cell hk2 lb12 n121 n122⟩ (fun hHeld => ?_)
                      (try simp only [Act.put, List.setIfInBounds_toArray, List.set_cons_zero, List.set_cons_succ])
                      refine wpAnyH_ready (rs := [7]) (by kernel_rfl) (by simp) ?_
                      refine AllReadyH.cons rfl (fun K hK => ?_) AllReadyH.nil
                      have hb2 : (w12.alloc (.cells #[.string n2, .bool u2', .slice A2 l1.length c2, .int .i64 S2, .int .i64 L2] 36)).heap[w12.heap.size]? = some (.cells #[.string n2, .bool u2', .slice A2 l1.length c2, .int .i64 S2, .int .i64 L2] 36 (0, 0)) := heap_alloc_new _ _
                      refine step_app2 (f := lyC) w.heap.size rfl (.tmp 86) (.tmp 88) 25 rfl i0 _ 64 Tryd.underlying25 hi0 hz0 hz1 hz2 rfl (by decide) (.slice AW K'.length cW) K' rfl hk2.own2 ⟨w12.heap.size, 0, none⟩ 1 (⟨n2, u2', .slice A2 l1.length c2, l2, S2, L2⟩ : Ly) rfl rfl (ly_news (cs := #[.string n2, .bool u2', .slice A2 l1.length c2, .int .i64 S2, .int .i64 L2]) (T := 36) hb2 rfl) (fun u hu => by simp [lyC] at hu; rcases hu with rfl | rfl | rfl | rfl | rfl <;> rfl) (by unfold maxLen; omega) (by omega) (Nat.le_trans hw8z hk2.low.size) ?_
                      intro A10 c10 w13 hown2 hg2 hB2 hor2
                      have hkB := Kn2.app2 hk2 hown2 hg2 hB2 hor2
                      refine hK.out _ _ ⟨kn_cell hkB lb9 n91 n92, kn_cell hkB lb12 n121 n122⟩ (fun hHeld => ?_)
                      (try simp only [Act.put, List.setIfInBounds_toArray, List.set_cons_zero, List.set_cons_succ])
                      refine takeR (i := 8) (some 4) (v := ?_) rfl rfl (by kernel_rfl) (by kernel_rfl) (by kernel_rfl) (fun _ _ _ h => h) (Or.inl ⟨by rfl, ?_⟩) (by assumption) ?_
                      rotate_left
                      (focus (intro W hSw; (try dsimp only at hSw); obtain ⟨hs9, hs12⟩ := hSw; have g0 := (hs9 0).trans fA0; have g1 := (hs9 1).trans fA1; have g2 := (hs9 2).trans fA2; have g3 := (hs9 3).trans fA3; have g4 := (hs9 4).trans fA4; have k0 := (hs12 0).trans fB0; have k1 := (hs12 1).trans fB1; have k2 := (hs12 2).trans fB2; have k3 := (hs12 3).trans fB3; have k4 := (hs12 4).trans fB4; clear hs9 hs12; go_simp; (try with_reducible rfl)))
                      (try simp only [Act.put, List.setIfInBounds_toArray, List.set_cons_zero, List.set_cons_succ])
                      refine takeR (i := 9) (some 5) (v := ?_) rfl rfl (by kernel_rfl) (by kernel_rfl) (by kernel_rfl) (fun _ _ _ h => h) (Or.inl ⟨by rfl, ?_⟩) (by assumption) ?_
                      rotate_left
                      (focus (intro W hSw; (try dsimp only at hSw); obtain ⟨hs9, hs12⟩ := hSw; have g0 := (hs9 0).trans fA0; have g1 := (hs9 1).trans fA1; have g2 := (hs9 2).trans fA2; have g3 := (hs9 3).trans fA3; have g4 := (hs9 4).trans fA4; have k0 := (hs12 0).trans fB0; have k1 := (hs12 1).trans fB1; have k2 := (hs12 2).trans fB2; have k3 := (hs12 3).trans fB3; have k4 := (hs12 4).trans fB4; clear hs9 hs12; go_simp; (try with_reducible rfl)))
                      (try simp only [Act.put, List.setIfInBounds_toArray, List.set_cons_zero, List.set_cons_succ])
                      refine wpAnyH_done (by kernel_rfl) ?_ _
                      go_wp2
                      go_roundw
                      case rel => exact ⟨k + 1, KK ++ [(⟨n2, u2', .slice A1 l1.length c1, l1, S2, L2⟩ : Ly)], K' ++ [(⟨n2, u2', .slice A2 l1.length c2, l2, S2, L2⟩ : Ly)], A9, A10, c9, c10, by omega, by go_num, by simp, by simp, by simp; omega, Lib.hid (KnS.step HS.out hr8 hkB (HR1.out.next hb8) (HR2.out.next hb8) iyA iyB heAB (HOK.out rfl).1)⟩
                      case measure => simp [intOf]; omega
                    · have hk2 := ((hk0.alloc hw8z (.cells #[.string n2, .bool u2', .slice A1 l1.length c1, .int .i64 S2, .int .i64 L2] 36)).alloc hw8z (.cells #[.string n2, .bool u2', .slice A2 l1.length c2, .int .i64 S2, .int .i64 L2] 36)).drew
                      go_simp
                      refine hK.out _ _ ⟨kn_cell hk2 lb9 n91 n92, kn_cell hk2 lb12 n121 n122⟩ (fun hHeld => ?_)
                      (try simp only [Act.put, List.setIfInBounds_toArray, List.set_cons_zero, List.set_cons_succ])
                      refine wpAnyH_ready (rs := [3]) (by kernel_rfl) (by simp) ?_
                      refine AllReadyH.cons rfl (fun K hK => ?_) AllReadyH.nil
                      have hbB := heap_alloc_new (w8.alloc (.cells #[.string n2, .bool u2', .slice A1 l1.length c1, .int .i64 S2, .int .i64 L2] 36)) (.cells #[.string n2, .bool u2', .slice A2 l1.length c2, .int .i64 S2, .int .i64 L2] 36)
                      rw [World.size_alloc] at hbB
                      have hb1 : ((w8.alloc (.cells #[.string n2, .bool u2', .slice A1 l1.length c1, .int .i64 S2, .int .i64 L2] 36)).alloc (.cells #[.string n2, .bool u2', .slice A2 l1.length c2, .int .i64 S2, .int .i64 L2] 36)).drew.heap[w8.heap.size]? = some (.cells #[.string n2, .bool u2', .slice A1 l1.length c1, .int .i64 S2, .int .i64 L2] 36 (0, 0)) := (heap_alloc_old _ _ (by rw [World.size_alloc]; omega)).trans (heap_alloc_new _ _)
                      refine step_app2 (f := lyC) w.heap.size rfl (.tmp 82) (.tmp 84) 25 rfl i0 _ 64 Tryd.underlying25 hi0 hz0 hz1 hz2 rfl (by decide) (.slice AL KK.length cL) KK rfl hk2.own1 ⟨w8.heap.size, 0, none⟩ 1 (⟨n2, u2', .slice A1 l1.length c1, l1, S2, L2⟩ : Ly) rfl rfl (ly_news (cs := #[.string n2, .bool u2', .slice A1 l1.length c1, .int .i64 S2, .int .i64 L2]) (T := 36) hb1 rfl) (fun u hu => by simp [lyC] at hu; rcases hu with rfl | rfl | rfl | rfl | rfl <;> rfl) (by unfold maxLen; omega) (by omega) (Nat.le_trans hw8z hk2.low.size) ?_
                      intro A9 c9 w12 hown hg hB hor
                      have hkA := Kn2.app1 hk2 hoW hown hg hB hor
                      refine hK.out _ _ ⟨kn_cell hkA lb9 n91 n92, kn_cell hkA lb12 n121 n122⟩ (fun hHeld => ?_)
                      (try simp only [Act.put, List.setIfInBounds_toArray, List.set_cons_zero, List.set_cons_succ])
                      refine wpAnyH_ready (rs := [7]) (by kernel_rfl) (by simp) ?_
                      refine AllReadyH.cons rfl (fun K hK => ?_) AllReadyH.nil
                      have hb2 : w12.heap[w8.heap.size + 1]? = some (.cells #[.string n2, .bool u2', .slice A2 l1.length c2, .int .i64 S2, .int .i64 L2] 36 (0, 0)) := (hg.block (w8.heap.size + 1) (by show _ < ((w8.alloc _).alloc _).heap.size; rw [World.size_alloc, World.size_alloc]; omega) (fun e => by have := hoL _ e.symm; omega)).trans hbB
                      refine step_app2 (f := lyC) w.heap.size rfl (.tmp 86) (.tmp 88) 25 rfl i0 _ 64 Tryd.underlying25 hi0 hz0 hz1 hz2 rfl (by decide) (.slice AW K'.length cW) K' rfl hkA.own2 ⟨w8.heap.size + 1, 0, none⟩ 1 (⟨n2, u2', .slice A2 l1.length c2, l2, S2, L2⟩ : Ly) rfl rfl (ly_news (cs := #[.string n2, .bool u2', .slice A2 l1.length c2, .int .i64 S2, .int .i64 L2]) (T := 36) hb2 rfl) (fun u hu => by simp [lyC] at hu; rcases hu with rfl | rfl | rfl | rfl | rfl <;> rfl) (by unfold maxLen; omega) (by omega) (Nat.le_trans hw8z hkA.low.size) ?_
                      intro A10 c10 w13 hown2 hg2 hB2 hor2
                      have hkB := Kn2.app2 hkA hown2 hg2 hB2 hor2
                      refine hK.out _ _ ⟨kn_cell hkB lb9 n91 n92, kn_cell hkB lb12 n121 n122⟩ (fun hHeld => ?_)
                      (try simp only [Act.put, List.setIfInBounds_toArray, List.set_cons_zero, List.set_cons_succ])
                      refine takeR (i := 8) (some 4) (v := ?_) rfl rfl (by kernel_rfl) (by kernel_rfl) (by kernel_rfl) (fun _ _ _ h => h) (Or.inl ⟨by rfl, ?_⟩) (by assumption) ?_
                      rotate_left
                      (focus (intro W hSw; (try dsimp only at hSw); obtain ⟨hs9, hs12⟩ := hSw; have g0 := (hs9 0).trans fA0; have g1 := (hs9 1).trans fA1; have g2 := (hs9 2).trans fA2; have g3 := (hs9 3).trans fA3; have g4 := (hs9 4).trans fA4; have k0 := (hs12 0).trans fB0; have k1 := (hs12 1).trans fB1; have k2 := (hs12 2).trans fB2; have k3 := (hs12 3).trans fB3; have k4 := (hs12 4).trans fB4; clear hs9 hs12; go_simp; (try with_reducible rfl)))
                      (try simp only [Act.put, List.setIfInBounds_toArray, List.set_cons_zero, List.set_cons_succ])
                      refine takeR (i := 9) (some 5) (v := ?_) rfl rfl (by kernel_rfl) (by kernel_rfl) (by kernel_rfl) (fun _ _ _ h => h) (Or.inl ⟨by rfl, ?_⟩) (by assumption) ?_
                      rotate_left
                      (focus (intro W hSw; (try dsimp only at hSw); obtain ⟨hs9, hs12⟩ := hSw; have g0 := (hs9 0).trans fA0; have g1 := (hs9 1).trans fA1; have g2 := (hs9 2).trans fA2; have g3 := (hs9 3).trans fA3; have g4 := (hs9 4).trans fA4; have k0 := (hs12 0).trans fB0; have k1 := (hs12 1).trans fB1; have k2 := (hs12 2).trans fB2; have k3 := (hs12 3).trans fB3; have k4 := (hs12 4).trans fB4; clear hs9 hs12; go_simp; (try with_reducible rfl)))
                      (try simp only [Act.put, List.setIfInBounds_toArray, List.set_cons_zero, List.set_cons_succ])
                      refine wpAnyH_done (by kernel_rfl) ?_ _
                      go_wp2
                      go_roundw
                      case rel => exact ⟨k + 1, KK ++ [(⟨n2, u2', .slice A1 l1.length c1, l1, S2, L2⟩ : Ly)], K' ++ [(⟨n2, u2', .slice A2 l1.length c2, l2, S2, L2⟩ : Ly)], A9, A10, c9, c10, by omega, by go_num, by simp, by simp, by simp; omega, Lib.hid (KnS.step HS.out hr8 hkB (HR1.out.next hb8) (HR2.out.next hb8) iyA iyB heAB (HOK.out rfl).1)⟩
                      case measure => simp [intOf]; omega
                  · have hk1 := (hk0.alloc hw8z (.cells #[.string n2, .bool u2', .slice A2 l1.length c2, .int .i64 S2, .int .i64 L2] 36)).drew
                    go_simp
                    refine hK.out _ _ ⟨kn_cell hk1 lb9 n91 n92, kn_cell hk1 lb12 n121 n122⟩ (fun hHeld => ?_)
                    (try simp only [Act.put, List.setIfInBounds_toArray, List.set_cons_zero, List.set_cons_succ])
                    refine wpAnyH_ready (rs := [2]) (by kernel_rfl) (by simp) ?_
                    refine AllReadyH.cons rfl (fun K hK => ?_) AllReadyH.nil
                    have hk2 := ((hk0.alloc hw8z (.cells #[.string n2, .bool u2', .slice A2 l1.length c2, .int .i64 S2, .int .i64 L2] 36)).alloc hw8z (.cells #[.string n2, .bool u2', .slice A1 l1.length c1, .int .i64 S2, .int .i64 L2] 36)).drew
                    go_simp
                    refine hK.out _ _ ⟨kn_cell hk2 lb9 n91 n92, kn_cell hk2 lb12 n121 n122⟩ (fun hHeld => ?_)
                    (try simp only [Act.put, List.setIfInBounds_toArray, List.set_cons_zero, List.set_cons_succ])
                    refine wpAnyH_ready (rs := [3]) (by kernel_rfl) (by simp) ?_
                    refine AllReadyH.cons rfl (fun K hK => ?_) AllReadyH.nil
                    have hbA := heap_alloc_new (w8.alloc (.cells #[.string n2, .bool u2', .slice A2 l1.length c2, .int .i64 S2, .int .i64 L2] 36)) (.cells #[.string n2, .bool u2', .slice A1 l1.length c1, .int .i64 S2, .int .i64 L2] 36)
                    rw [World.size_alloc] at hbA
                    have hbB : ((w8.alloc (.cells #[.string n2, .bool u2', .slice A2 l1.length c2, .int .i64 S2, .int .i64 L2] 36)).alloc (.cells #[.string n2, .bool u2', .slice A1 l1.length c1, .int .i64 S2, .int .i64 L2] 36)).heap[w8.heap.size]? = some (.cells #[.string n2, .bool u2', .slice A2 l1.length c2, .int .i64 S2, .int .i64 L2] 36 (0, 0)) := (heap_alloc_old _ _ (by rw [World.size_alloc]; omega)).trans (heap_alloc_new _ _)
                    have hb1 : ((w8.alloc (.cells #[.string n2, .bool u2', .slice A2 l1.length c2, .int .i64 S2, .int .i64 L2] 36)).alloc (.cells #[.string n2, .bool u2', .slice A1 l1.length c1, .int .i64 S2, .int .i64 L2] 36)).drew.heap[w8.heap.size + 1]? = some (.cells #[.string n2, .bool u2', .slice A1 l1.length c1, .int .i64 S2, .int .i64 L2] 36 (0, 0)) := hbA
                    refine step_app2 (f := lyC) w.heap.size rfl (.tmp 82) (.tmp 84) 25 rfl i0 _ 64 Tryd.underlying25 hi0 hz0 hz1 hz2 rfl (by decide) (.slice AL KK.length cL) KK rfl hk2.own1 ⟨w8.heap.size + 1, 0, none⟩ 1 (⟨n2, u2', .slice A1 l1.length c1, l1, S2, L2⟩ : Ly) rfl rfl (ly_news (cs := #[.string n2, .bool u2', .slice A1 l1.length c1, .int .i64 S2, .int .i64 L2]) (T := 36) hb1 rfl) (fun u hu => by simp [lyC] at hu; rcases hu with rfl | rfl | rfl | rfl | rfl <;> rfl) (by unfold maxLen; omega) (by omega) (Nat.le_trans hw8z hk2.low.size) ?_
                    intro A9 c9 w12 hown hg hB hor
                    have hkA := Kn2.app1 hk2 hoW hown hg hB hor
                    refine hK.out _ _ ⟨kn_cell hkA lb9 n91 n92, kn_cell hkA lb12 n121 n122⟩ (fun hHeld => ?_)
                    (try simp only [Act.put, List.setIfInBounds_toArray, List.set_cons_zero, List.set_cons_succ])
                    refine wpAnyH_ready (rs := [7]) (by kernel_rfl) (by simp) ?_
                    refine AllReadyH.cons rfl (fun K hK => ?_) AllReadyH.nil
                    have hb2 : w12.heap[w8.heap.size]? = some (.cells #[.string n2, .bool u2', .slice A2 l1.length c2, .int .i64 S2, .int .i64 L2] 36 (0, 0)) := (hg.block w8.heap.size (by show _ < ((w8.alloc _).alloc _).heap.size; rw [World.size_alloc, World.size_alloc]; omega) (fun e => by have := hoL _ e.symm; omega)).trans hbB
                    refine step_app2 (f := lyC) w.heap.size rfl (.tmp 86) (.tmp 88) 25 rfl i0 _ 64 Tryd.underlying25 hi0 hz0 hz1 hz2 rfl (by decide) (.slice AW K'.length cW) K' rfl hkA.own2 ⟨w8.heap.size, 0, none⟩ 1 (⟨n2, u2', .slice A2 l1.length c2, l2, S2, L2⟩ : Ly) rfl rfl (ly_news (cs := #[.string n2, .bool u2', .slice A2 l1.length c2, .int .i64 S2, .int .i64 L2]) (T := 36) hb2 rfl) (fun u hu => by simp [lyC] at hu; rcases hu with rfl | rfl | rfl | rfl | rfl <;> rfl) (by unfold maxLen; omega) (by omega) (Nat.le_trans hw8z hkA.low.size) ?_
                    intro A10 c10 w13 hown2 hg2 hB2 hor2
                    have hkB := Kn2.app2 hkA hown2 hg2 hB2 hor2
                    refine hK.out _ _ ⟨kn_cell hkB lb9 n91 n92, kn_cell hkB lb12 n121 n122⟩ (fun hHeld => ?_)
                    (try simp only [Act.put, List.setIfInBounds_toArray, List.set_cons_zero, List.set_cons_succ])
                    refine takeR (i := 8) (some 4) (v := ?_) rfl rfl (by kernel_rfl) (by kernel_rfl) (by kernel_rfl) (fun _ _ _ h => h) (Or.inl ⟨by rfl, ?_⟩) (by assumption) ?_
                    rotate_left
                    (focus (intro W hSw; (try dsimp only at hSw); obtain ⟨hs9, hs12⟩ := hSw; have g0 := (hs9 0).trans fA0; have g1 := (hs9 1).trans fA1; have g2 := (hs9 2).trans fA2; have g3 := (hs9 3).trans fA3; have g4 := (hs9 4).trans fA4; have k0 := (hs12 0).trans fB0; have k1 := (hs12 1).trans fB1; have k2 := (hs12 2).trans fB2; have k3 := (hs12 3).trans fB3; have k4 := (hs12 4).trans fB4; clear hs9 hs12; go_simp; (try with_reducible rfl)))
                    (try simp only [Act.put, List.setIfInBounds_toArray, List.set_cons_zero, List.set_cons_succ])
                    refine takeR (i := 9) (some 5) (v := ?_) rfl rfl (by kernel_rfl) (by kernel_rfl) (by kernel_rfl) (fun _ _ _ h => h) (Or.inl ⟨by rfl, ?_⟩) (by assumption) ?_
                    rotate_left
                    (focus (intro W hSw; (try dsimp only at hSw); obtain ⟨hs9, hs12⟩ := hSw; have g0 := (hs9 0).trans fA0; have g1 := (hs9 1).trans fA1; have g2 := (hs9 2).trans fA2; have g3 := (hs9 3).trans fA3; have g4 := (hs9 4).trans fA4; have k0 := (hs12 0).trans fB0; have k1 := (hs12 1).trans fB1; have k2 := (hs12 2).trans fB2; have k3 := (hs12 3).trans fB3; have k4 := (hs12 4).trans fB4; clear hs9 hs12; go_simp; (try with_reducible rfl)))
                    (try simp only [Act.put, List.setIfInBounds_toArray, List.set_cons_zero, List.set_cons_succ])
                    refine wpAnyH_done (by kernel_rfl) ?_ _
                    go_wp2
                    go_roundw
                    case rel => exact ⟨k + 1, KK ++ [(⟨n2, u2', .slice A1 l1.length c1, l1, S2, L2⟩ : Ly)], K' ++ [(⟨n2, u2', .slice A2 l1.length c2, l2, S2, L2⟩ : Ly)], A9, A10, c9, c10, by omega, by go_num, by simp, by simp, by simp; omega, Lib.hid (KnS.step HS.out hr8 hkB (HR1.out.next hb8) (HR2.out.next hb8) iyA iyB heAB (HOK.out rfl).1)⟩
                    case measure => simp [intOf]; omega
              · go_wp2
                go_roundw
                case rel => exact ⟨k + 1, K, K', AL, AW, cL, cW, by omega, by go_num, rfl, rfl, by omega, Lib.hid (HSB.out.next hb8)⟩
                case measure => simp [intOf]; omega
    · have hkn : k = recs.length := by omega
      clear hkn
      go_wp2
      go_returns
      exact ⟨K, AL, cL, rfl, HS.out.rdL, HS.out.ok.1, by (repeat' (first | (with_reducible exact Below.refl _ _) | (with_reducible assumption) | (with_reducible refine Below.setCell ?_ ?_ _) | (with_reducible refine Below.alloc ?_ ?_ _) | (with_reducible refine Below.drew ?_) | (with_reducible refine below_drewN ?_ _) | (with_reducible refine below_next ?_ (by with_reducible assumption)) | omega | (dsimp only; omega) | (simp only [World.size_alloc, World.size_setCell, World.size_drew, World.heap_drewN]; omega)))⟩
end Go.Proofs.YteeojgepgjndgaaDoor
