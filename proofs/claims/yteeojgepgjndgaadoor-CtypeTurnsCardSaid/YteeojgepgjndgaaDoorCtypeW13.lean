/-
  A function's type out of plain numbers; all types.
-/
import Derived.Test.YteeojgepgjndgaaDoorCtypeW12
namespace Go.Proofs.YteeojgepgjndgaaDoor
open Go.RowKit
set_option linter.unusedVariables false
set_option linter.unusedSimpArgs false

theorem mkE_sub (n : Nat) (l : List Int) (hl : ∀ x ∈ l, I64 x) : ∀ x ∈ (mkE n l).2, I64 x := fun x hx => hl x ((mkE_ok n l hl).1.subset hx)
theorem mkEs_sub (n c : Nat) (l : List Int) (hl : ∀ x ∈ l, I64 x) : ∀ x ∈ (mkEs n c l).2, I64 x := fun x hx => hl x ((mkEs_ok n c l hl).1.subset hx)
set_option maxRecDepth 100000 in
set_option maxHeartbeats 8000000 in
theorem made_14 (n : Nat) (D : Int) (hD : 0 ≤ D ∧ D ≤ 60) (l : List Int) (m c : Nat) (w : World) (c' : Int) (hc' : I64 c') (A : Option Addr) (hA : ∀ a, A = some a → a.block < w.heap.size) (hl : ∀ x ∈ l, I64 x) (h : RdL intC 1 w (.slice A m c) l) (ih : MakeD (D + 1) n) :
    Calls Tryd.prog 77 #[.int .i64 14, .int .i64 c', .slice A m c, .int .i64 D] w (MakeP A (.fn (mkE n l).1 (mkEs n (min c'.toNat 8) (mkE n l).2).1, (mkEs n (min c'.toNat 8) (mkE n l).2).2) w) := by
  obtain ⟨i0, hi0, hz0, hz1, hz2⟩ := info_parts ty_info
  unfold MakeD at ih
  have HM := Lib.hid ih
  have HL := Lib.hid hl
  have HRD := Lib.hid h
  have HA := Lib.hid hA
  clear ih hl h hA
  obtain ⟨hD1, hD2⟩ := hD
  obtain ⟨hc1', hc2'⟩ := hc'
  have hA1 := cell_alloc_if
  have hA2 := frozen_alloc_if
  have hA3 := cell_set_if
  go_enter Tryd.func77, Tryd.ntmps77
  go_wp2_with (first | (go_at_call 47; (with_reducible refine (HM.out l _ _ _ _ HL.out (fun a ha => Nat.lt_of_lt_of_le (HA.out a ha) (by first | omega | (simp only [World.size_alloc, World.size_setCell, World.size_drew, World.heap_drewN]; omega))) (HRD.out.next (by (repeat' (first | (with_reducible exact Below.refl _ _) | (with_reducible assumption) | (with_reducible refine Below.setCell ?_ ?_ _) | (with_reducible refine Below.alloc ?_ ?_ _) | (with_reducible refine Below.drew ?_) | (with_reducible refine below_drewN ?_ _) | (with_reducible refine below_next ?_ (by with_reducible assumption)) | omega | (dsimp only; omega) | (simp only [World.size_alloc, World.size_setCell, World.size_drew, World.heap_drewN]; omega)))))).mono ?_); rintro e w3 ⟨t, A3, c3, rfl, ht, hr3, hi3, hs3, hrd3, hb3⟩; obtain ⟨k1, s1, l1, f1, n1, A1, m1, c1, e1⟩ := tyC_form t hr3; rw [tyV_of e1]; obtain ⟨hc3, hf3, hz3⟩ := cif hb3; (try simp only [World.size_alloc, World.size_setCell, World.size_drew, World.heap_drewN] at hz3); have R3 := Lib.hid hr3; have I3 := Lib.hid hi3; have D3 := Lib.hid hrd3; have E1 := Lib.hid e1; have T3 := Lib.hid ht; have S3 := Lib.hid hs3; clear hr3 hi3 hrd3 e1 ht hs3))
  have hF0 : FnS w ((((((w3.setCell ⟨w.heap.size + 1, 0, none⟩ (.int .i64 k1)).setCell ⟨w.heap.size + 1, 1, none⟩ (.int .i64 s1)).setCell ⟨w.heap.size + 1, 2, none⟩ (.int .i64 l1)).setCell ⟨w.heap.size + 1, 3, none⟩ (.bool f1)).setCell ⟨w.heap.size + 1, 4, none⟩ (.string n1)).setCell ⟨w.heap.size + 1, 5, none⟩ (.slice A1 m1 c1)) n (mkE n l).2 t [] k1 s1 l1 f1 n1 A1 m1 c1 none 0 A A3 c3 0 := by
    have hlow : Below w.heap.size w w3 := by (repeat' (first | (with_reducible exact Below.refl _ _) | (with_reducible assumption) | (with_reducible refine Below.setCell ?_ ?_ _) | (with_reducible refine Below.alloc ?_ ?_ _) | (with_reducible refine Below.drew ?_) | (with_reducible refine below_drewN ?_ _) | (with_reducible refine below_next ?_ (by with_reducible assumption)) | omega | (dsimp only; omega) | (simp only [World.size_alloc, World.size_setCell, World.size_drew, World.heap_drewN]; omega)))
    have hr0 : w3.heap[w.heap.size]? = some (.cells nilT 30 (0, 0)) := by
      rw [hb3.block _ (by simp; omega), heap_alloc_old _ _ (by simp), heap_alloc_new]; rfl
    have hr1 : w3.heap[w.heap.size + 1]? = some (.cells #[.int .i64 0, .int .i64 0, .int .i64 0, .bool false, .string ⟨#[]⟩, .slice none 0 0, .slice none 0 0] 95 (0, 0)) := by
      rw [hb3.block _ (by simp)]
      have := heap_alloc_new (w.alloc (.cells nilT 30)) (.cells #[.int .i64 0, .int .i64 0, .int .i64 0, .bool false, .string ⟨#[]⟩, .slice none 0 0, .slice none 0 0] 95)
      rw [World.size_alloc] at this
      exact this
    have hin : InT (fun b => w.heap.size + 2 ≤ b) t := InT.mono (fun b hb => by simp only [World.size_alloc] at hb; omega) t I3.out
    refine ⟨by (repeat' (first | (with_reducible exact Below.refl _ _) | (with_reducible assumption) | (with_reducible refine Below.setCell ?_ ?_ _) | (with_reducible refine Below.alloc ?_ ?_ _) | (with_reducible refine Below.drew ?_) | (with_reducible refine below_drewN ?_ _) | (with_reducible refine below_next ?_ (by with_reducible assumption)) | omega | (dsimp only; omega) | (simp only [World.size_alloc, World.size_setCell, World.size_drew, World.heap_drewN]; omega))), by simp only [size_setC]; omega, ?_, ?_, OwnL.nil _ _ _ _ _, rfl, by simp [mkEs, ers], ⟨R3.out.keepS (S := fun b => w.heap.size + 2 ≤ b) (fun b hb hlt => ?_) _ hin, trivial⟩, ⟨InT.mono (fun b hb => ⟨hb.1, by simp only [size_setC]; exact hb.2, by simp [Value.ownBlock]⟩) _ (hin.both _ R3.out.blk), trivial⟩, ?_, S3.out⟩
    · simp only [heap_setC _ _ _ _ _ (show w.heap.size ≠ w.heap.size + 1 by omega)]; exact hr0
    · simp only [World.setCell, Array.getElem?_modify, if_true, hr1]; rfl
    · repeat rw [heap_setC _ _ _ _ _ (by omega)]
    · have hblk : ∀ b, (Value.slice A3 (mkE n l).2.length c3).ownBlock = some b → b < w.heap.size := by
        intro b hb
        cases A3 with
        | none => simp [Value.ownBlock] at hb
        | some x =>
          obtain ⟨a, ha, e⟩ := S3.out x rfl
          have := HA.out a ha
          simp [Value.ownBlock] at hb
          omega
      simp only [mkEs]
      exact (rdl_back D3.out hlow hblk).next (by (repeat' (first | (with_reducible exact Below.refl _ _) | (with_reducible assumption) | (with_reducible refine Below.setCell ?_ ?_ _) | (with_reducible refine Below.alloc ?_ ?_ _) | (with_reducible refine Below.drew ?_) | (with_reducible refine below_drewN ?_ _) | (with_reducible refine below_next ?_ (by with_reducible assumption)) | omega | (dsimp only; omega) | (simp only [World.size_alloc, World.size_setCell, World.size_drew, World.heap_drewN]; omega))))
  have HF := Lib.hid hF0
  clear hF0 hc3 hf3 R3 I3 D3 S3
  go_loopw [13, 2] (fun i s2 wr => ∃ (k : Nat) (A5 : Option Addr) (c5 : Nat) (A6 : Option Addr) (c6 : Nat) (ts : List Ty), k ≤ min c'.toNat 8 ∧ i = .int .i64 k ∧ s2 = .slice A5 (mkEs n k (mkE n l).2).2.length c5 ∧ Hid (FnS w wr n (mkE n l).2 t ts k1 s1 l1 f1 n1 A1 m1 c1 A6 c6 A A5 c5 k)) (fun i _ _ => min c'.toNat 8 - (intOf i).toNat)
  case atStart => exact ⟨0, A3, c3, none, 0, [], by omega, rfl, by simp [mkEs], HF⟩
  case round =>
    obtain ⟨k, A5, c5, A6, c6, ts, hk, rfl, rfl, HS⟩ := hrel
    obtain rfl : ts.length = k := HS.out.len
    have hlow := HS.out.low
    have hsz := HS.out.size
    by_cases hlt : ts.length < min c'.toNat 8
    · have hlt1 : (ts.length : Int) < c' := by omega
      have hlt2 : (ts.length : Int) < 8 := by omega
      have hbx := cells_of_block HS.out.box
      have y0 := hbx.1 0
      have y6 := hbx.1 6
      have y7 := hbx.2 6
      simp [fnBox] at y0 y6
      clear hbx
      have HAS : Hid (∀ a, A5 = some a → a.block < w.heap.size) := Lib.hid fun a ha => by
        obtain ⟨a2, h2, e⟩ := HS.out.sub a ha
        rw [e]; exact HA.out a2 h2
      have HI := Lib.hid (mkEs_sub n ts.length (mkE n l).2 (mkE_sub n l HL.out))
      go_upto_region 16 with (first
        | (go_at_call 47; (with_reducible refine (HM.out (mkEs n ts.length (mkE n l).2).2 _ _ _ _ HI.out (fun a ha => Nat.lt_of_lt_of_le (HAS.out a ha) (by first | omega | (simp only [World.size_alloc, World.size_setCell, World.size_drew, World.heap_drewN]; omega))) (HS.out.rest.next (by (repeat' (first | (with_reducible exact Below.refl _ _) | (with_reducible assumption) | (with_reducible refine Below.setCell ?_ ?_ _) | (with_reducible refine Below.alloc ?_ ?_ _) | (with_reducible refine Below.drew ?_) | (with_reducible refine below_drewN ?_ _) | (with_reducible refine below_next ?_ (by with_reducible assumption)) | omega | (dsimp only; omega) | (simp only [World.size_alloc, World.size_setCell, World.size_drew, World.heap_drewN]; omega)))))).mono ?_); rintro e w4 ⟨t7, A7, c7, rfl, ht7, hr7, hi7, hs7, hrd7, hb7⟩; obtain ⟨kx, sx, lx, fx, nx, Ax, mx, cx, ex⟩ := tyC_form t7 hr7; rw [tyV_of ex]; obtain ⟨hc7, hf7, hz7⟩ := cif hb7; (try simp only [World.size_alloc, World.size_setCell, World.size_drew, World.heap_drewN] at hz7); have R7 := Lib.hid hr7; have I7 := Lib.hid hi7; have D7 := Lib.hid hrd7; have E7 := Lib.hid ex; have T7 := Lib.hid ht7; have S7 := Lib.hid hs7; clear hr7 hi7 hrd7 ex ht7 hs7))
      have hlt4 : ∀ b, (Value.slice A6 ts.length c6).ownBlock = some b → b < wr.heap.size := fun b hb => (HS.out.own.lt hb).2
      have hzz : wr.heap.size + 1 ≤ w4.heap.size := by omega
      have h5 : ∀ (ob : Obj) (b : Nat), b ≠ wr.heap.size → b < w4.heap.size → (((((((w4.setCell ⟨wr.heap.size, 0, none⟩ (.int .i64 kx)).setCell ⟨wr.heap.size, 1, none⟩ (.int .i64 sx)).setCell ⟨wr.heap.size, 2, none⟩ (.int .i64 lx)).setCell ⟨wr.heap.size, 3, none⟩ (.bool fx)).setCell ⟨wr.heap.size, 4, none⟩ (.string nx)).setCell ⟨wr.heap.size, 5, none⟩ (.slice Ax mx cx)).alloc ob).heap[b]? = w4.heap[b]? := fun ob b hb hlt => by
        rw [heap_alloc_old _ _ (by simp only [size_setC]; exact hlt)]
        repeat rw [heap_setC _ _ _ _ _ hb]
      have H5 := Lib.hid h5
      have H4 := Lib.hid hb7
      clear h5
      go_wp2_with (at_builtin; refine wpList_app (e := 30) (f := tyC) rfl _ _ 28 rfl (w.heap.size + 2) i0 _ 72 Tryd.underlying28 hi0 hz0 hz1 hz2 rfl (by decide) tyC_len (.slice A6 ts.length c6) ts rfl ?c0 _ 1 _ [t7] rfl ?c1 ?c2 (by decide) ?c3 ?c4 ?_)
      case c0 =>
        refine HS.out.own.keep fun b hb => ?_
        have h1 := hlt4 b hb
        rw [H5.out _ b (by omega) (by omega), H4.out.block b (by simp; omega), heap_alloc_old _ _ h1]
      case c1 =>
        refine RdL.one E7.out (by simp) ?_
        simp [go_sem, cell_alloc_if, *]
      case c2 => intro a ha u hu; simp at ha; subst ha; exact tyC_one R7.out u hu
      case c3 => simp; omega
      case c4 => simp; omega
      intro A9 c9 w6 hown hg hB hor
      have hlW5 := H5.out (.cells #[.int .i64 kx, .int .i64 sx, .int .i64 lx, .bool fx, .string nx, .slice Ax mx cx] 30)
      have hb6 : w6.heap[w.heap.size + 1]? = some (.cells (fnBox k1 s1 l1 f1 n1 A1 m1 c1 A6 ts.length c6) 95 (0, 0)) := by
        rw [hB.block _ (by omega), hlW5 _ (by omega) (by omega), H4.out.block _ (by simp; omega), heap_alloc_old _ _ (by omega)]
        exact HS.out.box
      have hx6 := cells_of_block hb6
      have z6 := hx6.1 6
      have z7 := hx6.2 6
      simp [fnBox] at z6
      have HOWN := Lib.hid hown
      have HG := Lib.hid hg
      have HB := Lib.hid hB
      have HOR := Lib.hid hor
      have HLW := Lib.hid hlW5
      clear hlW5 hb6 hx6 hown hg hB hor hc7 hf7 y0 y6 y7
      go_wp2
      go_roundw
      case rel =>
        have h4 : Below wr.heap.size wr w4 := Below.trans ((Below.refl _ _).alloc (Nat.le_refl _) _) (H4.out.mono (by simp))
        refine ⟨ts.length + 1, A7, c7, A9, c9, ts ++ [t7], by omega, by go_num, by rw [mkEs_snoc], ?_⟩
        refine Lib.hid (FnS.step HS.out HA.out h4 hzz HLW.out (by simp) ?_ T7.out R7.out ?_ S7.out D7.out HOWN.out HG.out HB.out (by simpa using HOR.out) rfl)
        · (repeat' (first | (with_reducible exact Below.refl _ _) | (with_reducible assumption) | (with_reducible refine Below.setCell ?_ ?_ _) | (with_reducible refine Below.alloc ?_ ?_ _) | (with_reducible refine Below.drew ?_) | (with_reducible refine below_drewN ?_ _) | (with_reducible refine below_next ?_ (by with_reducible assumption)) | omega | (dsimp only; omega) | (simp only [World.size_alloc, World.size_setCell, World.size_drew, World.heap_drewN]; omega)))
        · exact InT.mono (fun b hb => by simpa using hb) _ I7.out
      case measure => simp [intOf]; omega
    · have hkn : ts.length = min c'.toNat 8 := by omega
      have hbx := cells_of_block HS.out.box
      have hrx := cells_of_block HS.out.res
      have y0 := hbx.1 0
      have y1 := hbx.1 1
      have y2 := hbx.1 2
      have y3 := hbx.1 3
      have y4 := hbx.1 4
      have y5 := hbx.1 5
      have y6 := hbx.1 6
      simp [fnBox] at y0 y1 y2 y3 y4 y5 y6
      have x0 := hrx.1 0
      have x1 := hrx.1 1
      have x2 := hrx.1 2
      have x3 := hrx.1 3
      have x4 := hrx.1 4
      have x5 := hrx.1 5
      simp [nilT] at x0 x1 x2 x3 x4 x5
      have x6 := hrx.2
      have hlen8 : ts.length ≤ 1000000 := by omega
      have RR := Lib.hid HS.out.rds.1
      have RS := Lib.hid HS.out.rds.2
      have RO := Lib.hid (HS.out.own.rdl tyC_len)
      have HK := Lib.hid hkn
      clear hbx hrx
      rw [← hkn] 
      clear hkn
      by_cases hcn : (ts.length : Int) < c'
      · have h8 : ¬ (ts.length : Int) < 8 := by have := HK.out; omega
        go_wp2_with (go_at_call 96; (with_reducible refine (functionTy_any _ _ _ _ _ _ _ _ t ts _ _ _ _ (RR.out.next (by (repeat' (first | (with_reducible exact Below.refl _ _) | (with_reducible assumption) | (with_reducible refine Below.setCell ?_ ?_ _) | (with_reducible refine Below.alloc ?_ ?_ _) | (with_reducible refine Below.drew ?_) | (with_reducible refine below_drewN ?_ _) | (with_reducible refine below_next ?_ (by with_reducible assumption)) | omega | (dsimp only; omega) | (simp only [World.size_alloc, World.size_setCell, World.size_drew, World.heap_drewN]; omega))))) E1.out (RO.out.next (by (repeat' (first | (with_reducible exact Below.refl _ _) | (with_reducible assumption) | (with_reducible refine Below.setCell ?_ ?_ _) | (with_reducible refine Below.alloc ?_ ?_ _) | (with_reducible refine Below.drew ?_) | (with_reducible refine below_drewN ?_ _) | (with_reducible refine below_next ?_ (by with_reducible assumption)) | omega | (dsimp only; omega) | (simp only [World.size_alloc, World.size_setCell, World.size_drew, World.heap_drewN]; omega))))) (RS.out.next (by (repeat' (first | (with_reducible exact Below.refl _ _) | (with_reducible assumption) | (with_reducible refine Below.setCell ?_ ?_ _) | (with_reducible refine Below.alloc ?_ ?_ _) | (with_reducible refine Below.drew ?_) | (with_reducible refine below_drewN ?_ _) | (with_reducible refine below_next ?_ (by with_reducible assumption)) | omega | (dsimp only; omega) | (simp only [World.size_alloc, World.size_setCell, World.size_drew, World.heap_drewN]; omega))))) hlen8).mono ?_); rintro e w4 ⟨t4, ⟨sv4, rfl, hs4⟩, rfl, hr4, hb4⟩; obtain ⟨k4, s4, l4, f4, n4, A4, m4, c4, e4⟩ := tyC_form _ hr4; rw [tyV_of e4]; obtain ⟨hc4, hf4, hz4⟩ := cif hb4; (try simp only [World.size_alloc, World.size_setCell, World.size_drew, World.heap_drewN] at hz4); have R4 := Lib.hid hr4; have S4 := Lib.hid hs4; have E4 := Lib.hid e4; clear hr4 hs4 e4)
        ((try simp only [Exit.inBlock, Exit.then]); go_light; refine bodyPost_ret (by simp [results, Tryd.results77, go_sem, *, ↓IntWalk.iteOmega]; try rfl) rfl ?_)
        rw [← tyV_of E4.out]
        have hin : InT (fun b => w.heap.size + 1 ≤ b) (.fn sv4 t ts) := by
          simp only [InT]
          have hi := HS.out.ins
          simp only [InTs] at hi
          exact ⟨fun b hb => by have h4 := S4.out b hb; omega, InT.mono (fun b hb => by omega) _ hi.1, InTs.mono (fun b hb => by omega) _ hi.2⟩
        have hA5 : ∀ b, (Value.slice A5 (mkEs n ts.length (mkE n l).2).2.length c5).ownBlock = some b → b < w.heap.size := by
          intro b hb
          cases A5 with
          | none => simp [Value.ownBlock] at hb
          | some x =>
            obtain ⟨a, ha, e⟩ := HS.out.sub x rfl
            have := HA.out a ha
            simp [Value.ownBlock] at hb
            omega
        have hback := rdl_back HS.out.rest hlow hA5
        have hsub := HS.out.sub
        rw [← HK.out]
        refine ⟨.fn sv4 t ts, A5, c5, rfl, ?_, ?_, ?_, hsub, ?_, ?_⟩
        · simp [er, T3.out, HS.out.ers_]
        · refine R4.out.keepS (S := fun b => w.heap.size + 1 ≤ b) (fun b hb hlt => ?_) _ hin
          simp only [World.setCell, Array.getElem?_modify]
          repeat rw [if_neg (by omega)]
        · exact InT.mono (fun b hb => by omega) _ hin
        · exact hback.next (by (repeat' (first | (with_reducible exact Below.refl _ _) | (with_reducible assumption) | (with_reducible refine Below.setCell ?_ ?_ _) | (with_reducible refine Below.alloc ?_ ?_ _) | (with_reducible refine Below.drew ?_) | (with_reducible refine below_drewN ?_ _) | (with_reducible refine below_next ?_ (by with_reducible assumption)) | omega | (dsimp only; omega) | (simp only [World.size_alloc, World.size_setCell, World.size_drew, World.heap_drewN]; omega))))
        · (repeat' (first | (with_reducible exact Below.refl _ _) | (with_reducible assumption) | (with_reducible refine Below.setCell ?_ ?_ _) | (with_reducible refine Below.alloc ?_ ?_ _) | (with_reducible refine Below.drew ?_) | (with_reducible refine below_drewN ?_ _) | (with_reducible refine below_next ?_ (by with_reducible assumption)) | omega | (dsimp only; omega) | (simp only [World.size_alloc, World.size_setCell, World.size_drew, World.heap_drewN]; omega)))
      · have hcn2 : c' ≤ (ts.length : Int) := by omega
        go_wp2_with (go_at_call 96; (with_reducible refine (functionTy_any _ _ _ _ _ _ _ _ t ts _ _ _ _ (RR.out.next (by (repeat' (first | (with_reducible exact Below.refl _ _) | (with_reducible assumption) | (with_reducible refine Below.setCell ?_ ?_ _) | (with_reducible refine Below.alloc ?_ ?_ _) | (with_reducible refine Below.drew ?_) | (with_reducible refine below_drewN ?_ _) | (with_reducible refine below_next ?_ (by with_reducible assumption)) | omega | (dsimp only; omega) | (simp only [World.size_alloc, World.size_setCell, World.size_drew, World.heap_drewN]; omega))))) E1.out (RO.out.next (by (repeat' (first | (with_reducible exact Below.refl _ _) | (with_reducible assumption) | (with_reducible refine Below.setCell ?_ ?_ _) | (with_reducible refine Below.alloc ?_ ?_ _) | (with_reducible refine Below.drew ?_) | (with_reducible refine below_drewN ?_ _) | (with_reducible refine below_next ?_ (by with_reducible assumption)) | omega | (dsimp only; omega) | (simp only [World.size_alloc, World.size_setCell, World.size_drew, World.heap_drewN]; omega))))) (RS.out.next (by (repeat' (first | (with_reducible exact Below.refl _ _) | (with_reducible assumption) | (with_reducible refine Below.setCell ?_ ?_ _) | (with_reducible refine Below.alloc ?_ ?_ _) | (with_reducible refine Below.drew ?_) | (with_reducible refine below_drewN ?_ _) | (with_reducible refine below_next ?_ (by with_reducible assumption)) | omega | (dsimp only; omega) | (simp only [World.size_alloc, World.size_setCell, World.size_drew, World.heap_drewN]; omega))))) hlen8).mono ?_); rintro e w4 ⟨t4, ⟨sv4, rfl, hs4⟩, rfl, hr4, hb4⟩; obtain ⟨k4, s4, l4, f4, n4, A4, m4, c4, e4⟩ := tyC_form _ hr4; rw [tyV_of e4]; obtain ⟨hc4, hf4, hz4⟩ := cif hb4; (try simp only [World.size_alloc, World.size_setCell, World.size_drew, World.heap_drewN] at hz4); have R4 := Lib.hid hr4; have S4 := Lib.hid hs4; have E4 := Lib.hid e4; clear hr4 hs4 e4)
        ((try simp only [Exit.inBlock, Exit.then]); go_light; refine bodyPost_ret (by simp [results, Tryd.results77, go_sem, *, ↓IntWalk.iteOmega]; try rfl) rfl ?_)
        rw [← tyV_of E4.out]
        have hin : InT (fun b => w.heap.size + 1 ≤ b) (.fn sv4 t ts) := by
          simp only [InT]
          have hi := HS.out.ins
          simp only [InTs] at hi
          exact ⟨fun b hb => by have h4 := S4.out b hb; omega, InT.mono (fun b hb => by omega) _ hi.1, InTs.mono (fun b hb => by omega) _ hi.2⟩
        have hA5 : ∀ b, (Value.slice A5 (mkEs n ts.length (mkE n l).2).2.length c5).ownBlock = some b → b < w.heap.size := by
          intro b hb
          cases A5 with
          | none => simp [Value.ownBlock] at hb
          | some x =>
            obtain ⟨a, ha, e⟩ := HS.out.sub x rfl
            have := HA.out a ha
            simp [Value.ownBlock] at hb
            omega
        have hback := rdl_back HS.out.rest hlow hA5
        have hsub := HS.out.sub
        rw [← HK.out]
        refine ⟨.fn sv4 t ts, A5, c5, rfl, ?_, ?_, ?_, hsub, ?_, ?_⟩
        · simp [er, T3.out, HS.out.ers_]
        · refine R4.out.keepS (S := fun b => w.heap.size + 1 ≤ b) (fun b hb hlt => ?_) _ hin
          simp only [World.setCell, Array.getElem?_modify]
          repeat rw [if_neg (by omega)]
        · exact InT.mono (fun b hb => by omega) _ hin
        · exact hback.next (by (repeat' (first | (with_reducible exact Below.refl _ _) | (with_reducible assumption) | (with_reducible refine Below.setCell ?_ ?_ _) | (with_reducible refine Below.alloc ?_ ?_ _) | (with_reducible refine Below.drew ?_) | (with_reducible refine below_drewN ?_ _) | (with_reducible refine below_next ?_ (by with_reducible assumption)) | omega | (dsimp only; omega) | (simp only [World.size_alloc, World.size_setCell, World.size_drew, World.heap_drewN]; omega))))
        · (repeat' (first | (with_reducible exact Below.refl _ _) | (with_reducible assumption) | (with_reducible refine Below.setCell ?_ ?_ _) | (with_reducible refine Below.alloc ?_ ?_ _) | (with_reducible refine Below.drew ?_) | (with_reducible refine below_drewN ?_ _) | (with_reducible refine below_next ?_ (by with_reducible assumption)) | omega | (dsimp only; omega) | (simp only [World.size_alloc, World.size_setCell, World.size_drew, World.heap_drewN]; omega)))

theorem made_any (n : Nat) (D : Int) (hD : 0 ≤ D ∧ D ≤ 60) (ih : MakeD (D + 1) n) : MadeD D n := by
  intro k c' l A m c w hk hc' hl hA h
  have hk' : k = 11 ∨ k = 12 ∨ k = 13 ∨ k = 14 := by omega
  rcases hk' with rfl | rfl | rfl | rfl
  · rw [show mkE (n + 1) (11 :: c' :: l) = (.arr c' (mkE n l).1, (mkE n l).2) by simp [mkE]]
    exact made_11 n D hD l m c w c' A hA hl h ih
  · rw [show mkE (n + 1) (12 :: c' :: l) = (.rcd false [nameC c'], l) by simp [mkE]]
    exact made_rec D l m c w c' false A h
  · rw [show mkE (n + 1) (13 :: c' :: l) = (.rcd true [nameC c'], l) by simp [mkE]]
    exact made_rec D l m c w c' true A h
  · rw [show mkE (n + 1) (14 :: c' :: l) = (.fn (mkE n l).1 (mkEs n (min c'.toNat 8) (mkE n l).2).1, (mkEs n (min c'.toNat 8) (mkE n l).2).2) by simp [mkE]]
    exact made_14 n D hD l m c w c' hc' A hA hl h ih
theorem make_step (n : Nat) (D : Int) (hD : 0 ≤ D ∧ D ≤ 60) (ih : MakeD (D + 1) n) (k : Int) (l : List Int) (A : Option Addr) (m c : Nat) (w : World) (hl : ∀ x ∈ k :: l, I64 x) (h : RdL intC 1 w (.slice A m c) (k :: l)) :
    Calls Tryd.prog 47 #[.slice A m c, .int .i64 D] w (MakeP A (mkE (n + 1) (k :: l)) w) := by
  have hl' : ∀ x ∈ l, I64 x := fun x hx => hl x (List.mem_cons_of_mem _ hx)
  by_cases h0 : k = 0
  · subst h0
    rw [show mkE (n + 1) (0 :: l) = (.void, l) by rw [mkE.eq_def]; simp]
    exact type_0 D hD l A m c w h
  by_cases h1 : 1 ≤ k ∧ k ≤ 8
  · rw [show mkE (n + 1) (k :: l) = (.num (2 ^ ((k - 1) / 2).toNat) (k % 2 = 0), l) by rw [mkE.eq_def]; simp [h0, h1]]
    exact type_num D hD l A m c w k h1 h
  by_cases h9 : k = 9
  · subst h9
    rw [show mkE (n + 1) (9 :: l) = (.flt, l) by rw [mkE.eq_def]; simp]
    exact type_9 D hD l A m c w h
  by_cases h10 : k = 10
  · subst h10
    rw [show mkE (n + 1) (10 :: l) = (.ptr (mkE n l).1, (mkE n l).2) by rw [mkE.eq_def]; simp]
    exact type_10 n D hD l A m c w hl' h ih
  by_cases h15 : k = 15
  · subst h15
    rw [show mkE (n + 1) (15 :: l) = (.num 3 false, l) by rw [mkE.eq_def]; simp]
    exact type_15 D hD l A m c w h
  by_cases hm : 11 ≤ k ∧ k ≤ 14
  · cases l with
    | nil =>
      rw [show mkE (n + 1) [k] = (.none, []) by rw [mkE.eq_def]; simp [h0, h1, h9, h10, h15]]
      exact type_end D hD A m c w k hm h
    | cons c' l =>
      exact type_made n D hD l A m c w k c' hm (hl' c' (List.mem_cons_self ..)) (fun x hx => hl' x (List.mem_cons_of_mem _ hx)) h (made_any n D hD ih)
  · have : mkE (n + 1) (k :: l) = (.none, l) := by
      unfold mkE
      rw [if_neg h0, if_neg h1, if_neg h9, if_neg h10, if_neg h15]
      cases l with
      | nil => rfl
      | cons c' l =>
        simp only
        rw [if_neg (by omega), if_neg (by omega), if_neg (by omega), if_neg (by omega)]
    rw [this]
    exact type_out D hD l A m c w k (by omega) h
theorem make_all : ∀ (n : Nat), n ≤ 61 → MakeD ((61 - n : Nat) : Int) n
  | 0, _ => fun l A m c w hl hA h => by
    rw [show mkE 0 l = (.none, []) by simp [mkE]]
    exact type_deep l A m c w h
  | n + 1, hn => fun l A m c w hl hA h => by
    have ih := make_all n (by omega)
    cases l with
    | nil =>
      rw [show mkE (n + 1) [] = (.none, []) by simp [mkE]]
      exact type_nil (n + 1) A m c w h
    | cons k l =>
      refine make_step n _ (by omega) ?_ k l A m c w hl h
      rw [show ((61 - (n + 1) : Nat) : Int) + 1 = ((61 - n : Nat) : Int) by omega]
      exact ih
/-- The type of numbers. -/
def oneE (l : List Int) : Er := (mkE 61 l).1
/-- A type that is made: its form, and where it lies. -/
def OneP (E : Er) (w : World) (e : Ending) (w' : World) : Prop := ∃ t, e = .returned (tyV t) ∧ er t = E ∧ RdT w' t ∧ InT (fun b => w.heap.size ≤ b) t ∧ Below w.heap.size w w'
set_option maxRecDepth 100000 in
set_option maxHeartbeats 1000000 in
theorem one_any (l : List Int) (A : Option Addr) (m c : Nat) (w : World) (hl : ∀ x ∈ l, I64 x) (hA : ∀ a, A = some a → a.block < w.heap.size) (h : RdL intC 1 w (.slice A m c) l) :
    Calls Tryd.prog 11 #[.slice A m c] w (OneP (oneE l) w) := by
  have hm : MakeD 0 61 := make_all 61 (by omega)
  unfold MakeD at hm
  have HM := Lib.hid hm
  have HL := Lib.hid hl
  have HRD := Lib.hid h
  have HA := Lib.hid hA
  clear hm hl h hA
  have hA1 := cell_alloc_if
  have hA2 := frozen_alloc_if
  have hA3 := cell_set_if
  go_enter Tryd.func11, Tryd.ntmps11
  go_wp2_with (first | (go_at_call 47; (with_reducible refine (HM.out l _ _ _ _ HL.out (fun a ha => Nat.lt_of_lt_of_le (HA.out a ha) (by first | omega | (simp only [World.size_alloc, World.size_setCell, World.size_drew, World.heap_drewN]; omega))) (HRD.out.next (by (repeat' (first | (with_reducible exact Below.refl _ _) | (with_reducible assumption) | (with_reducible refine Below.setCell ?_ ?_ _) | (with_reducible refine Below.alloc ?_ ?_ _) | (with_reducible refine Below.drew ?_) | (with_reducible refine below_drewN ?_ _) | (with_reducible refine below_next ?_ (by with_reducible assumption)) | omega | (dsimp only; omega) | (simp only [World.size_alloc, World.size_setCell, World.size_drew, World.heap_drewN]; omega)))))).mono ?_); rintro e w3 ⟨t, A3, c3, rfl, ht, hr3, hi3, hs3, hrd3, hb3⟩; obtain ⟨k1, s1, l1, f1, n1, A1, m1, c1, e1⟩ := tyC_form t hr3; rw [tyV_of e1]; obtain ⟨hc3, hf3, hz3⟩ := cif hb3; (try simp only [World.size_alloc, World.size_setCell, World.size_drew, World.heap_drewN] at hz3); have R3 := Lib.hid hr3; have I3 := Lib.hid hi3; have D3 := Lib.hid hrd3; have E1 := Lib.hid e1; have T3 := Lib.hid ht; have S3 := Lib.hid hs3; clear hr3 hi3 hrd3 e1 ht hs3))
  ((try simp only [Exit.inBlock, Exit.then]); go_light; refine bodyPost_ret (by simp [results, Tryd.results11, go_sem, *, ↓IntWalk.iteOmega]; try rfl) rfl ?_)
  rw [← tyV_of E1.out]
  have hin : InT (fun b => w.heap.size + 1 ≤ b) t := InT.mono (fun b hb => by simpa using hb) _ I3.out
  refine ⟨t, rfl, T3.out, R3.out.keepS (S := fun b => w.heap.size + 1 ≤ b ∧ b < w3.heap.size) (fun b hb hlt => ?_) _ (hin.both _ R3.out.blk), InT.mono (fun b hb => by omega) _ hin, by (repeat' (first | (with_reducible exact Below.refl _ _) | (with_reducible assumption) | (with_reducible refine Below.setCell ?_ ?_ _) | (with_reducible refine Below.alloc ?_ ?_ _) | (with_reducible refine Below.drew ?_) | (with_reducible refine below_drewN ?_ _) | (with_reducible refine below_next ?_ (by with_reducible assumption)) | omega | (dsimp only; omega) | (simp only [World.size_alloc, World.size_setCell, World.size_drew, World.heap_drewN]; omega)))⟩
  repeat rw [heap_setC _ _ _ _ _ (by omega)]
  rw [heap_alloc_old _ _ hlt]
end Go.Proofs.YteeojgepgjndgaaDoor
