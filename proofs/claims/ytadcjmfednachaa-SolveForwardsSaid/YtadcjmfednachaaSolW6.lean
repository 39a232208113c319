/-
  The nodes that are come to, in the order in which they are left: the program's walk.
-/
import Derived.Test.YtadcjmfednachaaSolB
namespace Go.Proofs.Ytadcjmfednachaa
open Go.RowKit
set_option linter.unusedVariables false
set_option linter.unusedSimpArgs false

theorem bool_info : (Try.prog.info? 4).map (fun i => (i.zero, i.size, i.bytes)) = some (some (.bool false), 1, 1) := by kernel_rfl
theorem stepsD_zero (G : List (List Int)) (st : Sol.StD) : Sol.stepsD G 0 st = st := rfl
theorem stepsD_nil (G : List (List Int)) (out : List Int) (seen : List Bool) : ∀ n, Sol.stepsD G n (out, seen, []) = (out, seen, [])
  | 0 => rfl
  | n + 1 => by show Sol.stepsD G n (Sol.stepD G (out, seen, [])) = _; exact stepsD_nil G out seen n
theorem own_pl (W : World) (y : Int) (T : TypeId) {b : Nat} (hb : b = W.heap.size) : RdL plC 2 (W.alloc (.cells #[.int .i64 y, .int .i64 0] T)) (.slice (some ⟨b, 0, none⟩) 1 1) [(y, 0)] := by
  subst hb
  refine ⟨_, 1, rfl, by simp, by decide, fun _ => ⟨_, 0, rfl, by simp, fun k a ha j v hv => ?_⟩⟩
  match k, ha with
  | 0, ha =>
    simp at ha; subst ha
    match j, hv with
    | 0, hv => simp [plC] at hv; subst hv; simp [cell_alloc_if]
    | 1, hv => simp [plC] at hv; subst hv; simp [cell_alloc_if]
set_option maxRecDepth 100000 in
set_option maxHeartbeats 4000000 in
theorem left_any (A : Option Addr) (n c : Nat) (G : List (List Int)) (en : Int) (w : World) (hs : RdM w (.slice A n c) G) (hn : G.length ≤ 1048576) (hr20 : ∀ l ∈ G, l.length ≤ 1048576) (hG : Sol.Cln G) (hen : Sol.InR G.length en) :
    Calls Try.prog 28 #[.slice A n c, .int .i64 en] w (OwnP w (Sol.post G en)) := by
  obtain ⟨i0, hi0, hz0, hz1, hz2⟩ := info_parts int_info
  obtain ⟨j0, hj0, hy0, hy1, hy2⟩ := info_parts bool_info
  obtain ⟨k0, hk0, hx0, hx1, hx2⟩ := info_parts pl_info
  obtain ⟨A', c', e⟩ := hs.form
  injection e with e1 e2 e3
  subst e2
  clear e1 e3 A' c'
  have H20 := Lib.hid hr20
  have HG := Lib.hid hG
  obtain ⟨N, hN⟩ : ∃ N, N = G.length := ⟨_, rfl⟩
  have HN := Lib.hid hN
  rw [← hN] at hn
  have HSN : Hid (RdM w (.slice A N c) G) := Lib.hid (by rw [hN]; exact hs)
  obtain ⟨n0, seen0, hsteps⟩ := Sol.stack_law G hG hen
  have HST := Lib.hid hsteps
  have hen' := hen
  rw [← hN] at hen'
  unfold Sol.InR at hen'
  have HOK : Hid (StOk G ([], (List.replicate G.length false).set en.toNat true, [(en, 0)])) := Lib.hid (by
    refine ⟨by simp, ?_, fun p hp => ?_⟩
    · have := countP_set (l := List.replicate G.length false) (k := en.toNat) (getD_replicate _ _ _) (by simp; omega)
      dsimp only
      rw [this]
      simp
    · simp at hp; subst hp; exact ⟨hen, by simp⟩)
  obtain ⟨eN, heN⟩ : ∃ k : Nat, en = (k : Int) := ⟨en.toNat, by omega⟩
  subst heN
  have heN2 : eN < N := by omega
  rw [← hN]
  clear hs hr20 hN hsteps hG hen hen'
  have hA1 := cell_alloc_if
  have hA2 := frozen_alloc_if
  have hA3 := cell_set_if
  go_enter Try.func28, Try.ntmps28
  go_wp2_with (refine wpList_make_full _ rfl (.tmp 11) (.tmp 11) 25 rfl w.heap.size 4 j0 _ 1 Try.underlying25 hj0 hy0 hy1 .i64 .i64 N N N rfl rfl rfl rfl ?m1 ?m2 ?m3 ?_)
  case m1 => rw [hy2]; omega
  case m2 => unfold maxLen; omega
  case m3 => exact Nat.le_refl _
  intro w1 hrow hg1
  rw [toList_madeCells_one] at hrow
  have hblk := block_full hrow
  have hbw1 : Below w.heap.size w w1 := (Below.refl _ _).grown hg1 (Nat.le_refl _) (fun k hk => by cases hk)
  have hlt1 : w.heap.size < w1.heap.size := (Array.getElem?_eq_some_iff.1 hblk).1
  have hbr : BoolR 4 w1 w.heap.size (List.replicate N false) := by unfold BoolR; rw [hblk]; simp
  have h1c := hbr.at_ (i := eN) (by simpa using heN2)
  rw [getD_replicate] at h1c
  obtain ⟨q1, q2⟩ := h1c
  have HBR := Lib.hid hbr
  clear hrow hg1 hblk hbr
  go_wp2
  have HL0 : Hid (LeftS w.heap.size ((w1.setCell ⟨w.heap.size, eN, none⟩ (.bool true)).alloc (.cells #[.int .i64 eN, .int .i64 0] 59)) (.slice none 0 0) (.slice (some ⟨w1.heap.size, 0, none⟩) 1 1) w.heap.size [] ((List.replicate N false).set eN true) [((eN : Int), 0)]) := Lib.hid
    ⟨OwnL.nil _ _ _ _ _, OwnL.lit _ _ [((eN : Int), 0)] _ (by simp) (by simp; omega) (by unfold maxLen; simp) rfl rfl, (HBR.out.set eN true).next (by (repeat' (first | (with_reducible exact Below.refl _ _) | (with_reducible assumption) | (with_reducible refine Below.setCell ?_ ?_ _) | (with_reducible refine Below.alloc ?_ ?_ _) | (with_reducible refine Below.drew ?_) | (with_reducible refine below_drewN ?_ _) | (with_reducible refine below_next ?_ (by with_reducible assumption)) | omega | (dsimp only; omega) | (simp only [World.size_alloc, World.size_setCell, World.size_drew, World.heap_drewN]; omega)))), Nat.le_refl _, (fun h => by cases h), (fun h => by simp [Value.ownBlock] at h; omega), fun q h => by cases h⟩
  have hbw2 : Below w.heap.size w ((w1.setCell ⟨w.heap.size, eN, none⟩ (.bool true)).alloc (.cells #[.int .i64 eN, .int .i64 0] 59)) := (hbw1.setCell (Nat.le_refl _) _).alloc (by simp; omega) _
  go_loopg [5, 7] n0 (fun gk v s wr => ∃ (out : List Int) (seen : List Bool) (stk : List (Int × Nat)) (A5 A7 : Option Addr) (c5 c7 : Nat), v = .slice A5 out.length c5 ∧ s = .slice A7 stk.length c7 ∧ Below w.heap.size w wr ∧ Hid (LeftS w.heap.size wr (.slice A5 out.length c5) (.slice A7 stk.length c7) w.heap.size out seen stk) ∧ Hid (StOk G (out, seen, stk)) ∧ Hid (Sol.stepsD G gk (out, seen, stk) = (Sol.post G eN, seen0, [])))
  case atStart =>
    rw [Int.toNat_natCast, ← HN.out] at HST HOK
    exact ⟨[], _, [((eN : Int), 0)], none, _, 0, 1, rfl, rfl, hbw2, HL0, HOK, HST⟩
  case round =>
    clear hbw1 hlt1 q1 q2 HBR HL0 hbw2 HST HOK
    obtain ⟨out, seen, stk, A5, A7, c5, c7, rfl, rfl, hXb, HL, HO, HS⟩ := hrel
    have hXz := hXb.size
    rcases stk with _ | ⟨⟨x, a⟩, stk⟩
    · have HE : Hid (out = Sol.post G eN) := Lib.hid (by
        have := HS.out
        rw [stepsD_nil] at this
        exact congrArg (fun st => st.1) this)
      clear HS
      simp only [List.length_nil] at *
      go_wp2
      go_ret
      rw [← HE.out]
      exact ⟨A5, c5, rfl, HL.out.o, hXb⟩
    · obtain ⟨g, rfl, _, hgl, hgz, p0, p1, pf⟩ := HL.out.top
      obtain ⟨hx, ha⟩ := HO.out.inr (x, a) (by simp)
      dsimp only at hx ha
      obtain ⟨gk', rfl⟩ : ∃ k, gk = k + 1 := by
        cases gk with
        | zero => exact absurd (congrArg (fun st => st.2.2) HS.out) (by simp [stepsD_zero])
        | succ k => exact ⟨k, rfl⟩
      have HS2 : Hid (Sol.stepsD G gk' (Sol.stepD G (out, seen, (x, a) :: stk)) = (Sol.post G eN, seen0, [])) := HS
      have HO2 : Hid (StOk G (Sol.stepD G (out, seen, (x, a) :: stk))) := Lib.hid (HO.out.step HG.out)
      have hx' := hx
      unfold Sol.InR at hx'
      obtain ⟨xN, rfl⟩ : ∃ k : Nat, x = (k : Int) := ⟨x.toNat, by omega⟩
      have hxN : xN < N := by have := HN.out; omega
      obtain ⟨l, hl⟩ : ∃ l, G[xN]? = some l := ⟨_, List.getElem?_eq_getElem (by have := HN.out; omega)⟩
      have hl20 := H20.out l (List.mem_of_getElem? hl)
      rw [rowI_nat hl] at ha
      have HRW := Lib.hid (rowI_nat hl)
      obtain ⟨b, off, c1, A2, c2, e, hb, p20, hr⟩ := HSN.out.row hl
      injection e with e1 e2 e3
      subst e1
      have p2 := (hXb.cell (p := ⟨b, off + xN, none⟩) hb).trans p20
      have HR := Lib.hid (hr.next hXb)
      have hcnt : out.length + (stk.length + 1) ≤ N := by
        have h1 := HO.out.cnt
        have h2 := List.countP_le_length (p := id) (l := seen)
        have h3 := HO.out.len
        have h4 := HN.out
        simp only [List.length_cons] at h1
        dsimp only at h3
        omega
      simp only [List.length_cons] at *
      clear hr hl e2 e3 p20 hx hx' HS
      by_cases hal : a = l.length
      · subst hal
        have hst : Sol.stepD G (out, seen, ((xN : Int), l.length) :: stk) = (out ++ [(xN : Int)], seen, stk) := by
          unfold Sol.stepD
          dsimp only
          rw [HRW.out, if_pos rfl]
        rw [hst] at HS2 HO2
        clear hst
        go_wp2
        go_quiet (fail)
        go_wp2_with (at_builtin; refine wpList_app (e := 3) (f := intC) rfl _ _ 28 rfl w.heap.size i0 _ 8 Try.underlying28 hi0 hz0 hz1 hz2 rfl (by decide) intC_len (.slice A5 out.length c5) out rfl ?c0 _ 1 _ [(xN : Int)] rfl ?c1 (intC_one _) (by decide) ?c2 ?c3 ?_)
        case c0 => exact HL.out.o.next (by (repeat' (first | (with_reducible exact Below.refl _ _) | (with_reducible assumption) | (with_reducible refine Below.setCell ?_ ?_ _) | (with_reducible refine Below.alloc ?_ ?_ _) | (with_reducible refine Below.drew ?_) | (with_reducible refine below_drewN ?_ _) | (with_reducible refine below_next ?_ (by with_reducible assumption)) | omega | (dsimp only; omega) | (simp only [World.size_alloc, World.size_setCell, World.size_drew, World.heap_drewN]; omega))))
        case c1 => exact own_one (wr.drewN nq) _ _
        case c2 => first | omega | (simp; omega)
        case c3 => first | omega | (simp; omega)
        intro A9 c9 w6 hown hg hB hor
        have hbr : Below wr.heap.size wr ((wr.drewN nq).alloc (.cells #[.int .i64 (xN : Int)] 3)) := by (repeat' (first | (with_reducible exact Below.refl _ _) | (with_reducible assumption) | (with_reducible refine Below.setCell ?_ ?_ _) | (with_reducible refine Below.alloc ?_ ?_ _) | (with_reducible refine Below.drew ?_) | (with_reducible refine below_drewN ?_ _) | (with_reducible refine below_next ?_ (by with_reducible assumption)) | omega | (dsimp only; omega) | (simp only [World.size_alloc, World.size_setCell, World.size_drew, World.heap_drewN]; omega)))
        have HNEW : Hid (LeftS w.heap.size w6 (.slice A9 (out.length + 1) c9) (.slice (some ⟨g, 0, none⟩) stk.length c7) w.heap.size (out ++ [(xN : Int)]) seen stk) := Lib.hid (LeftS.pop HL.out hbr hown hg (hor.imp id fun e => ⟨_, e, by omega⟩))
        have hBB : Below w.heap.size w w6 := hXb.trans (Below.trans (hbr.mono hXz) hB)
        have hcap := HL.out.s.rdl plC_len |>.lenEq
        have hcap2 : stk.length + 1 ≤ c7 := hcap.2.1
        have hcap3 : c7 ≤ 9223372036854775807 := hcap.2.2
        clear hown hg hB hor hbr hcap
        go_wp2
        go_roundg gk'
        case measure => omega
        case rel => exact ⟨out ++ [(xN : Int)], seen, stk, A9, _, c9, c7, by simp, rfl, hBB, by simpa using HNEW, HO2, HS2⟩
      · have haN : a < l.length := by omega
        obtain ⟨y, hy⟩ : ∃ y, l[a]? = some y := ⟨_, List.getElem?_eq_getElem haN⟩
        have hyr : Sol.InR G.length y := HG.out xN y (by rw [HRW.out]; exact List.mem_of_getElem? hy)
        unfold Sol.InR at hyr
        obtain ⟨yN, rfl⟩ : ∃ k : Nat, y = (k : Int) := ⟨y.toNat, by omega⟩
        have hyN : yN < N := by have := HN.out; omega
        obtain ⟨b3, off3, e3, _, hb3, p3⟩ := HR.out.intAt hy
        subst e3
        have hsl : seen.length = N := HO.out.len.trans HN.out.symm
        obtain ⟨m1, m2⟩ := HL.out.m.at_ (i := yN) (by omega)
        obtain ⟨sv, hsv⟩ : ∃ sv, sv = seen.getD yN false := ⟨_, rfl⟩
        rw [← hsv] at m1
        have hgw : w.heap.size < g := by
          rcases Nat.lt_or_ge w.heap.size g with h | h
          · exact h
          · exact absurd (show (Value.slice (some ⟨g, 0, none⟩) (stk.length + 1) c7).ownBlock = some w.heap.size by rw [show w.heap.size = g by omega]; rfl) HL.out.sb
        have hst : Sol.stepD G (out, seen, ((xN : Int), a) :: stk) = if sv = true then (out, seen, ((xN : Int), a + 1) :: stk) else (out, seen.set yN true, ((yN : Int), 0) :: ((xN : Int), a + 1) :: stk) := by
          unfold Sol.stepD
          dsimp only
          rw [HRW.out, if_neg hal, show l.getD a 0 = (yN : Int) by rw [List.getD_eq_getElem?_getD, hy]; rfl, Int.toNat_natCast, ← hsv]
        rw [hst] at HS2 HO2
        have d0 : ((a : Int) == (l.length : Int)) = false := by simp; omega
        have ha63 : a ≤ 1048576 := by omega
        clear hst hy hyr hsl hal hsv
        cases sv with
        | true =>
          rw [if_pos rfl] at HS2 HO2
          go_wp2
          go_quiet (fail)
          go_wp2
          go_quiet (fail)
          go_wp2
          have hinc : ∀ q : Nat, LeftS w.heap.size ((wr.drewN q).setCell ⟨g, stk.length * 2 + 1, none⟩ (.int .i64 ((a : Int) + 1))) (.slice A5 out.length c5) (.slice (some ⟨g, 0, none⟩) (stk.length + 1) c7) w.heap.size out seen (((xN : Int), a + 1) :: stk) := fun q => LeftS.inc (HL.out.next (w1 := wr.drewN q) (by (repeat' (first | (with_reducible exact Below.refl _ _) | (with_reducible assumption) | (with_reducible refine Below.setCell ?_ ?_ _) | (with_reducible refine Below.alloc ?_ ?_ _) | (with_reducible refine Below.drew ?_) | (with_reducible refine below_drewN ?_ _) | (with_reducible refine below_next ?_ (by with_reducible assumption)) | omega | (dsimp only; omega) | (simp only [World.size_alloc, World.size_setCell, World.size_drew, World.heap_drewN]; omega)))))
          go_roundg gk'
          case measure => omega
          case rel => exact ⟨out, seen, ((xN : Int), a + 1) :: stk, A5, _, c5, c7, rfl, rfl, Below.setCell (by (repeat' (first | (with_reducible exact Below.refl _ _) | (with_reducible assumption) | (with_reducible refine Below.setCell ?_ ?_ _) | (with_reducible refine Below.alloc ?_ ?_ _) | (with_reducible refine Below.drew ?_) | (with_reducible refine below_drewN ?_ _) | (with_reducible refine below_next ?_ (by with_reducible assumption)) | omega | (dsimp only; omega) | (simp only [World.size_alloc, World.size_setCell, World.size_drew, World.heap_drewN]; omega)))) (by show w.heap.size ≤ g; omega) _, Lib.hid (hinc _), HO2, HS2⟩
        | false =>
          rw [if_neg (by decide)] at HS2 HO2
          have hmk : ∀ q : Nat, LeftS w.heap.size (((wr.drewN q).setCell ⟨g, stk.length * 2 + 1, none⟩ (.int .i64 ((a : Int) + 1))).setCell ⟨w.heap.size, yN, none⟩ (.bool true)) (.slice A5 out.length c5) (.slice (some ⟨g, 0, none⟩) (stk.length + 1) c7) w.heap.size out (seen.set yN true) (((xN : Int), a + 1) :: stk) := fun q => (LeftS.inc (HL.out.next (w1 := wr.drewN q) (by (repeat' (first | (with_reducible exact Below.refl _ _) | (with_reducible assumption) | (with_reducible refine Below.setCell ?_ ?_ _) | (with_reducible refine Below.alloc ?_ ?_ _) | (with_reducible refine Below.drew ?_) | (with_reducible refine below_drewN ?_ _) | (with_reducible refine below_next ?_ (by with_reducible assumption)) | omega | (dsimp only; omega) | (simp only [World.size_alloc, World.size_setCell, World.size_drew, World.heap_drewN]; omega)))))).mark yN
          have HMK := Lib.hid hmk
          clear hmk
          go_wp2
          go_quiet (fail)
          go_wp2
          go_quiet (fail)
          go_wp2_with (at_builtin; refine wpList_app (e := 59) (f := plC) rfl _ _ 60 rfl w.heap.size k0 _ 16 Try.underlying60 hk0 hx0 hx1 hx2 rfl (by decide) plC_len (.slice (some ⟨g, 0, none⟩) (stk.length + 1) c7) (((xN : Int), a + 1) :: stk).reverse rfl ?c0 _ 1 _ [((yN : Int), 0)] rfl ?c1 (plC_one _) (by decide) ?c2 ?c3 ?_)
          case c0 => exact ((HMK.out _).next (by (repeat' (first | (with_reducible exact Below.refl _ _) | (with_reducible assumption) | (with_reducible refine Below.setCell ?_ ?_ _) | (with_reducible refine Below.alloc ?_ ?_ _) | (with_reducible refine Below.drew ?_) | (with_reducible refine below_drewN ?_ _) | (with_reducible refine below_next ?_ (by with_reducible assumption)) | omega | (dsimp only; omega) | (simp only [World.size_alloc, World.size_setCell, World.size_drew, World.heap_drewN]; omega))))).s
          case c1 => exact own_pl _ _ _ (by simp)
          case c2 => simp; omega
          case c3 => simp; omega
          have hmk := HMK.out
          intro A9 c9 w6 hown hg hB hor
          have hown' : OwnL 59 plC 2 w.heap.size w6 (.slice A9 (stk.length + 1 + 1) c9) ((((xN : Int), a + 1) :: stk).reverse ++ [((yN : Int), 0)]) := by
            rw [List.reverse_cons, List.append_assoc]; exact hown
          have HNEW : Hid (LeftS w.heap.size w6 (.slice A5 out.length c5) (.slice A9 (stk.length + 1 + 1) c9) w.heap.size out (seen.set yN true) (((yN : Int), 0) :: ((xN : Int), a + 1) :: stk)) := Lib.hid (LeftS.push (hmk _) ((Below.refl _ _).alloc (Nat.le_refl _) _) hown' hg (hor.imp id fun e => ⟨_, e, by simp⟩))
          have hBB : Below w.heap.size w w6 := Below.trans (((Below.setCell (Below.setCell (below_drewN hXb _) (by show w.heap.size ≤ g; omega) _) (Nat.le_refl _) _)).alloc (by simp; omega) _) hB
          clear hown hown' hg hB hor hmk
          go_wp2
          go_roundg gk'
          case measure => omega
          case rel => exact ⟨out, _, ((yN : Int), 0) :: ((xN : Int), a + 1) :: stk, A5, A9, c5, c9, rfl, rfl, hBB, HNEW, HO2, HS2⟩
end Go.Proofs.Ytadcjmfednachaa
