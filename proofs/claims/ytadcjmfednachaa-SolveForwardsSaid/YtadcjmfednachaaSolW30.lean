/-
  Backward's closure: it looks at a node.
-/
import Derived.Test.YtadcjmfednachaaSolD
import Derived.Test.YtadcjmfednachaaStep
namespace Go.Proofs.Ytadcjmfednachaa
open Go.RowKit Go.Maps Go.WideShapes Go.ChangeShapes Go.Deep
set_option linter.unusedVariables false
set_option linter.unusedSimpArgs false

/-- What the closure reads. -/
structure BwdF (base base2 N : Nat) (wg w : World) (pg pi pb pf bi bb : Nat) (os osb : List (Option Nat)) (Ag Af : Option Addr) (cg cf : Nat) (G F E : List (List Int)) : Prop where
  g : RdM wg (.slice Ag N cg) G
  f : RdM wg (.slice Af N cf) F
  below : Below wg.heap.size wg w
  gb : wg.heap.size ≤ base
  e : SetV base2 w bb osb E
  hos : ∀ (i q : Nat), os[i]? = some (some q) → q < base2 ∧ q ≠ pg ∧ q ≠ pi ∧ q ≠ pb ∧ q ≠ pf
  boxg : w.heap[pg]? = some (.cells #[.slice Ag N cg] 39 (0, 0))
  boxi : w.heap[pi]? = some (.cells #[.slice (some ⟨bi, 0, none⟩) N N] 48 (0, 0))
  boxb : w.heap[pb]? = some (.cells #[.slice (some ⟨bb, 0, none⟩) N N] 48 (0, 0))
  boxf : w.heap[pf]? = some (.cells #[.slice Af N cf] 22 (0, 0))
  full : Full os N
  fulle : Full osb N
  lenG : G.length = N
  lenF : F.length = N
  lenE : E.length = N
  low : base ≤ w.heap.size
/-- A range over a set that nothing turns. -/
structure RngB (w wr : World) (b r n : Nat) (D : DataW Unit) (l ds : List Int) (left : Lit → Bool) (cnt : Nat) : Prop where
  rng : wr.ranges Try.prog 3 unitElem b r n D left cnt
  left_ : LeftK left l ds
  grown : w.grownBy wr none
  new : w.heap.size ≤ r
section
variable {w wr w4 : World} {b r n : Nat} {D : DataW Unit} {l ds : List Int} {left : Lit → Bool} {cnt cnt' : Nat} {x : Int}
theorem RngB.next (h : RngB w wr b r n D l ds left cnt) (hr : w4.ranges Try.prog 3 unitElem b r n D (fun z => left z && !z.sameKey (.int .i64 x)) cnt') (hg : wr.grownBy w4 (some r)) :
    RngB w w4 b r n D l (ds ++ [x]) (fun z => left z && !z.sameKey (.int .i64 x)) cnt' := by
  have hn := h.new
  refine ⟨hr, h.left_.step, ?_, hn⟩
  exact h.grown.andThen hg fun j hj => .inl (by injection hj with hj; omega)
theorem RngB.step (h : RngB w wr b r n D l ds left cnt) (hb : Below wr.heap.size wr w4) : RngB w w4 b r n D l ds left cnt := by
  have hg : wr.grownBy w4 none := ⟨hb.os, hb.tape, hb.output, hb.size, fun i hi _ => hb.block i hi⟩
  exact ⟨h.rng.kept hg (by simp) (by simp), h.left_, grown_trans h.grown hg, h.new⟩
theorem RngB.below (h : RngB w wr b r n D l ds left cnt) : Below w.heap.size w wr := (Below.refl _ _).grown h.grown (Nat.le_refl _) (fun k hk => by cases hk)
end
theorem LeftK.all {left : Lit → Bool} {lf ds : List Int} (h : LeftK left lf ds) (h0 : ∀ kl, left kl = false) (hw : ∀ x ∈ lf, I64w x) : ∀ x ∈ lf, x ∈ ds := by
  intro x hx
  have h1 := h x (hw x hx)
  rw [h0] at h1
  have h2 := of_decide_eq_false h1.symm
  by_cases hd : x ∈ ds
  · exact hd
  · exact absurd ⟨hx, hd⟩ h2
theorem InS.atq {base bi : Nat} {w W : World} {os : List (Option Nat)} {a : List (List Int)} (h : InS base w W bi os a) {i q : Nat} (hq : os[i]? = some (some q)) (hi : i < a.length) : MapL Try.prog 3 W q (a.getD i []) ∧ W.cell? ⟨bi, i, none⟩ = some (.map (some q)) := by
  have hl : a[i]? = some (a.getD i []) := by rw [List.getD_eq_getElem?_getD, List.getElem?_eq_getElem hi]; rfl
  refine ⟨?_, (h.v.cell hq).1⟩
  rcases (h.v.row i _ _ hq hl).1 with ⟨e, _⟩ | ⟨b, e, h1⟩
  · cases e
  · injection e with e; rw [e]; exact h1
theorem MapN.next {w w' : World} {o : Option Nat} {l : List Int} (h : MapN w o l) (hb : Below w.heap.size w w') : MapN w' o l := h.block fun q hq => hb.block q (h.lt hq)
set_option maxRecDepth 100000 in
set_option maxHeartbeats 4000000 in
theorem bwd1_any (base base2 N : Nat) (wg w : World) (pg pi pb pf bi bb : Nat) (os osb : List (Option Nat)) (Ag Af : Option Addr) (cg cf : Nat) (G F E uses ends : List (List Int)) (hF : BwdF base base2 N wg w pg pi pb pf bi bb os osb Ag Af cg cf G F E)
    (hG : Sol.Cln G) (hFe : F = Sol.befG G) (hE : E = setsOf N ends) (hU : uses.flatten.length ≤ 1048576) (hrF : ∀ l ∈ F, l.length ≤ 1048576) (a : List (List Int)) (i : Nat) (hi : i < N) (W : World) (hIn : InS base w W bi os a) (hinv : Sol.invB G uses ends a) :
    Calls Try.prog 37 #[.int .i64 i, .pointer (some ⟨pg, 0, none⟩), .pointer (some ⟨pi, 0, none⟩), .pointer (some ⟨pb, 0, none⟩), .pointer (some ⟨pf, 0, none⟩)] W (LookP base w.heap.size (fun a W => InS base w W bi os a) W (Sol.lookB G ends a i)) := by
  obtain ⟨i0, hi0, hz0, hz1, hz2⟩ := info_parts int_info
  obtain ⟨l, hl⟩ : ∃ l, G[i]? = some l := ⟨_, List.getElem?_eq_getElem (by rw [hF.lenG]; exact hi)⟩
  obtain ⟨l2, hl2⟩ : ∃ l, F[i]? = some l := ⟨_, List.getElem?_eq_getElem (by rw [hF.lenF]; exact hi)⟩
  have hrw := rowI_nat hl
  have hrw2 := rowI_nat hl2
  obtain ⟨bm, offm, c1, A2, c2, e, hbm, p20, hr⟩ := hF.g.row hl
  injection e with e1 e2 e3
  subst e1
  obtain ⟨bn, offn, c3, A4, c4, e, hbn, p40, hr2⟩ := hF.f.row hl2
  injection e with e4 e5 e6
  subst e4
  have hl220 := hrF l2 (List.mem_of_getElem? hl2)
  have hbgW : Below wg.heap.size wg W := hF.below.trans (hIn.bel.mono hF.gb)
  have cpg := hIn.cell hF.boxg (fun i q hq => (hF.hos i q hq).2.1)
  have p2 := (hbgW.cell (p := ⟨bm, offm + i, none⟩) hbm).trans p20
  obtain ⟨hll, hlm, hlc⟩ := hr.lenEq
  have hlow := hF.low
  have hgb := hF.gb
  have HF := Lib.hid hF
  have HG := Lib.hid hG
  have HE := Lib.hid hE
  have HIN := Lib.hid hIn
  have HINV := Lib.hid hinv
  have HR := Lib.hid hr
  have HR2 := Lib.hid hr2
  have HRW := Lib.hid hrw
  have HRW2 := Lib.hid hrw2
  have HU := Lib.hid hU
  have HFE := Lib.hid hFe
  have P40 := Lib.hid p40
  have HGL : Hid (∀ y ∈ l, Sol.InR N y) := Lib.hid fun y hy => by rw [← hF.lenG]; exact hG i y (hrw.symm ▸ hy)
  have HA0 : Hid (a.length = N) := Lib.hid (by rw [hinv.1.len, hF.lenG])
  have HIR : Hid (Sol.InR G.length (i : Int)) := Lib.hid (by unfold Sol.InR; rw [hF.lenG]; omega)
  clear hF hG hE hIn hinv hr hr2 hrw hrw2 hU hFe p40 p20 e2 e3 e5 e6 hl hl2 hrF hll hbgW
  have hA1 := cell_alloc_if
  have hA2 := frozen_alloc_if
  have hA3 := cell_set_if
  go_enter Try.func37, Try.ntmps37
  go_wp2
  go_loopw [22] (fun v wr => ∃ (j : Nat) (a5 : List (List Int)), j ≤ l.length ∧ v = .int .i64 j ∧ Hid (InS base w wr bi os a5) ∧ Hid ((l.take j).foldl (Sol.stepIn ends i) a = a5) ∧ Below base W wr ∧ Hid (∀ b, w.heap.size ≤ b → b < W.heap.size → wr.heap[b]? = W.heap[b]?)) (fun v _ => l.length - (intOf v).toNat)
  case atStart => exact ⟨0, a, by omega, rfl, HIN, Lib.hid rfl, Below.refl _ _, Lib.hid fun _ _ _ => rfl⟩
  case round =>
    clear HIN p2 cpg
    obtain ⟨j, a5, hj, rfl, HIN, HFO, hXb, HKP⟩ := hrel
    have hXz := hXb.size
    have HI5 : Hid (Sol.Inv N (Sol.InB G uses ends) uses.flatten a5) := Lib.hid (by
      have h := (Sol.stepsIn_grow HG.out HIR.out HINV.out.1 (l.take j) a (fun k hk => by rw [HRW.out]; exact List.mem_of_mem_take hk) .refl).1.inv HINV.out.1
      rw [HFO.out, HF.out.lenG] at h
      exact h)
    have HSM : Hid (∀ k, (a5.getD k []).length ≤ 1048576) := Lib.hid fun k => by
      cases h : a5[k]? with
      | none => rw [List.getD_eq_getElem?_getD, h]; simp
      | some l' =>
        have := (Small.of_inv HI5.out).len h
        rw [List.getD_eq_getElem?_getD, h]
        exact Nat.le_trans this HU.out
    have hbg : Below wg.heap.size wg wr := HF.out.below.trans (HIN.out.bel.mono HF.out.gb)
    have cpi := HIN.out.cell HF.out.boxi (fun i q hq => (HF.out.hos i q hq).2.2.1)
    have cpb := HIN.out.cell HF.out.boxb (fun i q hq => (HF.out.hos i q hq).2.2.2.1)
    obtain ⟨qi, hqi, hmi, hqb, hqlt, ci⟩ := HIN.out.at_ HF.out.full HI5.out.len hi
    by_cases hlt : j < l.length
    · obtain ⟨y, hy⟩ : ∃ y, l[j]? = some y := ⟨_, List.getElem?_eq_getElem hlt⟩
      have hyr := HGL.out y (List.mem_of_getElem? hy)
      unfold Sol.InR at hyr
      obtain ⟨yN, rfl⟩ : ∃ k : Nat, y = (k : Int) := ⟨y.toNat, by omega⟩
      have hyN : yN < N := by omega
      obtain ⟨b3, off3, e3, _, hb3, p3⟩ := (HR.out.next hbg).intAt hy
      obtain ⟨qk, hqk, hmk, _, _, ck⟩ := HIN.out.at_ HF.out.full HI5.out.len hyN
      obtain ⟨o, hoi, hmo, hob, co⟩ := (HIN.out.other HF.out.e (fun i q hq => (HF.out.hos i q hq).1)).at_ HF.out.fulle HF.out.lenE hi
      have HP := Lib.hid (pass_go qi qk o (a5.getD i []) (a5.getD yN []) (E.getD i []) wr.drew (hmi.next (by (repeat' (first | (with_reducible exact Below.refl _ _) | (with_reducible assumption) | (with_reducible refine Below.setCell ?_ ?_ _) | (with_reducible refine Below.alloc ?_ ?_ _) | (with_reducible refine Below.drew ?_) | (with_reducible refine below_drewN ?_ _) | (with_reducible refine below_next ?_ (by with_reducible assumption)) | omega | (dsimp only; omega) | (simp only [World.size_alloc, World.size_setCell, World.size_drew, World.heap_drewN]; omega))))) (hmk.next (by (repeat' (first | (with_reducible exact Below.refl _ _) | (with_reducible assumption) | (with_reducible refine Below.setCell ?_ ?_ _) | (with_reducible refine Below.alloc ?_ ?_ _) | (with_reducible refine Below.drew ?_) | (with_reducible refine below_drewN ?_ _) | (with_reducible refine below_next ?_ (by with_reducible assumption)) | omega | (dsimp only; omega) | (simp only [World.size_alloc, World.size_setCell, World.size_drew, World.heap_drewN]; omega))))) (hmo.block fun _ _ => rfl) (fun e => by rw [HIN.out.v.apart i yN qi hqi (e ▸ hqk)]) (fun e => by have := hob qi e; have := (HF.out.hos i qi hqi).1; omega) (HSM.out i) (HSM.out yN))
      have HQI := Lib.hid hqi
      have HQK := Lib.hid hqk
      have HOI := Lib.hid hoi
      have HFO2 : Hid ((l.take (j + 1)).foldl (Sol.stepIn ends i) a = Sol.stepIn ends i a5 yN) := Lib.hid (by rw [take_step hy, List.foldl_append, HFO.out]; rfl)
      subst e3
      clear hqi hmi hqk hmk hmo hob hoi hy hyr HFO HI5 HSM
      go_wp2
      refine wp_region_held_drew (S := fun W => W.cell? ⟨pi, 0, none⟩ = some (.slice (some ⟨bi, 0, none⟩) N N) ∧ W.cell? ⟨pb, 0, none⟩ = some (.slice (some ⟨bb, 0, none⟩) N N) ∧ W.cell? ⟨bi, i, none⟩ = some (.map (some qi)) ∧ W.cell? ⟨bi, yN, none⟩ = some (.map (some qk)) ∧ W.cell? ⟨bb, i, none⟩ = some (.map o)) (by kernel_rfl) ⟨cpi, cpb, ci, ck, co⟩ (fun hHeld => ?_)
      refine takeR (i := 0) (some 26) (v := ?_) rfl rfl (by kernel_rfl) (by kernel_rfl) (by kernel_rfl) (fun _ _ _ h => h) (Or.inl ⟨by rfl, ?_⟩) (by assumption) ?_
      rotate_left
      (focus (intro Wx hSw; (try dsimp only at hSw); obtain ⟨s1, s2, s3, s4, s5⟩ := hSw; go_simp; (try with_reducible rfl)))
      (try simp only [Act.put, List.setIfInBounds_toArray, List.set_cons_zero, List.set_cons_succ])
      refine takeR (i := 1) (some 27) (v := ?_) rfl rfl (by kernel_rfl) (by kernel_rfl) (by kernel_rfl) (fun _ _ _ h => h) (Or.inl ⟨by rfl, ?_⟩) (by assumption) ?_
      rotate_left
      (focus (intro Wx hSw; (try dsimp only at hSw); obtain ⟨s1, s2, s3, s4, s5⟩ := hSw; go_simp; (try with_reducible rfl)))
      (try simp only [Act.put, List.setIfInBounds_toArray, List.set_cons_zero, List.set_cons_succ])
      refine takeR (i := 2) (some 28) (v := ?_) rfl rfl (by kernel_rfl) (by kernel_rfl) (by kernel_rfl) (fun _ _ _ h => h) (Or.inl ⟨by rfl, ?_⟩) (by assumption) ?_
      rotate_left
      (focus (intro Wx hSw; (try dsimp only at hSw); obtain ⟨s1, s2, s3, s4, s5⟩ := hSw; go_simp; (try with_reducible rfl)))
      (try simp only [Act.put, List.setIfInBounds_toArray, List.set_cons_zero, List.set_cons_succ])
      refine takeR (i := 3) (some 29) (v := ?_) rfl rfl (by kernel_rfl) (by kernel_rfl) (by kernel_rfl) (fun _ _ _ h => h) (Or.inl ⟨by rfl, ?_⟩) (by assumption) ?_
      rotate_left
      (focus (intro Wx hSw; (try dsimp only at hSw); obtain ⟨s1, s2, s3, s4, s5⟩ := hSw; go_simp; (try with_reducible rfl)))
      (try simp only [Act.put, List.setIfInBounds_toArray, List.set_cons_zero, List.set_cons_succ])
      refine takeR (i := 4) (some 30) (v := ?_) rfl rfl (by kernel_rfl) (by kernel_rfl) (by kernel_rfl) (fun _ _ _ h => h) (Or.inl ⟨by rfl, ?_⟩) (by assumption) ?_
      rotate_left
      (focus (intro Wx hSw; (try dsimp only at hSw); obtain ⟨s1, s2, s3, s4, s5⟩ := hSw; go_simp; (try with_reducible rfl)))
      (try simp only [Act.put, List.setIfInBounds_toArray, List.set_cons_zero, List.set_cons_succ])
      refine takeR (i := 5) (some 31) (v := ?_) rfl rfl (by kernel_rfl) (by kernel_rfl) (by kernel_rfl) (fun _ _ _ h => h) (Or.inl ⟨by rfl, ?_⟩) (by assumption) ?_
      rotate_left
      (focus (intro Wx hSw; (try dsimp only at hSw); obtain ⟨s1, s2, s3, s4, s5⟩ := hSw; go_simp; (try with_reducible rfl)))
      (try simp only [Act.put, List.setIfInBounds_toArray, List.set_cons_zero, List.set_cons_succ])
      refine takeR (i := 6) (some 32) (v := ?_) rfl rfl (by kernel_rfl) (by kernel_rfl) (by kernel_rfl) (fun _ _ _ h => h) (Or.inl ⟨by rfl, ?_⟩) (by assumption) ?_
      rotate_left
      (focus (intro Wx hSw; (try dsimp only at hSw); obtain ⟨s1, s2, s3, s4, s5⟩ := hSw; go_simp; (try with_reducible rfl)))
      (try simp only [Act.put, List.setIfInBounds_toArray, List.set_cons_zero, List.set_cons_succ])
      refine takeR (i := 7) (some 33) (v := ?_) rfl rfl (by kernel_rfl) (by kernel_rfl) (by kernel_rfl) (fun _ _ _ h => h) (Or.inl ⟨by rfl, ?_⟩) (by assumption) ?_
      rotate_left
      (focus (intro Wx hSw; (try dsimp only at hSw); obtain ⟨s1, s2, s3, s4, s5⟩ := hSw; go_simp; (try with_reducible rfl)))
      (try simp only [Act.put, List.setIfInBounds_toArray, List.set_cons_zero, List.set_cons_succ])
      refine takeR (i := 8) (some 34) (v := ?_) rfl rfl (by kernel_rfl) (by kernel_rfl) (by kernel_rfl) (fun _ _ _ h => h) (Or.inl ⟨by rfl, ?_⟩) (by assumption) ?_
      rotate_left
      (focus (intro Wx hSw; (try dsimp only at hSw); obtain ⟨s1, s2, s3, s4, s5⟩ := hSw; go_simp; (try with_reducible rfl)))
      (try simp only [Act.put, List.setIfInBounds_toArray, List.set_cons_zero, List.set_cons_succ])
      refine takeR (i := 9) (some 35) (v := ?_) rfl rfl (by kernel_rfl) (by kernel_rfl) (by kernel_rfl) (fun _ _ _ h => h) (Or.inl ⟨by rfl, ?_⟩) (by assumption) ?_
      rotate_left
      (focus (intro Wx hSw; (try dsimp only at hSw); obtain ⟨s1, s2, s3, s4, s5⟩ := hSw; go_simp; (try with_reducible rfl)))
      (try simp only [Act.put, List.setIfInBounds_toArray, List.set_cons_zero, List.set_cons_succ])
      refine takeR (i := 10) (some 36) (v := ?_) rfl rfl (by kernel_rfl) (by kernel_rfl) (by kernel_rfl) (fun _ _ _ h => h) (Or.inl ⟨by rfl, ?_⟩) (by assumption) ?_
      rotate_left
      (focus (intro Wx hSw; (try dsimp only at hSw); obtain ⟨s1, s2, s3, s4, s5⟩ := hSw; go_simp; (try with_reducible rfl)))
      (try simp only [Act.put, List.setIfInBounds_toArray, List.set_cons_zero, List.set_cons_succ])
      refine takeR (i := 11) (some 37) (v := ?_) rfl rfl (by kernel_rfl) (by kernel_rfl) (by kernel_rfl) (fun _ _ _ h => h) (Or.inl ⟨by rfl, ?_⟩) (by assumption) ?_
      rotate_left
      (focus (intro Wx hSw; (try dsimp only at hSw); obtain ⟨s1, s2, s3, s4, s5⟩ := hSw; go_simp; (try with_reducible rfl)))
      (try simp only [Act.put, List.setIfInBounds_toArray, List.set_cons_zero, List.set_cons_succ])
      refine wpAnyH_ready (rs := [12]) (by kernel_rfl) (by simp) ?_
      refine AllReadyH.cons rfl (fun K hK => ?_) AllReadyH.nil
      go_simp
      (go_at_call 38; (with_reducible refine HP.out.mono ?_); rintro e w7 ⟨rfl, hm7, hg7⟩)
      have HI7 : Hid (InS base w w7 bi os (Sol.stepIn ends i a5 yN)) := Lib.hid (by
        have h := (HIN.out.next hlow (W' := wr.drew) (by (repeat' (first | (with_reducible exact Below.refl _ _) | (with_reducible assumption) | (with_reducible refine Below.setCell ?_ ?_ _) | (with_reducible refine Below.alloc ?_ ?_ _) | (with_reducible refine Below.drew ?_) | (with_reducible refine below_drewN ?_ _) | (with_reducible refine below_next ?_ (by with_reducible assumption)) | omega | (dsimp only; omega) | (simp only [World.size_alloc, World.size_setCell, World.size_drew, World.heap_drewN]; omega))))).turn hlow HQI.out hg7 hm7
        unfold Sol.stepIn
        rw [Int.toNat_natCast, Int.toNat_natCast, ← passL_congr (b1 := E.getD i []) (fun x => by rw [HE.out]; exact mem_setsOf hi x)]
        exact h)
      have hbw7 : Below base W w7 := hXb.trans (Below.trans (b := wr.drew) (by (repeat' (first | (with_reducible exact Below.refl _ _) | (with_reducible assumption) | (with_reducible refine Below.setCell ?_ ?_ _) | (with_reducible refine Below.alloc ?_ ?_ _) | (with_reducible refine Below.drew ?_) | (with_reducible refine below_drewN ?_ _) | (with_reducible refine below_next ?_ (by with_reducible assumption)) | omega | (dsimp only; omega) | (simp only [World.size_alloc, World.size_setCell, World.size_drew, World.heap_drewN]; omega)))) ((Below.refl _ _).grown hg7 (by show base ≤ wr.heap.size; have := HIN.out.bel.size; omega) (fun q hq => by injection hq with hq; omega)))
      have HK7 : Hid (∀ b, w.heap.size ≤ b → b < W.heap.size → w7.heap[b]? = W.heap[b]?) := Lib.hid fun b h1 h2 => (hg7.block b (by show b < wr.heap.size; omega) (by intro e; injection e with e; omega)).trans (HKP.out b h1 h2)
      clear hm7 hg7
      refine hK.out _ _ ⟨HI7.out.cell HF.out.boxi (fun i q hq => (HF.out.hos i q hq).2.2.1), HI7.out.cell HF.out.boxb (fun i q hq => (HF.out.hos i q hq).2.2.2.1), (HI7.out.v.cell HQI.out).1, (HI7.out.v.cell HQK.out).1, ((HI7.out.other HF.out.e (fun i q hq => (HF.out.hos i q hq).1)).cell HOI.out).1⟩ (fun hHeld => ?_)
      (try simp only [Act.put, List.setIfInBounds_toArray, List.set_cons_zero, List.set_cons_succ])
      refine wpAnyH_done (by kernel_rfl) ?_ _
      go_wp2
      go_roundw
      case rel => exact ⟨j + 1, _, by omega, by go_num, HI7, HFO2, hbw7, HK7⟩
      case measure => simp [intOf]; omega
    · obtain rfl : j = l.length := by omega
      have HAL : Hid (Sol.lookB G ends a i = (a5, l2.filter (Sol.againB ends a5 i))) := Lib.hid (by
        have h := HFO.out
        rw [List.take_length] at h
        unfold Sol.lookB
        rw [HRW.out, h, ← HFE.out, HRW2.out])
      have p4 := (hbg.cell (p := ⟨bn, offn + i, none⟩) hbn).trans P40.out
      have cpf := HIN.out.cell HF.out.boxf (fun i q hq => (HF.out.hos i q hq).2.2.2.2)
      obtain ⟨_, hl2m, hl2c⟩ := HR2.out.lenEq
      have HQI := Lib.hid hqi
      have HLI := Lib.hid HI5.out.len
      clear HFO cpi cpb hmi hqi ci HI5 P40
      go_wp2
      obtain ⟨w5, rfl⟩ : ∃ w5, w5 = wr := ⟨_, rfl⟩
      have hz5 : w.heap.size ≤ w5.heap.size := HIN.out.bel.size
      go_loopw [9, 45] (fun v9 v wr => ∃ (j : Nat) (A9 : Option Addr) (c9 : Nat) (ks : List Int), j ≤ l2.length ∧ v = .int .i64 j ∧ v9 = .slice A9 ks.length c9 ∧ ks.length ≤ j ∧ Below w5.heap.size w5 wr ∧ Hid (OwnL 3 intC 1 w5.heap.size wr (.slice A9 ks.length c9) ks) ∧ Hid ((l2.take j).filter (Sol.againB ends a5 i) = ks)) (fun _ v _ => l2.length - (intOf v).toNat)
      case atStart => exact ⟨0, none, 0, [], by omega, rfl, rfl, by simp, Below.refl _ _, Lib.hid (OwnL.nil _ _ _ _ _), Lib.hid (by simp)⟩
      case round =>
        clear p4 cpf
        obtain ⟨j, A9, c9, ks, hj, rfl, rfl, hkj, hYb, HOW, HKS⟩ := hrel
        have hYz := hYb.size
        have HI := Lib.hid (HIN.out.next hlow (hYb.mono hz5))
        by_cases hlt : j < l2.length
        · obtain ⟨y, hy⟩ : ∃ y, l2[j]? = some y := ⟨_, List.getElem?_eq_getElem hlt⟩
          have hyr : Sol.InR N y := by
            have h1 : y ∈ Sol.rowI (Sol.befG G) (i : Int) := by rw [← HFE.out, HRW2.out]; exact List.mem_of_getElem? hy
            have h2 := ((Sol.mem_bef HIR.out).1 h1).1
            rwa [HF.out.lenG] at h2
          unfold Sol.InR at hyr
          obtain ⟨yN, rfl⟩ : ∃ k : Nat, y = (k : Int) := ⟨y.toNat, by omega⟩
          have hyN : yN < N := by omega
          obtain ⟨b3, off3, e3, _, hb3, p3⟩ := (HR2.out.next (hbg.trans (hYb.mono (by have := HF.out.below.size; have := HIN.out.bel.size; omega)))).intAt hy
          have hstep := filter_step (Sol.againB ends a5 i) hy
          rw [HKS.out] at hstep
          have HST := Lib.hid hstep
          have cpi := HI.out.cell HF.out.boxi (fun i q hq => (HF.out.hos i q hq).2.2.1)
          have cpb := HI.out.cell HF.out.boxb (fun i q hq => (HF.out.hos i q hq).2.2.2.1)
          obtain ⟨hmi, ci⟩ := HI.out.atq HQI.out (by rw [HLI.out]; exact hi)
          obtain ⟨qy, hqy, hmy, _, hqylt, cy⟩ := HI.out.at_ HF.out.full HLI.out hyN
          obtain ⟨oy, hoy, hmo, hob, co⟩ := (HI.out.other HF.out.e (fun i q hq => (HF.out.hos i q hq).1)).at_ HF.out.fulle HF.out.lenE hyN
          have hag : Sol.againB ends a5 (i : Int) (yN : Int) = true ↔ ∃ x ∈ a5.getD i [], x ∉ E.getD yN [] ∧ x ∉ a5.getD yN [] := by
            rw [Sol.mem_again, Int.toNat_natCast, Int.toNat_natCast]
            constructor <;> rintro ⟨x, h1, h2, h3⟩ <;> refine ⟨x, h1, ?_, h3⟩
            · rw [HE.out, mem_setsOf hyN]; exact h2
            · rw [HE.out, mem_setsOf hyN] at h2; exact h2
          have HMY : Hid (MapN wr (some qy) (a5.getD yN [])) := Lib.hid (.inr ⟨qy, rfl, hmy⟩)
          have HMO := Lib.hid hmo
          have HAG := Lib.hid hag
          obtain ⟨lf, hlf⟩ : ∃ lf, lf = a5.getD i [] := ⟨_, rfl⟩
          obtain ⟨ay, hay⟩ : ∃ ay, ay = a5.getD yN [] := ⟨_, rfl⟩
          obtain ⟨ey, hey⟩ : ∃ ey, ey = E.getD yN [] := ⟨_, rfl⟩
          rw [← hlf] at hmi HAG
          rw [← hay] at HMY HAG
          rw [← hey] at HMO HAG
          have HFW := Lib.hid hmi.wf
          obtain ⟨D, hD, _, _, _, hDh⟩ := hmi
          have HD := Lib.hid hD
          have HDH := Lib.hid hDh
          have HKY := Lib.hid (int_keyed (P := Try.prog) (k := 3) Try.underlying3)
          have hn1 : pi < wr.heap.size := by have := (Array.getElem?_eq_some_iff.1 HF.out.boxi).1; omega
          have hn2 : pb < wr.heap.size := by have := (Array.getElem?_eq_some_iff.1 HF.out.boxb).1; omega
          have hn3 : bi < wr.heap.size := by have := HIN.out.blo; omega
          have hn4 : bb < wr.heap.size := by have := HF.out.e.lt; omega
          have hqlt : qi < wr.heap.size := by have := HIN.out.low i qi HQI.out; omega
          subst e3
          clear hstep hy hyr hmy hmo hob hoy hqy hlf hay hey hD hDh hag HSM
          go_wp2_with (at_range; refine wpList_range_own _ rfl _ 52 rfl 3 54 HKY.out Try.underlying52 unitElem qi lf.length D rfl HD.out ?_; intro w1 hrg hg1 hz1; go_frame)
          obtain ⟨w6, rfl⟩ : ∃ w6, w6 = wr := ⟨_, rfl⟩
          have HR0 : Hid (RngB w6 w1 qi w6.heap.size lf.length D lf [] (Maps.has D) (Maps.size D)) := Lib.hid ⟨hrg, fun j hj => by rw [HDH.out j hj]; simp, hg1, Nat.le_refl _⟩
          have HCS : Hid (w6.cell? ⟨pi, 0, none⟩ = some (.slice (some ⟨bi, 0, none⟩) N N) ∧ w6.cell? ⟨pb, 0, none⟩ = some (.slice (some ⟨bb, 0, none⟩) N N) ∧ w6.cell? ⟨bi, yN, none⟩ = some (.map (some qy)) ∧ w6.cell? ⟨bb, yN, none⟩ = some (.map oy)) := Lib.hid ⟨cpi, cpb, cy, co⟩
          clear hrg hg1 hz1 HD HDH cpi cpb cy co ci p3
          go_loopw [9, 54] (fun v9 v wr => ∃ (ds : List Int) (left : Lit → Bool) (cnt : Nat), v9 = .slice A9 ks.length c9 ∧ Hid (RngB w6 wr qi w6.heap.size lf.length D lf ds left cnt) ∧ Hid (∀ x ∈ ds, x ∈ ey ∨ x ∈ ay)) (fun _ _ wr => wr.rangeLeft qi w6.heap.size)
          case atStart => exact ⟨[], _, _, rfl, HR0, Lib.hid (by simp)⟩
          case round =>
            clear HR0
            obtain ⟨ds, left, cnt, rfl, HR, HDS⟩ := hrel
            go_wp2_with (at_next; refine wpList_next_ranges _ rfl _ rfl 3 HKY.out unitElem (fun x : Int => .int .i64 x) (fun _ : Unit => .agg #[]) ?invK ?invV qi w6.heap.size lf.length D left cnt rfl HR.out.rng ?done ?more)
            case invK =>
              intro key kl hk
              obtain ⟨x, h1, _⟩ := keyOf_int_inv Try.underlying3 hk
              exact ⟨x, h1⟩
            case invV =>
              intro v y hv
              exact ⟨(), (unitElem_inv hv).1⟩
            case done =>
              intro h0 hall
              have hno : ∀ x ∈ lf, x ∈ ey ∨ x ∈ ay := fun x hx => HDS.out x (LeftK.all HR.out.left_ hall HFW.out x hx)
              have hfa : Sol.againB ends a5 (i : Int) (yN : Int) = false := by
                cases h : Sol.againB ends a5 (i : Int) (yN : Int) with
                | false => rfl
                | true =>
                  obtain ⟨x, h1, h2, h3⟩ := HAG.out.1 h
                  rcases hno x h1 with h4 | h4
                  · exact absurd h4 h2
                  · exact absurd h4 h3
              have HS2 : Hid ((l2.take (j + 1)).filter (Sol.againB ends a5 i) = ks) := Lib.hid (by rw [HST.out, hfa]; simp)
              have hbl := HR.out.below
              have hYb2 : Below w5.heap.size w5 wr := hYb.trans (hbl.mono hYz)
              have HOW2 := Lib.hid (HOW.out.next hbl)
              clear hall hno hfa hbl
              go_wp2
              go_roundw
              case rel => exact ⟨j + 1, A9, c9, ks, by omega, by go_num, rfl, by omega, hYb2, HOW2, HS2⟩
              case measure => simp [intOf]; omega
            case more =>
              intro x c kl y w4 cnt' hkey hleft _ _ hrg4 hcnt hg4 hz4 hent
              obtain ⟨x', e1, rfl, hxw⟩ := keyOf_int_inv Try.underlying3 hkey
              injection e1 with _ e1
              subst e1
              have hxl := HR.out.left_ x hxw
              rw [hleft] at hxl
              obtain ⟨hxf, hxd⟩ := of_decide_eq_true hxl.symm
              have HR4 := Lib.hid (HR.out.next hrg4 hg4)
              have hbl := HR4.out.below
              have hb5 : Below w6.heap.size w6 (w4.alloc (.cells #[] 54)) := hbl.alloc (by have := hbl.size; omega) _
              have hb6 : Below w6.heap.size w6 ((w4.alloc (.cells #[] 54)).alloc (.cells #[] 54)) := hb5.alloc (by have := hb5.size; omega) _
              have hlook := (HMO.out.next hbl).look hxw
              have hlook2 := (HMY.out.next hb5).look hxw
              have cpi := (hbl.cell (p := ⟨pi, 0, none⟩) hn1).trans HCS.out.1
              have cpb := (hbl.cell (p := ⟨pb, 0, none⟩) hn2).trans HCS.out.2.1
              have cy := (hbl.cell (p := ⟨bi, yN, none⟩) hn3).trans HCS.out.2.2.1
              have co := (hbl.cell (p := ⟨bb, yN, none⟩) hn4).trans HCS.out.2.2.2
              have hz46 := hbl.size
              have hcnt2 : cnt' < wr.rangeLeft qi w6.heap.size := by rw [HR.out.rng.left_eq]; exact hcnt
              have HXF := Lib.hid hxf
              have HR6 := Lib.hid (HR4.out.step (w4 := (w4.alloc (.cells #[] 54)).alloc (.cells #[] 54)) (by (repeat' (first | (with_reducible exact Below.refl _ _) | (with_reducible assumption) | (with_reducible refine Below.setCell ?_ ?_ _) | (with_reducible refine Below.alloc ?_ ?_ _) | (with_reducible refine Below.drew ?_) | (with_reducible refine below_drewN ?_ _) | (with_reducible refine below_next ?_ (by with_reducible assumption)) | omega | (dsimp only; omega) | (simp only [World.size_alloc, World.size_setCell, World.size_drew, World.heap_drewN]; omega)))))
              have hle := HR6.out.rng.left_eq
              clear hkey hleft hrg4 hg4 hz4 hxl hxd hcnt HR hxw hxf hb5
              by_cases hm : x ∈ ey
              · have HDS2 : Hid (∀ z ∈ ds ++ [x], z ∈ ey ∨ z ∈ ay) := Lib.hid fun z hz => by
                  rcases List.mem_append.1 hz with hz | hz
                  · exact HDS.out z hz
                  · rw [List.mem_singleton] at hz; exact .inl (hz ▸ hm)
                rw [memB_yes hm] at hlook
                by_cases hm2 : x ∈ ay
                · rw [memB_yes hm2] at hlook2
                  clear hm hm2
                  go_wp2
                  go_roundw
                  case rel => exact ⟨_, _, _, rfl, HR6, HDS2⟩
                  case measure => rw [hle]; exact hcnt2
                · rw [memB_no hm2] at hlook2
                  clear hm hm2
                  go_wp2
                  go_roundw
                  case rel => exact ⟨_, _, _, rfl, HR6, HDS2⟩
                  case measure => rw [hle]; exact hcnt2
              · rw [memB_no hm] at hlook
                by_cases hm2 : x ∈ ay
                · have HDS2 : Hid (∀ z ∈ ds ++ [x], z ∈ ey ∨ z ∈ ay) := Lib.hid fun z hz => by
                    rcases List.mem_append.1 hz with hz | hz
                    · exact HDS.out z hz
                    · rw [List.mem_singleton] at hz; exact .inr (hz ▸ hm2)
                  rw [memB_yes hm2] at hlook2
                  clear hm hm2
                  go_wp2
                  go_roundw
                  case rel => exact ⟨_, _, _, rfl, HR6, HDS2⟩
                  case measure => rw [hle]; exact hcnt2
                · have htr : Sol.againB ends a5 (i : Int) (yN : Int) = true := HAG.out.2 ⟨x, HXF.out, hm, hm2⟩
                  have HS2 : Hid ((l2.take (j + 1)).filter (Sol.againB ends a5 i) = ks ++ [(yN : Int)]) := Lib.hid (by rw [HST.out, htr]; rfl)
                  rw [memB_no hm2] at hlook2
                  clear hm hm2 htr
                  go_wp2_with (at_builtin; refine wpList_app (e := 3) (f := intC) rfl _ _ 28 rfl w5.heap.size i0 _ 8 Try.underlying28 hi0 hz0 hz1 hz2 rfl (by decide) intC_len (.slice A9 ks.length c9) ks rfl ?c0 _ 1 _ [(yN : Int)] rfl ?c1 (intC_one _) (by decide) ?c2 ?c3 ?_)
                  case c0 => exact HOW.out.next (by (repeat' (first | (with_reducible exact Below.refl _ _) | (with_reducible assumption) | (with_reducible refine Below.setCell ?_ ?_ _) | (with_reducible refine Below.alloc ?_ ?_ _) | (with_reducible refine Below.drew ?_) | (with_reducible refine below_drewN ?_ _) | (with_reducible refine below_next ?_ (by with_reducible assumption)) | omega | (dsimp only; omega) | (simp only [World.size_alloc, World.size_setCell, World.size_drew, World.heap_drewN]; omega))))
                  case c1 =>
                    have h := own_one ((w4.alloc (.cells #[] 54)).alloc (.cells #[] 54)) 3 (yN : Int)
                    simp only [World.size_alloc] at h
                    exact h
                  case c2 => first | omega | (simp; omega)
                  case c3 => first | omega | (simp; omega)
                  intro A7 c7 w7 hown hg hB hor
                  have HOW2 := Lib.hid hown
                  have hYb2 : Below w5.heap.size w5 w7 := hYb.trans ((hb6.mono hYz).trans (Below.trans ((Below.refl _ _).alloc (by simp; omega) _) hB))
                  clear hown hg hB hor
                  go_wp2
                  go_roundw
                  case rel => exact ⟨j + 1, A7, c7, ks ++ [(yN : Int)], by omega, by go_num, by simp, by simp; omega, hYb2, by simpa using HOW2, HS2⟩
                  case measure => simp [intOf]; omega
        · obtain rfl : j = l2.length := by omega
          have HE2 : Hid (Sol.lookB G ends a i = (a5, ks)) := Lib.hid (by
            have h := HKS.out
            rw [List.take_length] at h
            rw [HAL.out, h])
          clear HKS
          go_wp2
          go_ret
          rw [HE2.out]
          exact ⟨_, _, rfl, HOW.out.lower (by omega), HI.out, hXb.trans (hYb.mono (by omega)), fun b h1 h2 => (hYb.block b (by omega)).trans (HKP.out b h1 h2)⟩
end Go.Proofs.Ytadcjmfednachaa
