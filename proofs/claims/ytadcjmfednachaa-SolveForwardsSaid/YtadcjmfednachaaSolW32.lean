/-
  Forward's closure: it looks at a node.
-/
import Derived.Test.YtadcjmfednachaaSolW31
namespace Go.Proofs.Ytadcjmfednachaa
open Go.RowKit Go.Maps Go.WideShapes Go.ChangeShapes Go.Deep
set_option linter.unusedVariables false
set_option linter.unusedSimpArgs false

theorem passL_ge (but : List Int) : ∀ (xs c : List Int), c.length ≤ (Sol.passL but c xs).length
  | [], c => by rw [passL_nil]; exact Nat.le_refl _
  | x :: xs, c => by
    show c.length ≤ (Sol.passL but (if x ∈ but then c else Sol.addI c x) xs).length
    refine Nat.le_trans ?_ (passL_ge but xs _)
    split
    · exact Nat.le_refl _
    · rw [Sol.addI_length]; split <;> omega
theorem SetV.atM {base2 bb N : Nat} {W : World} {osb : List (Option Nat)} {ab : List (List Int)} (h : SetV base2 W bb osb ab) (hf : Full osb N) (hN : ab.length = N) {i : Nat} (hi : i < N) : ∃ q, osb[i]? = some (some q) ∧ MapL Try.prog 3 W q (ab.getD i []) ∧ base2 ≤ q ∧ W.cell? ⟨bb, i, none⟩ = some (.map (some q)) := by
  obtain ⟨q, hq⟩ := hf i hi
  have hl : ab[i]? = some (ab.getD i []) := by rw [List.getD_eq_getElem?_getD, List.getElem?_eq_getElem (by omega)]; rfl
  obtain ⟨h1, h2⟩ := h.row i _ _ hq hl
  refine ⟨q, hq, ?_, (h2 q rfl).1, (h.cell hq).1⟩
  rcases h1 with ⟨e, _⟩ | ⟨b, e, h1⟩
  · cases e
  · injection e with e; rw [e]; exact h1
/-- What the closure reads. -/
structure FwdF (base basem baseb N : Nat) (wg w : World) (pg pt pi pm pb bt bi bm bb : Nat) (os osm osb : List (Option Nat)) (Ag : Option Addr) (cg : Nat) (G E1 E : List (List Int)) (M : List Bool) : Prop where
  g : RdM wg (.slice Ag N cg) G
  t : BoolR 4 wg bt M
  below : Below wg.heap.size wg w
  gb : wg.heap.size ≤ base
  m : SetV basem w bm osm E1
  e : SetV baseb w bb osb E
  hos : ∀ (i q : Nat), os[i]? = some (some q) → q < basem ∧ q < baseb ∧ q ≠ pg ∧ q ≠ pt ∧ q ≠ pi ∧ q ≠ pm ∧ q ≠ pb
  boxg : w.heap[pg]? = some (.cells #[.slice Ag N cg] 39 (0, 0))
  boxt : w.heap[pt]? = some (.cells #[.slice (some ⟨bt, 0, none⟩) N N] 25 (0, 0))
  boxi : w.heap[pi]? = some (.cells #[.slice (some ⟨bi, 0, none⟩) N N] 48 (0, 0))
  boxm : w.heap[pm]? = some (.cells #[.slice (some ⟨bm, 0, none⟩) N N] 48 (0, 0))
  boxb : w.heap[pb]? = some (.cells #[.slice (some ⟨bb, 0, none⟩) N N] 48 (0, 0))
  full : Full os N
  fullm : Full osm N
  fulle : Full osb N
  lenG : G.length = N
  lenM : E1.length = N
  lenE : E.length = N
  lenT : M.length = N
  low : base ≤ w.heap.size
set_option maxRecDepth 100000 in
set_option maxHeartbeats 4000000 in
theorem fwd1_any (base basem baseb N : Nat) (wg w : World) (pg pt pi pm pb bt bi bm bb : Nat) (os osm osb : List (Option Nat)) (Ag : Option Addr) (cg : Nat) (G E1 E makes ends : List (List Int)) (en : Int) (start : List Int) (hF : FwdF base basem baseb N wg w pg pt pi pm pb bt bi bm bb os osm osb Ag cg G E1 E (Sol.reachB G en))
    (hG : Sol.Cln G) (hE1 : E1 = setsOf N makes) (hE : E = setsOf N ends) (hU : (start ++ makes.flatten).length ≤ 524288) (hrM : ∀ k : Nat, (Sol.rowI makes k).length ≤ 524288) (hrG : ∀ l ∈ G, l.length ≤ 1048576) (a : List (List Int)) (i : Nat) (hi : i < N) (W : World) (hIn : InS base w W bi os a) (hinv : Sol.invF G makes ends en start a) :
    Calls Try.prog 42 #[.int .i64 i, .pointer (some ⟨pg, 0, none⟩), .pointer (some ⟨pt, 0, none⟩), .pointer (some ⟨pi, 0, none⟩), .pointer (some ⟨pm, 0, none⟩), .pointer (some ⟨pb, 0, none⟩)] W (LookP base w.heap.size (fun a W => InS base w W bi os a) W (Sol.lookF G makes ends (Sol.reachB G en) a i)) := by
  obtain ⟨i0, hi0, hz0, hz1, hz2⟩ := info_parts int_info
  obtain ⟨l, hl⟩ : ∃ l, G[i]? = some l := ⟨_, List.getElem?_eq_getElem (by rw [hF.lenG]; exact hi)⟩
  have hrw := rowI_nat hl
  have hl20 := hrG l (List.mem_of_getElem? hl)
  obtain ⟨bg, offg, c1, A2, c2, e, hbm, p20, hr⟩ := hF.g.row hl
  injection e with e1 e2 e3
  subst e1
  have hbgW : Below wg.heap.size wg W := hF.below.trans (hIn.bel.mono hF.gb)
  have cpg := hIn.cell hF.boxg (fun i q hq => (hF.hos i q hq).2.2.1)
  have p2 := (hbgW.cell (p := ⟨bg, offg + i, none⟩) hbm).trans p20
  obtain ⟨hll, hlm, hlc⟩ := hr.lenEq
  have hlow := hF.low
  have hgb := hF.gb
  obtain ⟨met, hmet⟩ : ∃ b, b = (Sol.reachB G en).getD i false := ⟨_, rfl⟩
  have ctt := (hF.t.at_ (i := i) (by rw [hF.lenT]; exact hi)).1
  rw [← hmet] at ctt
  have hbt := hF.t.lt
  have HF := Lib.hid hF
  have HG := Lib.hid hG
  have HE := Lib.hid hE
  have HE1 := Lib.hid hE1
  have HIN0 := Lib.hid hIn
  have HINV := Lib.hid hinv
  have HR := Lib.hid hr
  have HRW := Lib.hid hrw
  have HU := Lib.hid hU
  have HRM := Lib.hid hrM
  have HME := Lib.hid hmet
  have HCT := Lib.hid ctt
  have HGL : Hid (∀ y ∈ l, Sol.InR N y) := Lib.hid fun y hy => by rw [← hF.lenG]; exact hG i y (hrw.symm ▸ hy)
  have HIR : Hid (Sol.InR G.length (i : Int)) := Lib.hid (by unfold Sol.InR; rw [hF.lenG]; omega)
  clear hF hG hE hE1 hIn hinv hr hrw hU hrM hrG p20 e2 e3 hl hll hbgW hmet ctt
  have hA1 := cell_alloc_if
  have hA2 := frozen_alloc_if
  have hA3 := cell_set_if
  go_enter Try.func42, Try.ntmps42
  go_wp2
  go_loopw [8, 18] (fun v8 v wr => ∃ (j : Nat) (st : List (List Int) × List Int) (A8 : Option Addr) (c8 : Nat), j ≤ l.length ∧ v = .int .i64 j ∧ v8 = .slice A8 st.2.length c8 ∧ st.2.length ≤ j ∧ Hid (InS base w wr bi os st.1) ∧ Hid ((l.take j).foldl (Sol.lookFE makes ends (Sol.reachB G en) i) (a, []) = st) ∧ Below base W wr ∧ Hid (∀ b, w.heap.size ≤ b → b < W.heap.size → wr.heap[b]? = W.heap[b]?) ∧ Hid (OwnL 3 intC 1 W.heap.size wr (.slice A8 st.2.length c8) st.2)) (fun _ v _ => l.length - (intOf v).toNat)
  case atStart => exact ⟨0, (a, []), none, 0, by omega, rfl, rfl, by simp, HIN0, Lib.hid rfl, Below.refl _ _, Lib.hid fun _ _ _ => rfl, Lib.hid (OwnL.nil _ _ _ _ _)⟩
  case round =>
    have hWz := HIN0.out.bel.size
    clear HIN0 p2 cpg
    obtain ⟨j, ⟨a5, ks⟩, A8, c8, hj, rfl, rfl, hkj, HIN, HFO, hXb, HKP, HOW⟩ := hrel
    dsimp only at *
    have hXz := hXb.size
    by_cases hlt : j < l.length
    · have HI5 : Hid (Sol.Inv N (Sol.InF G en start makes ends) (start ++ makes.flatten) a5) := Lib.hid (by
        have h := (Sol.FStep.all HG.out HIR.out HINV.out (l.take j) [] (a, []) (fun k hk => by rw [HRW.out]; exact List.mem_of_mem_take hk) ⟨.refl, by simp, fun _ _ _ => rfl, .inl ⟨rfl, rfl⟩, fun _ _ _ k hk => by cases hk⟩).grow.inv HINV.out.1
        rw [HFO.out, HF.out.lenG] at h
        exact h)
      have hbg : Below wg.heap.size wg wr := HF.out.below.trans (HIN.out.bel.mono HF.out.gb)
      have cpt := HIN.out.cell HF.out.boxt (fun i q hq => (HF.out.hos i q hq).2.2.2.1)
      have ct := (hbg.cell (p := ⟨bt, i, none⟩) hbt).trans HCT.out
      obtain ⟨y, hy⟩ : ∃ y, l[j]? = some y := ⟨_, List.getElem?_eq_getElem hlt⟩
      have hyr := HGL.out y (List.mem_of_getElem? hy)
      unfold Sol.InR at hyr
      obtain ⟨yN, rfl⟩ : ∃ k : Nat, y = (k : Int) := ⟨y.toNat, by omega⟩
      have hyN : yN < N := by omega
      obtain ⟨b3, off3, e3, _, hb3, p3⟩ := (HR.out.next hbg).intAt hy
      have HST : Hid ((l.take (j + 1)).foldl (Sol.lookFE makes ends (Sol.reachB G en) i) (a, []) = Sol.lookFE makes ends (Sol.reachB G en) i (a5, ks) yN) := Lib.hid (by rw [take_step hy, List.foldl_append, HFO.out]; rfl)
      have HLE : Hid (Sol.lookFE makes ends (Sol.reachB G en) i (a5, ks) yN = if met = true then (Sol.goIn ends i (Sol.makeIn makes i a5 yN) yN, if (a5.getD yN []).length < ((Sol.goIn ends i (Sol.makeIn makes i a5 yN) yN).getD yN []).length then ks ++ [(yN : Int)] else ks) else (a5, ks)) := Lib.hid (by
        unfold Sol.lookFE
        rw [Int.toNat_natCast, Int.toNat_natCast, ← HME.out])
      subst e3
      cases met with
      | false =>
        have HST2 : Hid ((l.take (j + 1)).foldl (Sol.lookFE makes ends (Sol.reachB G en) i) (a, []) = (a5, ks)) := Lib.hid (by rw [HST.out, HLE.out]; rfl)
        clear HST HLE hy hyr HFO HI5
        go_wp2
        go_roundw
        case rel => exact ⟨j + 1, (a5, ks), A8, c8, by omega, by go_num, rfl, by dsimp only; omega, HIN, HST2, hXb, HKP, HOW⟩
        case measure => simp [intOf]; omega
      | true =>
        have hla : ∀ k, (a5.getD k []).length ≤ 524288 := fun k => by
          cases h : a5[k]? with
          | none => rw [List.getD_eq_getElem?_getD, h]; simp
          | some l' =>
            have := (Small.of_inv HI5.out).len h
            rw [List.getD_eq_getElem?_getD, h]
            exact Nat.le_trans this HU.out
        have hlm1 : (E1.getD i []).length ≤ 524288 := by
          rw [HE1.out]
          unfold setsOf
          rw [List.getD_eq_getElem?_getD, List.getElem?_map, List.getElem?_range hi, Option.map_some, Option.getD_some]
          have h1 := passL_len [] (Sol.rowI makes i) []
          have h2 := HRM.out i
          rw [List.length_nil] at h1
          omega
        have cpi := HIN.out.cell HF.out.boxi (fun i q hq => (HF.out.hos i q hq).2.2.2.2.1)
        have cpm := HIN.out.cell HF.out.boxm (fun i q hq => (HF.out.hos i q hq).2.2.2.2.2.1)
        have cpb := HIN.out.cell HF.out.boxb (fun i q hq => (HF.out.hos i q hq).2.2.2.2.2.2)
        obtain ⟨qi, hqi, _, _, hqil, ci⟩ := HIN.out.at_ HF.out.full HI5.out.len hi
        obtain ⟨qk, hqk, hmk, hqkb, hqkl, ck⟩ := HIN.out.at_ HF.out.full HI5.out.len hyN
        obtain ⟨qm, hqm, hmm, hqmb, cm⟩ := (HIN.out.other HF.out.m (fun i q hq => (HF.out.hos i q hq).1)).atM HF.out.fullm HF.out.lenM hi
        obtain ⟨o, hoi, hmo, hob, co⟩ := (HIN.out.other HF.out.e (fun i q hq => (HF.out.hos i q hq).2.1)).at_ HF.out.fulle HF.out.lenE hi
        have hqkm := (HF.out.hos yN qk hqk).1
        have hqke := (HF.out.hos yN qk hqk).2.1
        obtain ⟨a1, ha1⟩ : ∃ a1, a1 = Sol.makeIn makes i a5 yN := ⟨_, rfl⟩
        have ha1s : a1 = a5.set yN (Sol.passL [] (a5.getD yN []) (E1.getD i [])) := by
          rw [ha1]
          unfold Sol.makeIn
          rw [Int.toNat_natCast, Sol.passL_perm (ys := E1.getD i []) (HI5.out.rise yN hyN) (fun x => by rw [HE1.out]; exact (mem_setsOf hi x).symm)]
        have ha1l : a1.length = N := by rw [ha1s, List.length_set]; exact HI5.out.len
        have ha1k : a1.getD yN [] = Sol.passL [] (a5.getD yN []) (E1.getD i []) := by rw [ha1s, Sol.getD_set, if_pos ⟨rfl, by rw [HI5.out.len]; exact hyN⟩]
        have hl1 : ∀ k, (a1.getD k []).length ≤ 1048576 := fun k => by
          rw [ha1s, Sol.getD_set]
          split
          · have := passL_len [] (E1.getD i []) (a5.getD yN [])
            have := hla yN
            omega
          · have := hla k
            omega
        obtain ⟨a2, ha2⟩ : ∃ a2, a2 = Sol.goIn ends i a1 yN := ⟨_, rfl⟩
        have ha2s : a2 = a1.set yN (Sol.passL (E.getD i []) (a1.getD yN []) (a1.getD i [])) := by
          rw [ha2]
          unfold Sol.goIn
          rw [Int.toNat_natCast, Int.toNat_natCast, ← passL_congr (b1 := E.getD i []) (fun x => by rw [HE.out]; exact mem_setsOf hi x)]
        have ha2k : a2.getD yN [] = Sol.passL (E.getD i []) (a1.getD yN []) (a1.getD i []) := by rw [ha2s, Sol.getD_set, if_pos ⟨rfl, by rw [ha1l]; exact hyN⟩]
        have hge1 := passL_ge [] (E1.getD i []) (a5.getD yN [])
        have hge2 := passL_ge (E.getD i []) (a1.getD i []) (a1.getD yN [])
        have hp1 := pass_go qk qm none (a5.getD yN []) (E1.getD i []) [] wr.drew (hmk.next (by (repeat' (first | (with_reducible exact Below.refl _ _) | (with_reducible assumption) | (with_reducible refine Below.setCell ?_ ?_ _) | (with_reducible refine Below.alloc ?_ ?_ _) | (with_reducible refine Below.drew ?_) | (with_reducible refine below_drewN ?_ _) | (with_reducible refine below_next ?_ (by with_reducible assumption)) | omega | (dsimp only; omega) | (simp only [World.size_alloc, World.size_setCell, World.size_drew, World.heap_drewN]; omega))))) (hmm.next (by (repeat' (first | (with_reducible exact Below.refl _ _) | (with_reducible assumption) | (with_reducible refine Below.setCell ?_ ?_ _) | (with_reducible refine Below.alloc ?_ ?_ _) | (with_reducible refine Below.drew ?_) | (with_reducible refine below_drewN ?_ _) | (with_reducible refine below_next ?_ (by with_reducible assumption)) | omega | (dsimp only; omega) | (simp only [World.size_alloc, World.size_setCell, World.size_drew, World.heap_drewN]; omega))))) (.inl ⟨rfl, rfl⟩) (fun e => by omega) (by simp) (by have := hla yN; omega) (by omega)
        have hp2 : ∀ W' : World, InS base w W' bi os a1 → Calls Try.prog 38 #[.map (some qk), .map (some qi), .map o] W' (SetP W' qk (Sol.passL (E.getD i []) (a1.getD yN []) (a1.getD i [])) (decide ((a1.getD yN []).length < (Sol.passL (E.getD i []) (a1.getD yN []) (a1.getD i [])).length))) := fun W' h => by
          obtain ⟨m1, _⟩ := h.atq hqk (by rw [ha1l]; exact hyN)
          obtain ⟨m2, _⟩ := h.atq hqi (by rw [ha1l]; exact hi)
          obtain ⟨o', ho', hmo', _, _⟩ := (h.other HF.out.e (fun i q hq => (HF.out.hos i q hq).2.1)).at_ HF.out.fulle HF.out.lenE hi
          obtain rfl : o' = o := by rw [hoi] at ho'; exact (Option.some.inj ho').symm
          refine pass_go qk qi o' _ _ _ W' m1 m2 hmo' (fun e => ?_) (fun e => ?_) (hl1 yN) (hl1 i)
          · subst e
            rw [HIN.out.v.apart i yN qi hqi hqk]
          · have := hob qk e
            omega
        rw [← ha1k] at hp1 hge1
        rw [← ha2k] at hp2 hge2
        obtain ⟨one, hone⟩ : ∃ b, b = decide ((a5.getD yN []).length < (a1.getD yN []).length) := ⟨_, rfl⟩
        obtain ⟨two, htwo⟩ : ∃ b, b = decide ((a1.getD yN []).length < (a2.getD yN []).length) := ⟨_, rfl⟩
        have HTT : Hid (decide ((a5.getD yN []).length < (a2.getD yN []).length) = (one || two)) := Lib.hid (by
          rw [hone, htwo, ← Bool.decide_or]
          exact decide_eq_decide.2 ⟨fun h => by omega, fun h => by omega⟩)
        rw [← hone] at hp1
        rw [← htwo] at hp2
        have HLE2 : Hid (Sol.lookFE makes ends (Sol.reachB G en) i (a5, ks) yN = (a2, if (one || two) = true then ks ++ [(yN : Int)] else ks)) := Lib.hid (by
          rw [HLE.out, if_pos rfl, ← ha1, ← ha2, ← HTT.out]
          simp only [decide_eq_true_eq])
        have HP1 := Lib.hid hp1
        have HP2 := Lib.hid hp2
        have HA1S := Lib.hid ha1s
        have HA2S := Lib.hid ha2s
        have HA1K := Lib.hid ha1k
        have HA2K := Lib.hid ha2k
        have HQI := Lib.hid hqi
        have HQK := Lib.hid hqk
        have HQM := Lib.hid hqm
        have HOI := Lib.hid hoi
        have HSF : Hid (∀ (W' : World) (a' : List (List Int)), InS base w W' bi os a' → W'.cell? ⟨pi, 0, none⟩ = some (.slice (some ⟨bi, 0, none⟩) N N) ∧ W'.cell? ⟨pm, 0, none⟩ = some (.slice (some ⟨bm, 0, none⟩) N N) ∧ W'.cell? ⟨pb, 0, none⟩ = some (.slice (some ⟨bb, 0, none⟩) N N) ∧ W'.cell? ⟨bi, yN, none⟩ = some (.map (some qk)) ∧ W'.cell? ⟨bi, i, none⟩ = some (.map (some qi)) ∧ W'.cell? ⟨bm, i, none⟩ = some (.map (some qm)) ∧ W'.cell? ⟨bb, i, none⟩ = some (.map o)) := Lib.hid fun W' a' h =>
          ⟨h.cell HF.out.boxi (fun i q hq => (HF.out.hos i q hq).2.2.2.2.1), h.cell HF.out.boxm (fun i q hq => (HF.out.hos i q hq).2.2.2.2.2.1), h.cell HF.out.boxb (fun i q hq => (HF.out.hos i q hq).2.2.2.2.2.2), (h.v.cell HQK.out).1, (h.v.cell HQI.out).1, ((h.other HF.out.m (fun i q hq => (HF.out.hos i q hq).1)).cell HQM.out).1, ((h.other HF.out.e (fun i q hq => (HF.out.hos i q hq).2.1)).cell HOI.out).1⟩
        clear hp1 hp2 ha1s ha2s ha1k ha2k hqi hqk hqm hoi hone htwo hge1 hge2 hl1 hla hlm1 hmk hmm hmo hob ha1 ha2 HLE HFO HI5 hy hyr cpi cpm cpb ci ck cm co hqkm hqke hqmb ha1l
        go_wp2
        refine wp_region_held_drew (S := fun W => W.cell? ⟨pi, 0, none⟩ = some (.slice (some ⟨bi, 0, none⟩) N N) ∧ W.cell? ⟨pm, 0, none⟩ = some (.slice (some ⟨bm, 0, none⟩) N N) ∧ W.cell? ⟨pb, 0, none⟩ = some (.slice (some ⟨bb, 0, none⟩) N N) ∧ W.cell? ⟨bi, yN, none⟩ = some (.map (some qk)) ∧ W.cell? ⟨bi, i, none⟩ = some (.map (some qi)) ∧ W.cell? ⟨bm, i, none⟩ = some (.map (some qm)) ∧ W.cell? ⟨bb, i, none⟩ = some (.map o)) (by kernel_rfl) (HSF.out wr.drew a5 (HIN.out.next hlow (by (repeat' (first | (with_reducible exact Below.refl _ _) | (with_reducible assumption) | (with_reducible refine Below.setCell ?_ ?_ _) | (with_reducible refine Below.alloc ?_ ?_ _) | (with_reducible refine Below.drew ?_) | (with_reducible refine below_drewN ?_ _) | (with_reducible refine below_next ?_ (by with_reducible assumption)) | omega | (dsimp only; omega) | (simp only [World.size_alloc, World.size_setCell, World.size_drew, World.heap_drewN]; omega)))))) (fun hHeld => ?_)
        refine takeR (i := 0) (some 27) (v := ?_) rfl rfl (by kernel_rfl) (by kernel_rfl) (by kernel_rfl) (fun _ _ _ h => h) (Or.inl ⟨by rfl, ?_⟩) (by assumption) ?_
        rotate_left
        (focus (intro Wx hSw; (try dsimp only at hSw); obtain ⟨s1, s2, s3, s4, s5, s6, s7⟩ := hSw; go_simp; (try with_reducible rfl)))
        (try simp only [Act.put, List.setIfInBounds_toArray, List.set_cons_zero, List.set_cons_succ])
        refine takeR (i := 1) (some 28) (v := ?_) rfl rfl (by kernel_rfl) (by kernel_rfl) (by kernel_rfl) (fun _ _ _ h => h) (Or.inl ⟨by rfl, ?_⟩) (by assumption) ?_
        rotate_left
        (focus (intro Wx hSw; (try dsimp only at hSw); obtain ⟨s1, s2, s3, s4, s5, s6, s7⟩ := hSw; go_simp; (try with_reducible rfl)))
        (try simp only [Act.put, List.setIfInBounds_toArray, List.set_cons_zero, List.set_cons_succ])
        refine takeR (i := 2) (some 29) (v := ?_) rfl rfl (by kernel_rfl) (by kernel_rfl) (by kernel_rfl) (fun _ _ _ h => h) (Or.inl ⟨by rfl, ?_⟩) (by assumption) ?_
        rotate_left
        (focus (intro Wx hSw; (try dsimp only at hSw); obtain ⟨s1, s2, s3, s4, s5, s6, s7⟩ := hSw; go_simp; (try with_reducible rfl)))
        (try simp only [Act.put, List.setIfInBounds_toArray, List.set_cons_zero, List.set_cons_succ])
        refine takeR (i := 3) (some 30) (v := ?_) rfl rfl (by kernel_rfl) (by kernel_rfl) (by kernel_rfl) (fun _ _ _ h => h) (Or.inl ⟨by rfl, ?_⟩) (by assumption) ?_
        rotate_left
        (focus (intro Wx hSw; (try dsimp only at hSw); obtain ⟨s1, s2, s3, s4, s5, s6, s7⟩ := hSw; go_simp; (try with_reducible rfl)))
        (try simp only [Act.put, List.setIfInBounds_toArray, List.set_cons_zero, List.set_cons_succ])
        refine takeR (i := 4) (some 31) (v := ?_) rfl rfl (by kernel_rfl) (by kernel_rfl) (by kernel_rfl) (fun _ _ _ h => h) (Or.inl ⟨by rfl, ?_⟩) (by assumption) ?_
        rotate_left
        (focus (intro Wx hSw; (try dsimp only at hSw); obtain ⟨s1, s2, s3, s4, s5, s6, s7⟩ := hSw; go_simp; (try with_reducible rfl)))
        (try simp only [Act.put, List.setIfInBounds_toArray, List.set_cons_zero, List.set_cons_succ])
        refine takeR (i := 5) (some 32) (v := ?_) rfl rfl (by kernel_rfl) (by kernel_rfl) (by kernel_rfl) (fun _ _ _ h => h) (Or.inl ⟨by rfl, ?_⟩) (by assumption) ?_
        rotate_left
        (focus (intro Wx hSw; (try dsimp only at hSw); obtain ⟨s1, s2, s3, s4, s5, s6, s7⟩ := hSw; go_simp; (try with_reducible rfl)))
        (try simp only [Act.put, List.setIfInBounds_toArray, List.set_cons_zero, List.set_cons_succ])
        refine takeR (i := 6) (some 33) (v := ?_) rfl rfl (by kernel_rfl) (by kernel_rfl) (by kernel_rfl) (fun _ _ _ h => h) (Or.inl ⟨by rfl, ?_⟩) (by assumption) ?_
        rotate_left
        (focus (intro Wx hSw; (try dsimp only at hSw); obtain ⟨s1, s2, s3, s4, s5, s6, s7⟩ := hSw; go_simp; (try with_reducible rfl)))
        (try simp only [Act.put, List.setIfInBounds_toArray, List.set_cons_zero, List.set_cons_succ])
        refine takeR (i := 7) (some 34) (v := ?_) rfl rfl (by kernel_rfl) (by kernel_rfl) (by kernel_rfl) (fun _ _ _ h => h) (Or.inl ⟨by rfl, ?_⟩) (by assumption) ?_
        rotate_left
        (focus (intro Wx hSw; (try dsimp only at hSw); obtain ⟨s1, s2, s3, s4, s5, s6, s7⟩ := hSw; go_simp; (try with_reducible rfl)))
        (try simp only [Act.put, List.setIfInBounds_toArray, List.set_cons_zero, List.set_cons_succ])
        refine takeR (i := 9) (some 36) (v := ?_) rfl rfl (by kernel_rfl) (by kernel_rfl) (by kernel_rfl) (fun _ _ _ h => h) (Or.inl ⟨by rfl, ?_⟩) (by assumption) ?_
        rotate_left
        (focus (intro Wx hSw; (try dsimp only at hSw); obtain ⟨s1, s2, s3, s4, s5, s6, s7⟩ := hSw; go_simp; (try with_reducible rfl)))
        (try simp only [Act.put, List.setIfInBounds_toArray, List.set_cons_zero, List.set_cons_succ])
        refine takeR (i := 10) (some 37) (v := ?_) rfl rfl (by kernel_rfl) (by kernel_rfl) (by kernel_rfl) (fun _ _ _ h => h) (Or.inl ⟨by rfl, ?_⟩) (by assumption) ?_
        rotate_left
        (focus (intro Wx hSw; (try dsimp only at hSw); obtain ⟨s1, s2, s3, s4, s5, s6, s7⟩ := hSw; go_simp; (try with_reducible rfl)))
        (try simp only [Act.put, List.setIfInBounds_toArray, List.set_cons_zero, List.set_cons_succ])
        refine takeR (i := 11) (some 38) (v := ?_) rfl rfl (by kernel_rfl) (by kernel_rfl) (by kernel_rfl) (fun _ _ _ h => h) (Or.inl ⟨by rfl, ?_⟩) (by assumption) ?_
        rotate_left
        (focus (intro Wx hSw; (try dsimp only at hSw); obtain ⟨s1, s2, s3, s4, s5, s6, s7⟩ := hSw; go_simp; (try with_reducible rfl)))
        (try simp only [Act.put, List.setIfInBounds_toArray, List.set_cons_zero, List.set_cons_succ])
        refine takeR (i := 12) (some 39) (v := ?_) rfl rfl (by kernel_rfl) (by kernel_rfl) (by kernel_rfl) (fun _ _ _ h => h) (Or.inl ⟨by rfl, ?_⟩) (by assumption) ?_
        rotate_left
        (focus (intro Wx hSw; (try dsimp only at hSw); obtain ⟨s1, s2, s3, s4, s5, s6, s7⟩ := hSw; go_simp; (try with_reducible rfl)))
        (try simp only [Act.put, List.setIfInBounds_toArray, List.set_cons_zero, List.set_cons_succ])
        refine takeR (i := 13) (some 40) (v := ?_) rfl rfl (by kernel_rfl) (by kernel_rfl) (by kernel_rfl) (fun _ _ _ h => h) (Or.inl ⟨by rfl, ?_⟩) (by assumption) ?_
        rotate_left
        (focus (intro Wx hSw; (try dsimp only at hSw); obtain ⟨s1, s2, s3, s4, s5, s6, s7⟩ := hSw; go_simp; (try with_reducible rfl)))
        (try simp only [Act.put, List.setIfInBounds_toArray, List.set_cons_zero, List.set_cons_succ])
        refine takeR (i := 14) (some 41) (v := ?_) rfl rfl (by kernel_rfl) (by kernel_rfl) (by kernel_rfl) (fun _ _ _ h => h) (Or.inl ⟨by rfl, ?_⟩) (by assumption) ?_
        rotate_left
        (focus (intro Wx hSw; (try dsimp only at hSw); obtain ⟨s1, s2, s3, s4, s5, s6, s7⟩ := hSw; go_simp; (try with_reducible rfl)))
        (try simp only [Act.put, List.setIfInBounds_toArray, List.set_cons_zero, List.set_cons_succ])
        refine takeR (i := 15) (some 42) (v := ?_) rfl rfl (by kernel_rfl) (by kernel_rfl) (by kernel_rfl) (fun _ _ _ h => h) (Or.inl ⟨by rfl, ?_⟩) (by assumption) ?_
        rotate_left
        (focus (intro Wx hSw; (try dsimp only at hSw); obtain ⟨s1, s2, s3, s4, s5, s6, s7⟩ := hSw; go_simp; (try with_reducible rfl)))
        (try simp only [Act.put, List.setIfInBounds_toArray, List.set_cons_zero, List.set_cons_succ])
        refine takeR (i := 16) (some 43) (v := ?_) rfl rfl (by kernel_rfl) (by kernel_rfl) (by kernel_rfl) (fun _ _ _ h => h) (Or.inl ⟨by rfl, ?_⟩) (by assumption) ?_
        rotate_left
        (focus (intro Wx hSw; (try dsimp only at hSw); obtain ⟨s1, s2, s3, s4, s5, s6, s7⟩ := hSw; go_simp; (try with_reducible rfl)))
        (try simp only [Act.put, List.setIfInBounds_toArray, List.set_cons_zero, List.set_cons_succ])
        refine takeR (i := 17) (some 44) (v := ?_) rfl rfl (by kernel_rfl) (by kernel_rfl) (by kernel_rfl) (fun _ _ _ h => h) (Or.inl ⟨by rfl, ?_⟩) (by assumption) ?_
        rotate_left
        (focus (intro Wx hSw; (try dsimp only at hSw); obtain ⟨s1, s2, s3, s4, s5, s6, s7⟩ := hSw; go_simp; (try with_reducible rfl)))
        (try simp only [Act.put, List.setIfInBounds_toArray, List.set_cons_zero, List.set_cons_succ])
        refine takeR (i := 18) (some 45) (v := ?_) rfl rfl (by kernel_rfl) (by kernel_rfl) (by kernel_rfl) (fun _ _ _ h => h) (Or.inl ⟨by rfl, ?_⟩) (by assumption) ?_
        rotate_left
        (focus (intro Wx hSw; (try dsimp only at hSw); obtain ⟨s1, s2, s3, s4, s5, s6, s7⟩ := hSw; go_simp; (try with_reducible rfl)))
        (try simp only [Act.put, List.setIfInBounds_toArray, List.set_cons_zero, List.set_cons_succ])
        refine takeR (i := 19) (some 46) (v := ?_) rfl rfl (by kernel_rfl) (by kernel_rfl) (by kernel_rfl) (fun _ _ _ h => h) (Or.inl ⟨by rfl, ?_⟩) (by assumption) ?_
        rotate_left
        (focus (intro Wx hSw; (try dsimp only at hSw); obtain ⟨s1, s2, s3, s4, s5, s6, s7⟩ := hSw; go_simp; (try with_reducible rfl)))
        (try simp only [Act.put, List.setIfInBounds_toArray, List.set_cons_zero, List.set_cons_succ])
        refine takeR (i := 20) (some 47) (v := ?_) rfl rfl (by kernel_rfl) (by kernel_rfl) (by kernel_rfl) (fun _ _ _ h => h) (Or.inl ⟨by rfl, ?_⟩) (by assumption) ?_
        rotate_left
        (focus (intro Wx hSw; (try dsimp only at hSw); obtain ⟨s1, s2, s3, s4, s5, s6, s7⟩ := hSw; go_simp; (try with_reducible rfl)))
        (try simp only [Act.put, List.setIfInBounds_toArray, List.set_cons_zero, List.set_cons_succ])
        refine wpAnyH_ready (rs := [8]) (by kernel_rfl) (by simp) ?_
        refine AllReadyH.cons rfl (fun K hK => ?_) AllReadyH.nil
        go_simp
        (go_at_call 38; (with_reducible refine HP1.out.mono ?_); rintro e w7 ⟨rfl, hm7, hg7⟩)
        have HI7 : Hid (InS base w w7 bi os a1) := Lib.hid (by
          have h := (HIN.out.next hlow (W' := wr.drew) (by (repeat' (first | (with_reducible exact Below.refl _ _) | (with_reducible assumption) | (with_reducible refine Below.setCell ?_ ?_ _) | (with_reducible refine Below.alloc ?_ ?_ _) | (with_reducible refine Below.drew ?_) | (with_reducible refine below_drewN ?_ _) | (with_reducible refine below_next ?_ (by with_reducible assumption)) | omega | (dsimp only; omega) | (simp only [World.size_alloc, World.size_setCell, World.size_drew, World.heap_drewN]; omega))))).turn hlow HQK.out hg7 hm7
          rw [HA1S.out]
          rw [HA1K.out] at h
          exact h)
        refine hK.out _ _ (HSF.out w7 a1 HI7.out) (fun hHeld => ?_)
        (try simp only [Act.put, List.setIfInBounds_toArray, List.set_cons_zero, List.set_cons_succ])
        refine wpAnyH_ready (rs := [21]) (by kernel_rfl) (by simp) ?_
        refine AllReadyH.cons rfl (fun K hK => ?_) AllReadyH.nil
        go_simp
        (go_at_call 38; (with_reducible refine (HP2.out w7 HI7.out).mono ?_); rintro e w8 ⟨rfl, hm8, hg8⟩)
        have HI8 : Hid (InS base w w8 bi os a2) := Lib.hid (by
          have h := HI7.out.turn hlow HQK.out hg8 hm8
          rw [HA2S.out]
          rw [HA2K.out] at h
          exact h)
        have hg78 : wr.drew.grownBy w8 (some qk) := grown_trans hg7 hg8
        have hbw8 : Below base W w8 := hXb.trans (Below.trans (b := wr.drew) (by (repeat' (first | (with_reducible exact Below.refl _ _) | (with_reducible assumption) | (with_reducible refine Below.setCell ?_ ?_ _) | (with_reducible refine Below.alloc ?_ ?_ _) | (with_reducible refine Below.drew ?_) | (with_reducible refine below_drewN ?_ _) | (with_reducible refine below_next ?_ (by with_reducible assumption)) | omega | (dsimp only; omega) | (simp only [World.size_alloc, World.size_setCell, World.size_drew, World.heap_drewN]; omega)))) ((Below.refl _ _).grown hg78 (by show base ≤ wr.heap.size; have := HIN.out.bel.size; omega) (fun q hq => by injection hq with hq; omega)))
        have HK8 : Hid (∀ b, w.heap.size ≤ b → b < W.heap.size → w8.heap[b]? = W.heap[b]?) := Lib.hid fun b h1 h2 => (hg78.block b (by show b < wr.heap.size; omega) (by intro e; injection e with e; omega)).trans (HKP.out b h1 h2)
        have HOW8 : Hid (OwnL 3 intC 1 W.heap.size w8 (.slice A8 ks.length c8) ks) := Lib.hid (HOW.out.drew.keep fun b hb => hg78.block b (HOW.out.lt hb).2 (by intro e; injection e with e; have := (HOW.out.lt hb).1; omega))
        have hz8 : W.heap.size ≤ w8.heap.size := hbw8.size
        clear hm7 hg7 hm8 hg8 hg78
        refine hK.out _ _ (HSF.out w8 a2 HI8.out) (fun hHeld => ?_)
        (try simp only [Act.put, List.setIfInBounds_toArray, List.set_cons_zero, List.set_cons_succ])
        refine takeR (i := 22) (some 11) (v := ?_) rfl rfl (by kernel_rfl) (by kernel_rfl) (by kernel_rfl) (fun _ _ _ h => h) (Or.inl ⟨by rfl, ?_⟩) (by assumption) ?_
        rotate_left
        (focus (intro Wx hSw; (try dsimp only at hSw); obtain ⟨s1, s2, s3, s4, s5, s6, s7⟩ := hSw; go_simp; (try with_reducible rfl)))
        (try simp only [Act.put, List.setIfInBounds_toArray, List.set_cons_zero, List.set_cons_succ])
        refine takeR (i := 23) (some 12) (v := ?_) rfl rfl (by kernel_rfl) (by kernel_rfl) (by kernel_rfl) (fun _ _ _ h => h) (Or.inl ⟨by rfl, ?_⟩) (by assumption) ?_
        rotate_left
        (focus (intro Wx hSw; (try dsimp only at hSw); obtain ⟨s1, s2, s3, s4, s5, s6, s7⟩ := hSw; go_simp; (try with_reducible rfl)))
        (try simp only [Act.put, List.setIfInBounds_toArray, List.set_cons_zero, List.set_cons_succ])
        refine wpAnyH_done (by kernel_rfl) ?_ _
        have HST3 : Hid ((l.take (j + 1)).foldl (Sol.lookFE makes ends (Sol.reachB G en) i) (a, []) = (a2, if (one || two) = true then ks ++ [(yN : Int)] else ks)) := Lib.hid (by rw [HST.out, HLE2.out])
        clear HST HLE2 HTT HP1 HP2 HSF
        cases one <;> cases two
        · go_wp2
          go_roundw
          case rel => exact ⟨j + 1, (a2, ks), A8, c8, by omega, by go_num, rfl, by dsimp only; omega, HI8, HST3, hbw8, HK8, HOW8⟩
          case measure => simp [intOf]; omega
        · go_wp2_with (at_builtin; refine wpList_app (e := 3) (f := intC) rfl _ _ 28 rfl W.heap.size i0 _ 8 Try.underlying28 hi0 hz0 hz1 hz2 rfl (by decide) intC_len (.slice A8 ks.length c8) ks rfl ?c0 _ 1 _ [(yN : Int)] rfl ?c1 (intC_one _) (by decide) ?c2 ?c3 ?_)
          case c0 => exact HOW8.out.next (by (repeat' (first | (with_reducible exact Below.refl _ _) | (with_reducible assumption) | (with_reducible refine Below.setCell ?_ ?_ _) | (with_reducible refine Below.alloc ?_ ?_ _) | (with_reducible refine Below.drew ?_) | (with_reducible refine below_drewN ?_ _) | (with_reducible refine below_next ?_ (by with_reducible assumption)) | omega | (dsimp only; omega) | (simp only [World.size_alloc, World.size_setCell, World.size_drew, World.heap_drewN]; omega))))
          case c1 => exact own_one _ _ _
          case c2 => first | omega | (simp; omega)
          case c3 => first | omega | (simp; omega)
          intro A7 c7 w9 hown hg hB hor
          have HOW9 := Lib.hid hown
          have hBB : Below W.heap.size w8 w9 := Below.trans ((Below.refl _ _).alloc (by omega) _) hB
          have HI9 := Lib.hid (HI8.out.next hlow (hBB.mono hWz))
          have hbw9 : Below base W w9 := hbw8.trans (hBB.mono (by omega))
          have HK9 : Hid (∀ b, w.heap.size ≤ b → b < W.heap.size → w9.heap[b]? = W.heap[b]?) := Lib.hid fun b h1 h2 => (hBB.block b h2).trans (HK8.out b h1 h2)
          clear hown hg hB hor
          go_wp2
          go_roundw
          case rel => exact ⟨j + 1, (a2, ks ++ [(yN : Int)]), A7, c7, by omega, by go_num, by simp, by simp; omega, HI9, HST3, hbw9, HK9, by simpa using HOW9⟩
          case measure => simp [intOf]; omega
        · go_wp2_with (at_builtin; refine wpList_app (e := 3) (f := intC) rfl _ _ 28 rfl W.heap.size i0 _ 8 Try.underlying28 hi0 hz0 hz1 hz2 rfl (by decide) intC_len (.slice A8 ks.length c8) ks rfl ?c0 _ 1 _ [(yN : Int)] rfl ?c1 (intC_one _) (by decide) ?c2 ?c3 ?_)
          case c0 => exact HOW8.out.next (by (repeat' (first | (with_reducible exact Below.refl _ _) | (with_reducible assumption) | (with_reducible refine Below.setCell ?_ ?_ _) | (with_reducible refine Below.alloc ?_ ?_ _) | (with_reducible refine Below.drew ?_) | (with_reducible refine below_drewN ?_ _) | (with_reducible refine below_next ?_ (by with_reducible assumption)) | omega | (dsimp only; omega) | (simp only [World.size_alloc, World.size_setCell, World.size_drew, World.heap_drewN]; omega))))
          case c1 => exact own_one _ _ _
          case c2 => first | omega | (simp; omega)
          case c3 => first | omega | (simp; omega)
          intro A7 c7 w9 hown hg hB hor
          have HOW9 := Lib.hid hown
          have hBB : Below W.heap.size w8 w9 := Below.trans ((Below.refl _ _).alloc (by omega) _) hB
          have HI9 := Lib.hid (HI8.out.next hlow (hBB.mono hWz))
          have hbw9 : Below base W w9 := hbw8.trans (hBB.mono (by omega))
          have HK9 : Hid (∀ b, w.heap.size ≤ b → b < W.heap.size → w9.heap[b]? = W.heap[b]?) := Lib.hid fun b h1 h2 => (hBB.block b h2).trans (HK8.out b h1 h2)
          clear hown hg hB hor
          go_wp2
          go_roundw
          case rel => exact ⟨j + 1, (a2, ks ++ [(yN : Int)]), A7, c7, by omega, by go_num, by simp, by simp; omega, HI9, HST3, hbw9, HK9, by simpa using HOW9⟩
          case measure => simp [intOf]; omega
        · go_wp2_with (at_builtin; refine wpList_app (e := 3) (f := intC) rfl _ _ 28 rfl W.heap.size i0 _ 8 Try.underlying28 hi0 hz0 hz1 hz2 rfl (by decide) intC_len (.slice A8 ks.length c8) ks rfl ?c0 _ 1 _ [(yN : Int)] rfl ?c1 (intC_one _) (by decide) ?c2 ?c3 ?_)
          case c0 => exact HOW8.out.next (by (repeat' (first | (with_reducible exact Below.refl _ _) | (with_reducible assumption) | (with_reducible refine Below.setCell ?_ ?_ _) | (with_reducible refine Below.alloc ?_ ?_ _) | (with_reducible refine Below.drew ?_) | (with_reducible refine below_drewN ?_ _) | (with_reducible refine below_next ?_ (by with_reducible assumption)) | omega | (dsimp only; omega) | (simp only [World.size_alloc, World.size_setCell, World.size_drew, World.heap_drewN]; omega))))
          case c1 => exact own_one _ _ _
          case c2 => first | omega | (simp; omega)
          case c3 => first | omega | (simp; omega)
          intro A7 c7 w9 hown hg hB hor
          have HOW9 := Lib.hid hown
          have hBB : Below W.heap.size w8 w9 := Below.trans ((Below.refl _ _).alloc (by omega) _) hB
          have HI9 := Lib.hid (HI8.out.next hlow (hBB.mono hWz))
          have hbw9 : Below base W w9 := hbw8.trans (hBB.mono (by omega))
          have HK9 : Hid (∀ b, w.heap.size ≤ b → b < W.heap.size → w9.heap[b]? = W.heap[b]?) := Lib.hid fun b h1 h2 => (hBB.block b h2).trans (HK8.out b h1 h2)
          clear hown hg hB hor
          go_wp2
          go_roundw
          case rel => exact ⟨j + 1, (a2, ks ++ [(yN : Int)]), A7, c7, by omega, by go_num, by simp, by simp; omega, HI9, HST3, hbw9, HK9, by simpa using HOW9⟩
          case measure => simp [intOf]; omega
    · obtain rfl : j = l.length := by omega
      have HE2 : Hid (Sol.lookF G makes ends (Sol.reachB G en) a i = (a5, ks)) := Lib.hid (by
        have h := HFO.out
        rw [List.take_length] at h
        unfold Sol.lookF
        rw [HRW.out, h])
      clear HFO
      go_wp2
      go_ret
      rw [HE2.out]
      exact ⟨_, _, rfl, HOW.out, HIN.out, hXb, HKP.out⟩
end Go.Proofs.Ytadcjmfednachaa
