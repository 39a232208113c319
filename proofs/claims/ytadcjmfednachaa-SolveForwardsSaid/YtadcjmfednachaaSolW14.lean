/-
  Before: the reference's.
-/
import Derived.Test.YtadcjmfednachaaSolW13
namespace Go.Proofs.Ytadcjmfednachaa
open Go.RowKit Go.WideShapes Go.ChangeShapes Go.Deep
set_option linter.unusedVariables false
set_option linter.unusedSimpArgs false

/-- A row of an own matrix after an Add, put in. -/
theorem OwnV.added {tR : TypeId} {base b0 i : Nat} {w w7 : World} {vs : List Value} {m : List (List Int)} {v v' : Value} {l : List Int} {x : Int} (h : OwnV 3 tR base w b0 vs m) (hv : vs[i]? = some v) (hl : m[i]? = some l) (hb : Below w.heap.size w w7) (hbase : base ≤ w.heap.size)
    (hor : (x ∈ l ∧ v' = v) ∨ (x ∉ l ∧ OwnL 3 intC 1 w.heap.size w7 v' (Sol.addI l x))) : OwnV 3 tR base (w7.setCell ⟨b0, i, none⟩ v') b0 (vs.set i v') (m.set i (Sol.addI l x)) := by
  refine OwnV.put h hv (fun b _ hlt _ => hb.block b hlt) hb.size ?_ ?_
  · rcases hor with ⟨hx, rfl⟩ | ⟨_, ho⟩
    · have e : Sol.addI l x = l := by unfold Sol.addI; rw [if_pos hx]
      rw [e]
      exact (h.row i _ l hv hl).next hb
    · exact ho.lower hbase
  · intro q hq
    rcases hor with ⟨_, rfl⟩ | ⟨_, ho⟩
    · exact .inl hq
    · exact .inr (ho.lt hq).1
theorem addI_le (l : List Int) (x : Int) : (Sol.addI l x).length ≤ l.length + 1 := by rw [Sol.addI_length]; split <;> omega
theorem befP_row_le {G : List (List Int)} {i : Nat} {d : List Int} {l : List Int} {k : Nat} (h : (Sol.befP G i d)[k]? = some l) : l.length ≤ i + 1 := by
  have hk : k < G.length := by rw [← Sol.befP_length G i d]; exact (List.getElem?_eq_some_iff.1 h).1
  have h2 := Sol.befP_at (G := G) (i := i) (d := d) hk
  rw [List.getD_eq_getElem?_getD, h, Option.getD_some] at h2
  rw [h2, List.length_append, List.length_map]
  have h3 := List.length_filter_le (fun (j : Nat) => decide ((k : Int) ∈ Sol.rowI G j)) (List.range i)
  rw [List.length_range] at h3
  split
  · simp; omega
  · simp; omega
theorem take_step {α : Type} {l : List α} {k : Nat} {y : α} (hy : l[k]? = some y) : l.take (k + 1) = l.take k ++ [y] := by rw [List.take_add_one, hy]; rfl
set_option maxRecDepth 100000 in
set_option maxHeartbeats 4000000 in
theorem rbefore_any (A : Option Addr) (n c : Nat) (m : List (List Int)) (w : World) (hs : RdM w (.slice A n c) m) (hn : m.length ≤ 1048575) (hr20 : ∀ l ∈ m, l.length ≤ 1048576) :
    Calls Try.prog 17 #[.slice A n c] w (MatP w (Sol.befG (Sol.cleanG m))) := by
  obtain ⟨i0, hi0, hz0, hz1, hz2⟩ := info_parts int_info
  obtain ⟨j0, hj0, hy0, hy1, hy2⟩ := info_parts row_info
  obtain ⟨A', c', e⟩ := hs.form
  injection e with e1 e2 e3
  subst e2
  clear e1 e3 A' c'
  obtain ⟨N, hN⟩ : ∃ N, N = (Sol.cleanG m).length := ⟨_, rfl⟩
  have hNm : N = m.length := by rw [hN, Sol.cleanG_length]
  rw [← hNm] at hs hn ⊢
  have HFO : Hid (∀ W, Below w.heap.size w W → ∀ i : Nat, i < N → Calls Try.prog 29 #[.slice A N c, .int .i64 i] W (OwnP W (Sol.rowI (Sol.cleanG m) i))) := Lib.hid fun W hW i hi => follows_any A N c m i W (hs.next hW) (by omega) hr20
  have hG := Sol.cln_clean m
  have hrl := fun i : Int => row_le (clean_rows hr20) i
  obtain ⟨G, hGG⟩ : ∃ G, G = Sol.cleanG m := ⟨_, rfl⟩
  rw [← hGG] at HFO hN hG hrl ⊢
  have HN := Lib.hid hN
  have HG := Lib.hid hG
  have HR := Lib.hid hrl
  clear hs hr20 hN hNm hG hrl hGG
  have hA1 := cell_alloc_if
  have hA2 := frozen_alloc_if
  have hA3 := cell_set_if
  go_enter Try.func17, Try.ntmps17
  go_wp2_with (refine wpList_make_full _ rfl (.tmp 8) (.tmp 8) 22 rfl w.heap.size 28 j0 _ 1 Try.underlying22 hj0 hy0 hy1 .i64 .i64 N N N rfl rfl rfl rfl ?m1 ?m2 ?m3 ?_)
  case m1 => rw [hy2]; omega
  case m2 => unfold maxLen; omega
  case m3 => exact Nat.le_refl _
  intro w1 hrow hg1
  rw [toList_madeCells_one] at hrow
  have hblk := block_full hrow
  have hbw1 : Below w.heap.size w w1 := (Below.refl _ _).grown hg1 (Nat.le_refl _) (fun k hk => by cases hk)
  have hlt1 : w.heap.size < w1.heap.size := (Array.getElem?_eq_some_iff.1 hblk).1
  have HM0 : Hid (OwnM 3 28 w.heap.size w1 w.heap.size (Sol.befP G 0 [])) := Lib.hid (by
    rw [Sol.befP_zero, ← HN.out]
    exact ⟨_, OwnV.made (Nat.le_refl _) (by simpa using hblk)⟩)
  clear hrow hg1 hblk
  go_wp2
  go_loopw [4] (fun i wr => ∃ k : Nat, k ≤ N ∧ i = .int .i64 k ∧ Below w.heap.size w wr ∧ w.heap.size < wr.heap.size ∧ Hid (OwnM 3 28 w.heap.size wr w.heap.size (Sol.befP G k []))) (fun i _ => N - (intOf i).toNat)
  case atStart => exact ⟨0, by omega, rfl, hbw1, hlt1, HM0⟩
  case round =>
    clear hbw1 hlt1 HM0
    obtain ⟨k, hk, rfl, hXb, hXl, HM⟩ := hrel
    have hXz := hXb.size
    by_cases hlt : k < N
    · have HFK : Hid (∀ W, Below wr.heap.size wr W → Calls Try.prog 29 #[.slice A N c, .int .i64 k] W (OwnP W (Sol.rowI G k))) := Lib.hid fun W hW => HFO.out W (hXb.trans (hW.mono (by omega))) k hlt
      go_wp2_with (go_at_call 29; (with_reducible refine (HFK.out _ (by (repeat' (first | (with_reducible exact Below.refl _ _) | (with_reducible assumption) | (with_reducible refine Below.setCell ?_ ?_ _) | (with_reducible refine Below.alloc ?_ ?_ _) | (with_reducible refine Below.drew ?_) | (with_reducible refine below_drewN ?_ _) | (with_reducible refine below_next ?_ (by with_reducible assumption)) | omega | (dsimp only; omega) | (simp only [World.size_alloc, World.size_setCell, World.size_drew, World.heap_drewN]; omega))))).mono ?_); rintro e w4 ⟨A4, c4, rfl, how, hb4⟩; have HOW := Lib.hid how; have hz4 := hb4.size; clear how)
      obtain ⟨l, hl⟩ : ∃ l, l = Sol.rowI G k := ⟨_, rfl⟩
      have hl20 : l.length ≤ 1048576 := by rw [hl]; exact HR.out k
      have HIN : Hid (∀ y ∈ l, Sol.InR N y) := Lib.hid fun y hy => by rw [HN.out]; exact HG.out k y (hl ▸ hy)
      have HL := Lib.hid hl
      rw [← hl] at HOW ⊢
      have HM4 : Hid (OwnM 3 28 w.heap.size w4 w.heap.size (Sol.befP G k [])) := Lib.hid (HM.out.next hb4)
      have hbw4 : Below w.heap.size w w4 := hXb.trans (hb4.mono hXz)
      have hX4 : wr.heap.size ≤ w4.heap.size := hz4
      clear hl
      obtain ⟨w5, rfl⟩ : ∃ w5, w5 = wr := ⟨_, rfl⟩
      go_loopw [6] (fun i wr => ∃ j : Nat, j ≤ l.length ∧ i = .int .i64 j ∧ Below w.heap.size w wr ∧ w5.heap.size ≤ wr.heap.size ∧ Hid (OwnM 3 28 w.heap.size wr w.heap.size (Sol.befP G k (l.take j))) ∧ Hid (OwnL 3 intC 1 w5.heap.size wr (.slice A4 l.length c4) l)) (fun i _ => l.length - (intOf i).toNat)
      case atStart => exact ⟨0, by omega, rfl, hbw4, hX4, by simpa using HM4, HOW⟩
      case round =>
        clear hXb hXz HM HM4 hbw4 hX4 HOW hz4 hb4
        obtain ⟨j, hj, rfl, hXb, hX5, HM, HOW⟩ := hrel
        have hXz := hXb.size
        by_cases hltj : j < l.length
        · obtain ⟨y, hy⟩ : ∃ y, l[j]? = some y := ⟨_, List.getElem?_eq_getElem hltj⟩
          have hyr := HIN.out y (List.mem_of_getElem? hy)
          have hyr0 := hyr
          unfold Sol.InR at hyr
          obtain ⟨yN, rfl⟩ : ∃ k : Nat, y = (k : Int) := ⟨y.toNat, by omega⟩
          have hyN : yN < N := by omega
          have hst := Sol.befP_add (G := G) (i := k) (d := l.take j) (k := (yN : Int)) (by rw [← HN.out]; exact hyr0)
          rw [Int.toNat_natCast, ← take_step hy] at hst
          have HST := Lib.hid hst
          obtain ⟨b3, off3, e3, _, hb3, p3⟩ := (HOW.out.rdl intC_len).intAt hy
          have hb35 := HOW.out.lt (b := b3) (by rw [e3]; rfl)
          subst e3
          obtain ⟨vs, hV⟩ := HM.out
          obtain ⟨l7, hl7⟩ : ∃ l7, (Sol.befP G k (l.take j))[yN]? = some l7 := ⟨_, List.getElem?_eq_getElem (by rw [Sol.befP_length, ← HN.out]; exact hyN)⟩
          have hl7d : (Sol.befP G k (l.take j)).getD yN [] = l7 := by rw [List.getD_eq_getElem?_getD, hl7]; rfl
          rw [hl7d] at HST
          have hl7n := befP_row_le hl7
          obtain ⟨A7, c7, hv7, p2, f2, how⟩ := hV.at_ hl7
          have HV := Lib.hid hV
          have HV7 := Lib.hid hv7
          have HL7 := Lib.hid hl7
          have HADD : Hid (∀ W, Below wr.heap.size wr W → Calls Try.prog 34 #[.slice A7 l7.length c7, .int .i64 k] W (AddP W (.slice A7 l7.length c7) l7 k)) := Lib.hid fun W hW => radd_any A7 l7.length c7 l7 k W ((how.rdl intC_len).next hW) (by omega)
          have hb0 := hV.lt
          clear hst hV hv7 how hyr hyr0 hy hl7 hl7d
          go_wp2
          refine wp_region_held_drew (S := fun W => Below w.heap.size w W ∧ W.cell? ⟨b3, off3 + j, none⟩ = some (.int .i64 yN)) (by kernel_rfl) ⟨hXb.drew, p3⟩ (fun hHeld => ?_)
          refine takeR (i := 0) (some 25) (v := ?_) rfl rfl (by kernel_rfl) (by kernel_rfl) (by kernel_rfl) (fun _ _ _ h => h) (Or.inl ⟨by rfl, ?_⟩) (by assumption) ?_
          rotate_left
          (focus (intro W hSw; (try dsimp only at hSw); have p3 := hSw.2; go_simp; (try with_reducible rfl)))
          (try simp only [Act.put, List.setIfInBounds_toArray, List.set_cons_zero, List.set_cons_succ])
          refine takeR (i := 1) (some 26) (v := ?_) rfl rfl (by kernel_rfl) (by kernel_rfl) (by kernel_rfl) (fun _ _ _ h => h) (Or.inl ⟨by rfl, ?_⟩) (by assumption) ?_
          rotate_left
          (focus (intro W hSw; (try dsimp only at hSw); have p3 := hSw.2; go_simp; (try with_reducible rfl)))
          (try simp only [Act.put, List.setIfInBounds_toArray, List.set_cons_zero, List.set_cons_succ])
          refine takeR (i := 2) (some 27) (v := ?_) rfl rfl (by kernel_rfl) (by kernel_rfl) (by kernel_rfl) (fun _ _ _ h => h) (Or.inl ⟨by rfl, ?_⟩) (by assumption) ?_
          rotate_left
          (focus (intro W hSw; (try dsimp only at hSw); have p3 := hSw.2; go_simp; (try with_reducible rfl)))
          (try simp only [Act.put, List.setIfInBounds_toArray, List.set_cons_zero, List.set_cons_succ])
          refine takeR (i := 3) (some 28) (v := ?_) rfl rfl (by kernel_rfl) (by kernel_rfl) (by kernel_rfl) (fun _ _ _ h => h) (Or.inl ⟨by rfl, ?_⟩) (by assumption) ?_
          rotate_left
          (focus (intro W hSw; (try dsimp only at hSw); have p3 := hSw.2; go_simp; (try with_reducible rfl)))
          (try simp only [Act.put, List.setIfInBounds_toArray, List.set_cons_zero, List.set_cons_succ])
          refine takeR (i := 4) (some 29) (v := ?_) rfl rfl (by kernel_rfl) (by kernel_rfl) (by kernel_rfl) (fun _ _ _ h => h) (Or.inl ⟨by rfl, ?_⟩) (by assumption) ?_
          rotate_left
          (focus (intro W hSw; (try dsimp only at hSw); have p3 := hSw.2; go_simp; (try with_reducible rfl)))
          (try simp only [Act.put, List.setIfInBounds_toArray, List.set_cons_zero, List.set_cons_succ])
          refine takeR (i := 5) (some 30) (v := ?_) rfl rfl (by kernel_rfl) (by kernel_rfl) (by kernel_rfl) (fun _ _ _ h => h) (Or.inl ⟨by rfl, ?_⟩) (by assumption) ?_
          rotate_left
          (focus (intro W hSw; (try dsimp only at hSw); have p3 := hSw.2; go_simp; (try with_reducible rfl)))
          (try simp only [Act.put, List.setIfInBounds_toArray, List.set_cons_zero, List.set_cons_succ])
          refine takeR (i := 6) (some 31) (v := ?_) rfl rfl (by kernel_rfl) (by kernel_rfl) (by kernel_rfl) (fun _ _ _ h => h) (Or.inl ⟨by rfl, ?_⟩) (by assumption) ?_
          rotate_left
          (focus (intro W hSw; (try dsimp only at hSw); have p3 := hSw.2; go_simp; (try with_reducible rfl)))
          (try simp only [Act.put, List.setIfInBounds_toArray, List.set_cons_zero, List.set_cons_succ])
          refine takeR (i := 7) (some 32) (v := ?_) rfl rfl (by kernel_rfl) (by kernel_rfl) (by kernel_rfl) (fun _ _ _ h => h) (Or.inl ⟨by rfl, ?_⟩) (by assumption) ?_
          rotate_left
          (focus (intro W hSw; (try dsimp only at hSw); have p3 := hSw.2; go_simp; (try with_reducible rfl)))
          (try simp only [Act.put, List.setIfInBounds_toArray, List.set_cons_zero, List.set_cons_succ])
          refine takeR (i := 8) (some 33) (v := ?_) rfl rfl (by kernel_rfl) (by kernel_rfl) (by kernel_rfl) (fun _ _ _ h => h) (Or.inl ⟨by rfl, ?_⟩) (by assumption) ?_
          rotate_left
          (focus (intro W hSw; (try dsimp only at hSw); have p3 := hSw.2; go_simp; (try with_reducible rfl)))
          (try simp only [Act.put, List.setIfInBounds_toArray, List.set_cons_zero, List.set_cons_succ])
          refine takeR (i := 9) (some 34) (v := ?_) rfl rfl (by kernel_rfl) (by kernel_rfl) (by kernel_rfl) (fun _ _ _ h => h) (Or.inl ⟨by rfl, ?_⟩) (by assumption) ?_
          rotate_left
          (focus (intro W hSw; (try dsimp only at hSw); have p3 := hSw.2; go_simp; (try with_reducible rfl)))
          (try simp only [Act.put, List.setIfInBounds_toArray, List.set_cons_zero, List.set_cons_succ])
          refine takeR (i := 10) (some 35) (v := ?_) rfl rfl (by kernel_rfl) (by kernel_rfl) (by kernel_rfl) (fun _ _ _ h => h) (Or.inl ⟨by rfl, ?_⟩) (by assumption) ?_
          rotate_left
          (focus (intro W hSw; (try dsimp only at hSw); have p3 := hSw.2; go_simp; (try with_reducible rfl)))
          (try simp only [Act.put, List.setIfInBounds_toArray, List.set_cons_zero, List.set_cons_succ])
          refine takeR (i := 12) (some 37) (v := ?_) rfl rfl (by kernel_rfl) (by kernel_rfl) (by kernel_rfl) (fun _ _ _ h => h) (Or.inl ⟨by rfl, ?_⟩) (by assumption) ?_
          rotate_left
          (focus (intro W hSw; (try dsimp only at hSw); have p3 := hSw.2; go_simp; (try with_reducible rfl)))
          (try simp only [Act.put, List.setIfInBounds_toArray, List.set_cons_zero, List.set_cons_succ])
          refine wpAnyH_ready (rs := [11]) (by kernel_rfl) (by simp) ?_
          refine AllReadyH.cons rfl (fun K hK => ?_) AllReadyH.nil
          go_simp
          refine hK.out _ _ ⟨hXb.drew, p3⟩ (fun hHeld => ?_)
          (try simp only [Act.put, List.setIfInBounds_toArray, List.set_cons_zero, List.set_cons_succ])
          refine wpAnyH_ready (rs := [13]) (by kernel_rfl) (by simp) ?_
          refine AllReadyH.cons rfl (fun K hK => ?_) AllReadyH.nil
          go_simp
          (go_at_call 34; (with_reducible refine (HADD.out _ (by (repeat' (first | (with_reducible exact Below.refl _ _) | (with_reducible assumption) | (with_reducible refine Below.setCell ?_ ?_ _) | (with_reducible refine Below.alloc ?_ ?_ _) | (with_reducible refine Below.drew ?_) | (with_reducible refine below_drewN ?_ _) | (with_reducible refine below_next ?_ (by with_reducible assumption)) | omega | (dsimp only; omega) | (simp only [World.size_alloc, World.size_setCell, World.size_drew, World.heap_drewN]; omega))))).mono ?_); rintro e w7 ⟨A8, c8, rfl, hb7, hor⟩)
          have hb7' : Below wr.heap.size wr w7 := Below.trans (a := wr) (by (repeat' (first | (with_reducible exact Below.refl _ _) | (with_reducible assumption) | (with_reducible refine Below.setCell ?_ ?_ _) | (with_reducible refine Below.alloc ?_ ?_ _) | (with_reducible refine Below.drew ?_) | (with_reducible refine below_drewN ?_ _) | (with_reducible refine below_next ?_ (by with_reducible assumption)) | omega | (dsimp only; omega) | (simp only [World.size_alloc, World.size_setCell, World.size_drew, World.heap_drewN]; omega)))) hb7
          have hz7 := hb7'.size
          have p37 := (hb7'.cell (p := ⟨b3, off3 + j, none⟩) hb3).trans p3
          obtain ⟨A6, c6, hq1, hq2, hq3, _⟩ := (OwnV.next HV.out hb7').at_ HL7.out
          have HNEW : Hid (OwnM 3 28 w.heap.size (w7.setCell ⟨w.heap.size, yN, none⟩ (.slice A8 (Sol.addI l7 k).length c8)) w.heap.size (Sol.befP G k (l.take (j + 1)))) := Lib.hid (by
            rw [← HST.out]
            exact ⟨_, OwnV.added HV.out HV7.out HL7.out hb7' hXz hor⟩)
          have hbw7 : Below w.heap.size w w7 := hXb.trans (hb7'.mono hXz)
          have HOW7 := Lib.hid (HOW.out.next hb7')
          clear hor hq1
          refine hK.out _ _ ⟨hbw7, p37⟩ (fun hHeld => ?_)
          (try simp only [Act.put, List.setIfInBounds_toArray, List.set_cons_zero, List.set_cons_succ])
          refine takeR (i := 14) (some 39) (v := ?_) rfl rfl (by kernel_rfl) (by kernel_rfl) (by kernel_rfl) (fun _ _ _ h => h) (Or.inl ⟨by rfl, ?_⟩) (by assumption) ?_
          rotate_left
          (focus (intro W hSw; (try dsimp only at hSw); have p3 := hSw.2; go_simp; (try with_reducible rfl)))
          (try simp only [Act.put, List.setIfInBounds_toArray, List.set_cons_zero, List.set_cons_succ])
          refine wpAnyH_ready (rs := [15]) (by kernel_rfl) (by simp) ?_
          refine AllReadyH.cons rfl (fun K hK => ?_) AllReadyH.nil
          go_simp
          have hbw8 : Below w.heap.size w (w7.setCell ⟨w.heap.size, yN, none⟩ (.slice A8 (Sol.addI l7 k).length c8)) := by (repeat' (first | (with_reducible exact Below.refl _ _) | (with_reducible assumption) | (with_reducible refine Below.setCell ?_ ?_ _) | (with_reducible refine Below.alloc ?_ ?_ _) | (with_reducible refine Below.drew ?_) | (with_reducible refine below_drewN ?_ _) | (with_reducible refine below_next ?_ (by with_reducible assumption)) | omega | (dsimp only; omega) | (simp only [World.size_alloc, World.size_setCell, World.size_drew, World.heap_drewN]; omega)))
          have hkp : ∀ b, w5.heap.size ≤ b → (w7.setCell ⟨w.heap.size, yN, none⟩ (.slice A8 (Sol.addI l7 k).length c8)).heap[b]? = w7.heap[b]? := by
            intro b hb
            simp only [World.setCell, Array.getElem?_modify]
            rw [if_neg (by omega)]
          have p38 := (World.cell?_of_block (a := ⟨b3, off3 + j, none⟩) (hkp b3 hb35.1)).trans p37
          have HOW8 : Hid (OwnL 3 intC 1 w5.heap.size (w7.setCell ⟨w.heap.size, yN, none⟩ (.slice A8 (Sol.addI l7 k).length c8)) (.slice (some ⟨b3, off3, none⟩) l.length c4) l) := Lib.hid (HOW7.out.keep fun b hb => hkp b (HOW7.out.lt hb).1)
          clear hkp
          refine hK.out _ _ ⟨hbw8, p38⟩ (fun hHeld => ?_)
          (try simp only [Act.put, List.setIfInBounds_toArray, List.set_cons_zero, List.set_cons_succ])
          refine wpAnyH_done (by kernel_rfl) ?_ _
          go_wp2
          go_roundw
          case rel => exact ⟨j + 1, by omega, by go_num, hbw8, by simp; omega, HNEW, HOW8⟩
          case measure => simp [intOf]; omega
        · have HFI : Hid (OwnM 3 28 w.heap.size wr w.heap.size (Sol.befP G (k + 1) [])) := Lib.hid (by
            rw [← Sol.befP_next (i := k) (d := l) (fun x _ => by rw [HL.out])]
            have h := HM.out
            rwa [List.take_of_length_le (by omega)] at h)
          clear HM
          go_wp2
          go_roundw
          case rel => exact ⟨k + 1, by omega, by go_num, hXb, by omega, HFI⟩
          case measure => simp [intOf]; omega
    · obtain rfl : k = N := by omega
      have HE : Hid (Sol.befP G k [] = Sol.befG G) := Lib.hid (by unfold Sol.befG; rw [HN.out])
      have HLE : Hid ((Sol.befG G).length = k) := Lib.hid (by unfold Sol.befG; rw [Sol.befP_length, HN.out])
      go_wp2
      go_ret
      exact ⟨by rw [HLE.out]; rfl, by rw [← HE.out]; exact HM.out, hXb⟩
end Go.Proofs.Ytadcjmfednachaa
