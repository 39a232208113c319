/-
  The reference's Add: a number put into a rising row.
-/
import Derived.Test.YtadcjmfednachaaSolW12
import Derived.Test.YtadcjmfednachaaStep
namespace Go.Proofs.Ytadcjmfednachaa
open Go.RowKit Go.WideShapes Go.ChangeShapes Go.Deep
set_option linter.unusedVariables false
set_option linter.unusedSimpArgs false

/-- What Add answers. -/
def AddP (w : World) (v : Value) (l : List Int) (x : Int) (e : Ending) (w' : World) : Prop :=
  ∃ A' c', e = .returned (.slice A' (Sol.addI l x).length c') ∧ Below w.heap.size w w' ∧ ((x ∈ l ∧ .slice A' (Sol.addI l x).length c' = v) ∨ (x ∉ l ∧ OwnL 3 intC 1 w.heap.size w' (.slice A' (Sol.addI l x).length c') (Sol.addI l x)))
def lowL (l : List Int) (x : Int) : List Int := l.takeWhile fun y => decide (y < x)
theorem low_step {l : List Int} {x y : Int} {k : Nat} (hk : k ≤ (lowL l x).length) (hy : l[k]? = some y) : (y < x → k + 1 ≤ (lowL l x).length) ∧ (¬ y < x → k = (lowL l x).length) := by
  have happ := List.takeWhile_append_dropWhile (p := fun y => decide (y < x)) (l := l)
  refine ⟨fun hlt => ?_, fun hge => ?_⟩
  · rcases Nat.lt_or_ge k (lowL l x).length with h | h
    · exact h
    · have hke : k = (lowL l x).length := by omega
      exfalso
      cases hd : l.dropWhile (fun y => decide (y < x)) with
      | nil =>
        rw [hd, List.append_nil] at happ
        have hlk : k < l.length := (List.getElem?_eq_some_iff.1 hy).1
        unfold lowL at hke
        rw [happ] at hke
        omega
      | cons z zs =>
        have hz : l[k]? = some z := by
          rw [← happ, hd, hke]
          unfold lowL
          rw [List.getElem?_append_right (Nat.le_refl _)]; simp
        rw [hz] at hy
        injection hy with hy
        subst hy
        have := List.head?_dropWhile_not (p := fun y => decide (y < x)) (l := l)
        rw [hd] at this
        simp at this
        omega
  · rcases Nat.lt_or_ge k (lowL l x).length with h | h
    · exfalso
      have hmem : (lowL l x)[k] ∈ lowL l x := List.getElem_mem h
      have h1 := Sol.takeWhile_lt hmem
      have h2 : l[k]? = some (lowL l x)[k] := by
        rw [show l[k]? = (l.takeWhile (fun y => decide (y < x)) ++ l.dropWhile fun y => decide (y < x))[k]? by rw [happ]]
        unfold lowL at h
        rw [List.getElem?_append_left h]
        exact List.getElem?_eq_getElem h
      rw [h2] at hy
      injection hy with hy
      omega
    · omega
theorem low_parts (l : List Int) (x : Int) : l.take (lowL l x).length = lowL l x ∧ (x ∉ l → Sol.addI l x = lowL l x ++ x :: l.drop (lowL l x).length) ∧ (lowL l x).length ≤ l.length := by
  have happ := List.takeWhile_append_dropWhile (p := fun y => decide (y < x)) (l := l)
  have h1 : l.take (lowL l x).length = lowL l x := by
    have h : (l.takeWhile (fun y => decide (y < x)) ++ l.dropWhile fun y => decide (y < x)).take (lowL l x).length = lowL l x := by unfold lowL; rw [List.take_left]
    rwa [happ] at h
  have h2 : l.drop (lowL l x).length = l.dropWhile fun y => decide (y < x) := by
    have h : (l.takeWhile (fun y => decide (y < x)) ++ l.dropWhile fun y => decide (y < x)).drop (lowL l x).length = l.dropWhile fun y => decide (y < x) := by unfold lowL; rw [List.drop_left]
    rwa [happ] at h
  refine ⟨h1, fun hx => ?_, ?_⟩
  · unfold Sol.addI
    rw [if_neg hx, h2]; rfl
  · have := congrArg List.length happ
    rw [List.length_append] at this
    unfold lowL
    omega
/-- append to an own row, as a step of a region. -/
theorem step_appL {P : Program} {ops : Array Oper} {o : Oper} {a : Act} {w : World} {K : Act → World → Prop} {Q : Exit → Act → World → Prop} {E : Prop} {e : TypeId} (base : Nat)
    (hg : o.guard = none) (s x : Operand) (t : TypeId) (hop : o.op = Op.call { callee := Callee.builtin Builtin.append, args := #[s, x], argTypes := #[t, t] })
    (i : TypeInfo) (h1 : P.underlying t = some (.slice e)) (h2 : P.info? e = some i) (h3 : i.zero = some (.int .i64 0)) (h4 : i.size = 1) (h5 : i.bytes = 8)
    (v : Value) (l : List Int) (hs : a.eval s = v) (hown : OwnL e intC 1 base w v l)
    (A : Option Addr) (m c : Nat) (l2 : List Int) (hx : a.eval x = .slice A m c) (hr : RdL intC 1 w (.slice A m c) l2)
    (b2 : (l.length + l2.length) * 8 ≤ 140737488355328) (hb : base ≤ w.heap.size)
    (hK : ∀ A' c' w', OwnL e intC 1 base w' (.slice A' (l.length + l2.length) c') (l ++ l2) → w.grownBy w' v.ownBlock → Below base w w' → K (a.put o.dst (.slice A' (l.length + l2.length) c')) w') :
    if Region.wanted o (yielded ops a.tmps) = true then Oper.wp P o a w K Q else E := by
  obtain ⟨A0, c0, rfl, hrow⟩ := hown
  obtain ⟨rfl, hrr⟩ := hr.reads intC_len
  refine step_append_any w hg s x t hop base e i _ 1 8 h1 h2 h3 h4 h5 rfl (by decide) _ l.length _ hs hrow w.heap.size A _ c (l2.flatMap intC) hx hrr (fun u hu => ?_) (by unfold maxLen; omega) b2 hb fun v' w' k1 k2 k3 => ?_
  · rw [List.mem_flatMap] at hu
    obtain ⟨y, hy, hu⟩ := hu
    exact intC_one l2 y hy u hu
  · have hB : Below base w w' := (Below.refl _ _).grown k2 hb (fun k hk => (World.ownsRow.lt hrow k hk).1)
    obtain ⟨A', c', rfl⟩ : ∃ A' c', v' = .slice A' (l.length + l2.length) c' := by
      rcases k1.2 with ⟨hv, h0⟩ | ⟨g, cap, cur, hv, _⟩
      · exact ⟨none, 0, by rw [hv, h0]⟩
      · exact ⟨_, _, hv⟩
    refine hK A' c' w' ⟨A', c', by rw [List.length_append], ?_⟩ k2 hB
    rw [List.length_append, List.flatMap_append]
    exact k1
theorem run_slice_to {P : Program} {T e : TypeId} {sz : Nat} (hT : P.underlying T = some (.slice e)) (hs : (P.info? e).map (·.size) = some sz) (A : Option Addr) (m c k : Nat) (hk : k ≤ c) (w : World) :
    (Instr.slice T (.slice A m c) none (some (.int .i64 k)) none).run P w = .ok (.slice A k c) w := by
  cases hi : P.info? e with
  | none => rw [hi] at hs; cases hs
  | some i =>
    rw [hi] at hs
    simp at hs
    have h1 : (0 : Int) ≤ (k : Int) ∧ (k : Int) ≤ (c : Int) := by omega
    simp [Instr.slice, Instr.sliceBounds, Instr.sliceBound, run_underlying hT, sizeOf, typeInfo, hi, hs, asIntOf, h1, hk]
    cases A <;> simp [Addr.add]
set_option maxRecDepth 100000 in
set_option maxHeartbeats 4000000 in
theorem radd_any (A : Option Addr) (n c : Nat) (l : List Int) (x : Int) (w : World) (hs : RdL intC 1 w (.slice A n c) l) (hn : l.length ≤ 1048576) :
    Calls Try.prog 34 #[.slice A n c, .int .i64 x] w (AddP w (.slice A n c) l x) := by
  obtain ⟨i0, hi0, hz0, hz1, hz2⟩ := info_parts int_info
  obtain ⟨rfl, hlc, hcm⟩ := hs.lenEq
  have HS := Lib.hid hs
  have HHAS : Hid (∀ W, Below w.heap.size w W → Calls Try.prog 22 #[.slice A l.length c, .int .i64 x] W fun e w' => e = .returned (.bool (memB l x)) ∧ W = w') := Lib.hid fun W hW => hasI_any A l.length c l x W (hs.next hW)
  clear hs
  by_cases hx : x ∈ l
  · have hm := memB_yes hx
    rw [hm] at HHAS
    have HX := Lib.hid hx
    have HL : Hid ((Sol.addI l x).length = l.length) := Lib.hid (by unfold Sol.addI; rw [if_pos hx])
    clear hx hm
    have hA1 := cell_alloc_if
    have hA2 := frozen_alloc_if
    have hA3 := cell_set_if
    go_enter Try.func34, Try.ntmps34
    go_wp2_with (go_at_call 22; (with_reducible refine (HHAS.out _ (by (repeat' (first | (with_reducible exact Below.refl _ _) | (with_reducible assumption) | (with_reducible refine Below.setCell ?_ ?_ _) | (with_reducible refine Below.alloc ?_ ?_ _) | (with_reducible refine Below.drew ?_) | (with_reducible refine below_drewN ?_ _) | (with_reducible refine below_next ?_ (by with_reducible assumption)) | omega | (dsimp only; omega) | (simp only [World.size_alloc, World.size_setCell, World.size_drew, World.heap_drewN]; omega))))).mono ?_); rintro e w3 ⟨rfl, rfl⟩)
    go_ret
    exact ⟨A, c, by rw [HL.out]; rfl, Below.refl _ _, .inl ⟨HX.out, by rw [HL.out]⟩⟩
  · have hm := memB_no hx
    rw [hm] at HHAS
    have HX := Lib.hid hx
    obtain ⟨lp1, lp2, lp3⟩ := low_parts l x
    have hadd := lp2 hx
    have HADD := Lib.hid hadd
    have HTK := Lib.hid lp1
    obtain ⟨L, hL⟩ : ∃ L, L = (lowL l x).length := ⟨_, rfl⟩
    have HL := Lib.hid hL
    rw [← hL] at lp3
    clear hx hm lp1 lp2 hadd hL
    have hA1 := cell_alloc_if
    have hA2 := frozen_alloc_if
    have hA3 := cell_set_if
    go_enter Try.func34, Try.ntmps34
    go_wp2_with (go_at_call 22; (with_reducible refine (HHAS.out _ (by (repeat' (first | (with_reducible exact Below.refl _ _) | (with_reducible assumption) | (with_reducible refine Below.setCell ?_ ?_ _) | (with_reducible refine Below.alloc ?_ ?_ _) | (with_reducible refine Below.drew ?_) | (with_reducible refine below_drewN ?_ _) | (with_reducible refine below_next ?_ (by with_reducible assumption)) | omega | (dsimp only; omega) | (simp only [World.size_alloc, World.size_setCell, World.size_drew, World.heap_drewN]; omega))))).mono ?_); rintro e w3 ⟨rfl, rfl⟩)
    go_loopw [5] (fun i wr => ∃ k : Nat, k ≤ L ∧ i = .int .i64 k ∧ wr = w) (fun i _ => l.length - (intOf i).toNat)
    case atStart => exact ⟨0, by omega, rfl, rfl⟩
    case round =>
      obtain ⟨k, hk, rfl, rfl⟩ := hrel
      by_cases hlt : k < l.length
      · obtain ⟨y, hy⟩ : ∃ y, l[k]? = some y := ⟨_, List.getElem?_eq_getElem hlt⟩
        obtain ⟨b3, off3, e3, _, hb3, p3⟩ := HS.out.intAt hy
        subst e3
        obtain ⟨q1, q2⟩ := low_step (x := x) (by rw [← HL.out]; exact hk) hy
        rw [← HL.out] at q1 q2
        clear hy
        by_cases hyx : y < x
        · have hk2 := q1 hyx
          clear q1 q2
          go_wp2
          go_roundw
          case rel => exact ⟨k + 1, hk2, by go_num, trivial⟩
          case measure => simp [intOf]; omega
        · obtain rfl := q2 hyx
          clear q1 q2
          go_wp2
          have hk7 : ([] : List Int).length + (l.take k).length = k := by simp; omega
          have HFIN : Hid (Sol.addI l x = l.take k ++ [x] ++ l.drop k) := Lib.hid (by rw [HADD.out, HL.out, HTK.out]; simp)
          have HLN : Hid ((Sol.addI l x).length = k + 1 + (l.length - k)) := Lib.hid (by rw [HFIN.out]; simp; omega)
          obtain ⟨A1, hA1'⟩ : ∃ A1 : Option Addr, A1 = some ⟨b3, off3, none⟩ := ⟨_, rfl⟩
          rw [← hA1'] at HS ⊢
          clear hA1'
          have HTO := Lib.hid fun W => (run_sliceAt_slice (P := Try.prog) (w := W) 28 (.slice A1 l.length c) none (some (.int .i64 k)) none rfl).trans (run_slice_to (P := Try.prog) (T := 28) (e := 3) (sz := 1) rfl (by kernel_rfl) A1 l.length c k (by omega) W)
          have HFR := Lib.hid fun W => (run_sliceAt_slice (P := Try.prog) (w := W) 28 (.slice A1 l.length c) (some (.int .i64 k)) none none rfl).trans (run_slice_from (P := Try.prog) (T := 28) (e := 3) (sz := 1) rfl (by kernel_rfl) A1 l.length c k (by omega) (by omega) W)
          refine wp_region_held_drew (S := fun W => Below wr.heap.size wr W) (by kernel_rfl) ((Below.refl _ _).drew) (fun hHeld => ?_)
          refine takeR (i := 1) (some 25) (v := ?_) rfl rfl (by kernel_rfl) (by kernel_rfl) (by kernel_rfl) (fun _ _ _ h => h) (Or.inl ⟨by rfl, ?_⟩) (by assumption) ?_
          rotate_left
          (focus (intro W hSw; (try dsimp only at hSw); go_simp; (try with_reducible rfl)))
          (try simp only [Act.put, List.setIfInBounds_toArray, List.set_cons_zero, List.set_cons_succ])
          refine takeR (i := 2) (some 26) (v := ?_) rfl rfl (by kernel_rfl) (by kernel_rfl) (by kernel_rfl) (fun _ _ _ h => h) (Or.inl ⟨by rfl, ?_⟩) (by assumption) ?_
          rotate_left
          (focus (intro W hSw; (try dsimp only at hSw); go_simp; (try with_reducible rfl)))
          (try simp only [Act.put, List.setIfInBounds_toArray, List.set_cons_zero, List.set_cons_succ])
          refine takeR (i := 3) (some 27) (v := .slice A1 k c) rfl rfl (by kernel_rfl) (by kernel_rfl) (by kernel_rfl) (fun _ _ _ h => h) (Or.inl ⟨by rfl, fun W _ => by simp [execOp, Act.eval, HTO.out W]⟩) (by assumption) ?_
          (try simp only [Act.put, List.setIfInBounds_toArray, List.set_cons_zero, List.set_cons_succ])
          refine takeR (i := 5) (some 29) (v := ?_) rfl rfl (by kernel_rfl) (by kernel_rfl) (by kernel_rfl) (fun _ _ _ h => h) (Or.inl ⟨by rfl, ?_⟩) (by assumption) ?_
          rotate_left
          (focus (intro W hSw; (try dsimp only at hSw); go_simp; (try with_reducible rfl)))
          (try simp only [Act.put, List.setIfInBounds_toArray, List.set_cons_zero, List.set_cons_succ])
          refine takeR (i := 8) (some 32) (v := ?_) rfl rfl (by kernel_rfl) (by kernel_rfl) (by kernel_rfl) (fun _ _ _ h => h) (Or.inl ⟨by rfl, ?_⟩) (by assumption) ?_
          rotate_left
          (focus (intro W hSw; (try dsimp only at hSw); go_simp; (try with_reducible rfl)))
          (try simp only [Act.put, List.setIfInBounds_toArray, List.set_cons_zero, List.set_cons_succ])
          refine takeR (i := 9) (some 33) (v := ?_) rfl rfl (by kernel_rfl) (by kernel_rfl) (by kernel_rfl) (fun _ _ _ h => h) (Or.inl ⟨by rfl, ?_⟩) (by assumption) ?_
          rotate_left
          (focus (intro W hSw; (try dsimp only at hSw); go_simp; (try with_reducible rfl)))
          (try simp only [Act.put, List.setIfInBounds_toArray, List.set_cons_zero, List.set_cons_succ])
          refine takeR (i := 10) (some 34) (v := .slice (fromA A1 c k 1) (l.length - k) (c - k)) rfl rfl (by kernel_rfl) (by kernel_rfl) (by kernel_rfl) (fun _ _ _ h => h) (Or.inl ⟨by rfl, fun W _ => by simp [execOp, Act.eval, HFR.out W]⟩) (by assumption) ?_
          (try simp only [Act.put, List.setIfInBounds_toArray, List.set_cons_zero, List.set_cons_succ])
          refine wpAnyH_ready (rs := [0, 6]) (by kernel_rfl) (by simp) ?_
          refine AllReadyH.cons rfl (fun K hK => ?_) (AllReadyH.cons rfl (fun K hK => ?_) AllReadyH.nil)
          · skip
            go_simp
            refine hK.out _ _ (by (repeat' (first | (with_reducible exact Below.refl _ _) | (with_reducible assumption) | (with_reducible refine Below.setCell ?_ ?_ _) | (with_reducible refine Below.alloc ?_ ?_ _) | (with_reducible refine Below.drew ?_) | (with_reducible refine below_drewN ?_ _) | (with_reducible refine below_next ?_ (by with_reducible assumption)) | omega | (dsimp only; omega) | (simp only [World.size_alloc, World.size_setCell, World.size_drew, World.heap_drewN]; omega)))) (fun hHeld => ?_)
            (try simp only [Act.put, List.setIfInBounds_toArray, List.set_cons_zero, List.set_cons_succ])
            refine wpAnyH_ready (rs := [4, 6]) (by kernel_rfl) (by simp) ?_
            refine AllReadyH.cons rfl (fun K hK => ?_) (AllReadyH.cons rfl (fun K hK => ?_) AllReadyH.nil)
            · skip
              refine step_appL wr.heap.size rfl (.tmp 24) (.tmp 27) 28 rfl i0 rfl hi0 hz0 hz1 hz2 _ [] rfl ?c0 A1 k c (l.take k) rfl ((HS.out.take k (by omega)).next (by (repeat' (first | (with_reducible exact Below.refl _ _) | (with_reducible assumption) | (with_reducible refine Below.setCell ?_ ?_ _) | (with_reducible refine Below.alloc ?_ ?_ _) | (with_reducible refine Below.drew ?_) | (with_reducible refine below_drewN ?_ _) | (with_reducible refine below_next ?_ (by with_reducible assumption)) | omega | (dsimp only; omega) | (simp only [World.size_alloc, World.size_setCell, World.size_drew, World.heap_drewN]; omega))))) ?c1 ?c2 ?_
              case c0 => first | exact OwnL.lit _ _ [] _ (by simp) (by first | (simp; done) | (simp; omega)) (by decide) rfl rfl | exact (OwnL.lit (wr.drew) #[] [] _ (by simp) (by simp) (by decide) rfl rfl).next (w' := (wr.drew.alloc (.cells #[] 3)).alloc (.cells #[.int .i64 x] 3)) (by (repeat' (first | (with_reducible exact Below.refl _ _) | (with_reducible assumption) | (with_reducible refine Below.setCell ?_ ?_ _) | (with_reducible refine Below.alloc ?_ ?_ _) | (with_reducible refine Below.drew ?_) | (with_reducible refine below_drewN ?_ _) | (with_reducible refine below_next ?_ (by with_reducible assumption)) | omega | (dsimp only; omega) | (simp only [World.size_alloc, World.size_setCell, World.size_drew, World.heap_drewN]; omega))))
              case c1 => simp; omega
              case c2 => (repeat' (first | (with_reducible exact Below.refl _ _) | (with_reducible assumption) | (with_reducible refine Below.setCell ?_ ?_ _) | (with_reducible refine Below.alloc ?_ ?_ _) | (with_reducible refine Below.drew ?_) | (with_reducible refine below_drewN ?_ _) | (with_reducible refine below_next ?_ (by with_reducible assumption)) | omega | (dsimp only; omega) | (simp only [World.size_alloc, World.size_setCell, World.size_drew, World.heap_drewN]; omega)))
              intro A7 c7 w7 hown hg hB
              have hb7 : Below wr.heap.size wr w7 := Below.trans (by (repeat' (first | (with_reducible exact Below.refl _ _) | (with_reducible assumption) | (with_reducible refine Below.setCell ?_ ?_ _) | (with_reducible refine Below.alloc ?_ ?_ _) | (with_reducible refine Below.drew ?_) | (with_reducible refine below_drewN ?_ _) | (with_reducible refine below_next ?_ (by with_reducible assumption)) | omega | (dsimp only; omega) | (simp only [World.size_alloc, World.size_setCell, World.size_drew, World.heap_drewN]; omega)))) hB
              have hz7 := hb7.size
              rw [hk7] at hown ⊢
              rw [List.nil_append] at hown
              have HO := Lib.hid hown
              clear hown hg hB
              refine hK.out _ _ (by (repeat' (first | (with_reducible exact Below.refl _ _) | (with_reducible assumption) | (with_reducible refine Below.setCell ?_ ?_ _) | (with_reducible refine Below.alloc ?_ ?_ _) | (with_reducible refine Below.drew ?_) | (with_reducible refine below_drewN ?_ _) | (with_reducible refine below_next ?_ (by with_reducible assumption)) | omega | (dsimp only; omega) | (simp only [World.size_alloc, World.size_setCell, World.size_drew, World.heap_drewN]; omega)))) (fun hHeld => ?_)
              (try simp only [Act.put, List.setIfInBounds_toArray, List.set_cons_zero, List.set_cons_succ])
              refine wpAnyH_ready (rs := [6]) (by kernel_rfl) (by simp) ?_
              refine AllReadyH.cons rfl (fun K hK => ?_) AllReadyH.nil
              go_simp
              refine hK.out _ _ (by (repeat' (first | (with_reducible exact Below.refl _ _) | (with_reducible assumption) | (with_reducible refine Below.setCell ?_ ?_ _) | (with_reducible refine Below.alloc ?_ ?_ _) | (with_reducible refine Below.drew ?_) | (with_reducible refine below_drewN ?_ _) | (with_reducible refine below_next ?_ (by with_reducible assumption)) | omega | (dsimp only; omega) | (simp only [World.size_alloc, World.size_setCell, World.size_drew, World.heap_drewN]; omega)))) (fun hHeld => ?_)
              (try simp only [Act.put, List.setIfInBounds_toArray, List.set_cons_zero, List.set_cons_succ])
              have HR30 := Lib.hid (own_one w7 3 x)
              have hcur : Below w7.heap.size w7 (w7.alloc (.cells #[.int .i64 x] 3)) := by (repeat' (first | (with_reducible exact Below.refl _ _) | (with_reducible assumption) | (with_reducible refine Below.setCell ?_ ?_ _) | (with_reducible refine Below.alloc ?_ ?_ _) | (with_reducible refine Below.drew ?_) | (with_reducible refine below_drewN ?_ _) | (with_reducible refine below_next ?_ (by with_reducible assumption)) | omega | (dsimp only; omega) | (simp only [World.size_alloc, World.size_setCell, World.size_drew, World.heap_drewN]; omega)))
              refine wpAnyH_ready (rs := [7]) (by kernel_rfl) (by simp) ?_
              refine AllReadyH.cons rfl (fun K hK => ?_) AllReadyH.nil
              refine step_appL wr.heap.size rfl (.tmp 28) (.tmp 30) 28 rfl i0 rfl hi0 hz0 hz1 hz2 _ (l.take k) rfl (HO.out.next hcur) _ 1 1 [x] rfl HR30.out ?_ ?_ ?_
              · simp; omega
              · (repeat' (first | (with_reducible exact Below.refl _ _) | (with_reducible assumption) | (with_reducible refine Below.setCell ?_ ?_ _) | (with_reducible refine Below.alloc ?_ ?_ _) | (with_reducible refine Below.drew ?_) | (with_reducible refine below_drewN ?_ _) | (with_reducible refine below_next ?_ (by with_reducible assumption)) | omega | (dsimp only; omega) | (simp only [World.size_alloc, World.size_setCell, World.size_drew, World.heap_drewN]; omega)))
              intro A8 c8 w8 hown hg hB
              have hb8 : Below wr.heap.size wr w8 := (hb7.trans (hcur.mono hz7)).trans hB
              have hz8 := hb8.size
              have HO8 := Lib.hid hown
              clear hown hg hB
              refine hK.out _ _ (by (repeat' (first | (with_reducible exact Below.refl _ _) | (with_reducible assumption) | (with_reducible refine Below.setCell ?_ ?_ _) | (with_reducible refine Below.alloc ?_ ?_ _) | (with_reducible refine Below.drew ?_) | (with_reducible refine below_drewN ?_ _) | (with_reducible refine below_next ?_ (by with_reducible assumption)) | omega | (dsimp only; omega) | (simp only [World.size_alloc, World.size_setCell, World.size_drew, World.heap_drewN]; omega)))) (fun hHeld => ?_)
              (try simp only [Act.put, List.setIfInBounds_toArray, List.set_cons_zero, List.set_cons_succ])
              refine wpAnyH_ready (rs := [11]) (by kernel_rfl) (by simp) ?_
              refine AllReadyH.cons rfl (fun K hK => ?_) AllReadyH.nil
              refine step_appL wr.heap.size rfl (.tmp 31) (.tmp 34) 28 rfl i0 rfl hi0 hz0 hz1 hz2 _ (l.take k ++ [x]) rfl HO8.out (fromA A1 c k 1) (l.length - k) (c - k) (l.drop k) rfl (((HS.out.from k (by omega))).next hb8) ?_ ?_ ?_
              · simp; omega
              · (repeat' (first | (with_reducible exact Below.refl _ _) | (with_reducible assumption) | (with_reducible refine Below.setCell ?_ ?_ _) | (with_reducible refine Below.alloc ?_ ?_ _) | (with_reducible refine Below.drew ?_) | (with_reducible refine below_drewN ?_ _) | (with_reducible refine below_next ?_ (by with_reducible assumption)) | omega | (dsimp only; omega) | (simp only [World.size_alloc, World.size_setCell, World.size_drew, World.heap_drewN]; omega)))
              intro A9 c9 w9 hown hg hB
              have hb9 : Below wr.heap.size wr w9 := hb8.trans hB
              have hz9 := hb9.size
              have HO9 := Lib.hid hown
              clear hown hg hB
              refine hK.out _ _ (by (repeat' (first | (with_reducible exact Below.refl _ _) | (with_reducible assumption) | (with_reducible refine Below.setCell ?_ ?_ _) | (with_reducible refine Below.alloc ?_ ?_ _) | (with_reducible refine Below.drew ?_) | (with_reducible refine below_drewN ?_ _) | (with_reducible refine below_next ?_ (by with_reducible assumption)) | omega | (dsimp only; omega) | (simp only [World.size_alloc, World.size_setCell, World.size_drew, World.heap_drewN]; omega)))) (fun hHeld => ?_)
              (try simp only [Act.put, List.setIfInBounds_toArray, List.set_cons_zero, List.set_cons_succ])
              refine wpAnyH_ready (rs := [12]) (by kernel_rfl) (by simp) ?_
              refine AllReadyH.cons rfl (fun K hK => ?_) AllReadyH.nil
              go_simp
              refine hK.out _ _ (by (repeat' (first | (with_reducible exact Below.refl _ _) | (with_reducible assumption) | (with_reducible refine Below.setCell ?_ ?_ _) | (with_reducible refine Below.alloc ?_ ?_ _) | (with_reducible refine Below.drew ?_) | (with_reducible refine below_drewN ?_ _) | (with_reducible refine below_next ?_ (by with_reducible assumption)) | omega | (dsimp only; omega) | (simp only [World.size_alloc, World.size_setCell, World.size_drew, World.heap_drewN]; omega)))) (fun hHeld => ?_)
              (try simp only [Act.put, List.setIfInBounds_toArray, List.set_cons_zero, List.set_cons_succ])
              refine wpAnyH_done (by kernel_rfl) ?_ _
              go_wp2
              go_ret
              refine ⟨A9, c9, by rw [HLN.out]; rfl, hb9, .inr ⟨HX.out, ?_⟩⟩
              have h := HO9.out
              rw [← HFIN.out] at h
              rw [show (Sol.addI l x).length = (l.take k ++ [x]).length + (l.drop k).length by rw [HFIN.out, List.length_append]]
              exact h
            · skip
              go_simp
              refine hK.out _ _ (by (repeat' (first | (with_reducible exact Below.refl _ _) | (with_reducible assumption) | (with_reducible refine Below.setCell ?_ ?_ _) | (with_reducible refine Below.alloc ?_ ?_ _) | (with_reducible refine Below.drew ?_) | (with_reducible refine below_drewN ?_ _) | (with_reducible refine below_next ?_ (by with_reducible assumption)) | omega | (dsimp only; omega) | (simp only [World.size_alloc, World.size_setCell, World.size_drew, World.heap_drewN]; omega)))) (fun hHeld => ?_)
              (try simp only [Act.put, List.setIfInBounds_toArray, List.set_cons_zero, List.set_cons_succ])
              have ho30 : OwnL 3 intC 1 (wr.heap.size + 1) ((wr.drew.alloc (.cells #[] 3)).alloc (.cells #[.int .i64 x] 3)) (.slice (some ⟨wr.heap.size + 1, 0, none⟩) 1 1) [x] := OwnL.lit _ _ [x] _ (by simp) (by simp) (by unfold maxLen; simp) rfl rfl
              refine wpAnyH_ready (rs := [4]) (by kernel_rfl) (by simp) ?_
              refine AllReadyH.cons rfl (fun K hK => ?_) AllReadyH.nil
              refine step_appL wr.heap.size rfl (.tmp 24) (.tmp 27) 28 rfl i0 rfl hi0 hz0 hz1 hz2 _ [] rfl ?c0 A1 k c (l.take k) rfl ((HS.out.take k (by omega)).next (by (repeat' (first | (with_reducible exact Below.refl _ _) | (with_reducible assumption) | (with_reducible refine Below.setCell ?_ ?_ _) | (with_reducible refine Below.alloc ?_ ?_ _) | (with_reducible refine Below.drew ?_) | (with_reducible refine below_drewN ?_ _) | (with_reducible refine below_next ?_ (by with_reducible assumption)) | omega | (dsimp only; omega) | (simp only [World.size_alloc, World.size_setCell, World.size_drew, World.heap_drewN]; omega))))) ?c1 ?c2 ?_
              case c0 => first | exact OwnL.lit _ _ [] _ (by simp) (by first | (simp; done) | (simp; omega)) (by decide) rfl rfl | exact (OwnL.lit (wr.drew) #[] [] _ (by simp) (by simp) (by decide) rfl rfl).next (w' := (wr.drew.alloc (.cells #[] 3)).alloc (.cells #[.int .i64 x] 3)) (by (repeat' (first | (with_reducible exact Below.refl _ _) | (with_reducible assumption) | (with_reducible refine Below.setCell ?_ ?_ _) | (with_reducible refine Below.alloc ?_ ?_ _) | (with_reducible refine Below.drew ?_) | (with_reducible refine below_drewN ?_ _) | (with_reducible refine below_next ?_ (by with_reducible assumption)) | omega | (dsimp only; omega) | (simp only [World.size_alloc, World.size_setCell, World.size_drew, World.heap_drewN]; omega))))
              case c1 => simp; omega
              case c2 => (repeat' (first | (with_reducible exact Below.refl _ _) | (with_reducible assumption) | (with_reducible refine Below.setCell ?_ ?_ _) | (with_reducible refine Below.alloc ?_ ?_ _) | (with_reducible refine Below.drew ?_) | (with_reducible refine below_drewN ?_ _) | (with_reducible refine below_next ?_ (by with_reducible assumption)) | omega | (dsimp only; omega) | (simp only [World.size_alloc, World.size_setCell, World.size_drew, World.heap_drewN]; omega)))
              intro A7 c7 w7 hown hg hB
              have hb7 : Below wr.heap.size wr w7 := Below.trans (by (repeat' (first | (with_reducible exact Below.refl _ _) | (with_reducible assumption) | (with_reducible refine Below.setCell ?_ ?_ _) | (with_reducible refine Below.alloc ?_ ?_ _) | (with_reducible refine Below.drew ?_) | (with_reducible refine below_drewN ?_ _) | (with_reducible refine below_next ?_ (by with_reducible assumption)) | omega | (dsimp only; omega) | (simp only [World.size_alloc, World.size_setCell, World.size_drew, World.heap_drewN]; omega)))) hB
              have hz7 := hb7.size
              rw [hk7] at hown ⊢
              rw [List.nil_append] at hown
              have HO := Lib.hid hown
              have HR30 := Lib.hid ((ho30.keep fun b hb => hg.block b (ho30.lt hb).2 (fun e => by have := (ho30.lt hb).1; have e2 : b = wr.heap.size := Option.some.inj e; omega)).rdl intC_len)
              have hcur : Below w7.heap.size w7 w7 := Below.refl _ _
              clear hown hg hB ho30
              refine hK.out _ _ (by (repeat' (first | (with_reducible exact Below.refl _ _) | (with_reducible assumption) | (with_reducible refine Below.setCell ?_ ?_ _) | (with_reducible refine Below.alloc ?_ ?_ _) | (with_reducible refine Below.drew ?_) | (with_reducible refine below_drewN ?_ _) | (with_reducible refine below_next ?_ (by with_reducible assumption)) | omega | (dsimp only; omega) | (simp only [World.size_alloc, World.size_setCell, World.size_drew, World.heap_drewN]; omega)))) (fun hHeld => ?_)
              (try simp only [Act.put, List.setIfInBounds_toArray, List.set_cons_zero, List.set_cons_succ])
              refine wpAnyH_ready (rs := [7]) (by kernel_rfl) (by simp) ?_
              refine AllReadyH.cons rfl (fun K hK => ?_) AllReadyH.nil
              refine step_appL wr.heap.size rfl (.tmp 28) (.tmp 30) 28 rfl i0 rfl hi0 hz0 hz1 hz2 _ (l.take k) rfl (HO.out.next hcur) _ 1 1 [x] rfl HR30.out ?_ ?_ ?_
              · simp; omega
              · (repeat' (first | (with_reducible exact Below.refl _ _) | (with_reducible assumption) | (with_reducible refine Below.setCell ?_ ?_ _) | (with_reducible refine Below.alloc ?_ ?_ _) | (with_reducible refine Below.drew ?_) | (with_reducible refine below_drewN ?_ _) | (with_reducible refine below_next ?_ (by with_reducible assumption)) | omega | (dsimp only; omega) | (simp only [World.size_alloc, World.size_setCell, World.size_drew, World.heap_drewN]; omega)))
              intro A8 c8 w8 hown hg hB
              have hb8 : Below wr.heap.size wr w8 := (hb7.trans (hcur.mono hz7)).trans hB
              have hz8 := hb8.size
              have HO8 := Lib.hid hown
              clear hown hg hB
              refine hK.out _ _ (by (repeat' (first | (with_reducible exact Below.refl _ _) | (with_reducible assumption) | (with_reducible refine Below.setCell ?_ ?_ _) | (with_reducible refine Below.alloc ?_ ?_ _) | (with_reducible refine Below.drew ?_) | (with_reducible refine below_drewN ?_ _) | (with_reducible refine below_next ?_ (by with_reducible assumption)) | omega | (dsimp only; omega) | (simp only [World.size_alloc, World.size_setCell, World.size_drew, World.heap_drewN]; omega)))) (fun hHeld => ?_)
              (try simp only [Act.put, List.setIfInBounds_toArray, List.set_cons_zero, List.set_cons_succ])
              refine wpAnyH_ready (rs := [11]) (by kernel_rfl) (by simp) ?_
              refine AllReadyH.cons rfl (fun K hK => ?_) AllReadyH.nil
              refine step_appL wr.heap.size rfl (.tmp 31) (.tmp 34) 28 rfl i0 rfl hi0 hz0 hz1 hz2 _ (l.take k ++ [x]) rfl HO8.out (fromA A1 c k 1) (l.length - k) (c - k) (l.drop k) rfl (((HS.out.from k (by omega))).next hb8) ?_ ?_ ?_
              · simp; omega
              · (repeat' (first | (with_reducible exact Below.refl _ _) | (with_reducible assumption) | (with_reducible refine Below.setCell ?_ ?_ _) | (with_reducible refine Below.alloc ?_ ?_ _) | (with_reducible refine Below.drew ?_) | (with_reducible refine below_drewN ?_ _) | (with_reducible refine below_next ?_ (by with_reducible assumption)) | omega | (dsimp only; omega) | (simp only [World.size_alloc, World.size_setCell, World.size_drew, World.heap_drewN]; omega)))
              intro A9 c9 w9 hown hg hB
              have hb9 : Below wr.heap.size wr w9 := hb8.trans hB
              have hz9 := hb9.size
              have HO9 := Lib.hid hown
              clear hown hg hB
              refine hK.out _ _ (by (repeat' (first | (with_reducible exact Below.refl _ _) | (with_reducible assumption) | (with_reducible refine Below.setCell ?_ ?_ _) | (with_reducible refine Below.alloc ?_ ?_ _) | (with_reducible refine Below.drew ?_) | (with_reducible refine below_drewN ?_ _) | (with_reducible refine below_next ?_ (by with_reducible assumption)) | omega | (dsimp only; omega) | (simp only [World.size_alloc, World.size_setCell, World.size_drew, World.heap_drewN]; omega)))) (fun hHeld => ?_)
              (try simp only [Act.put, List.setIfInBounds_toArray, List.set_cons_zero, List.set_cons_succ])
              refine wpAnyH_ready (rs := [12]) (by kernel_rfl) (by simp) ?_
              refine AllReadyH.cons rfl (fun K hK => ?_) AllReadyH.nil
              go_simp
              refine hK.out _ _ (by (repeat' (first | (with_reducible exact Below.refl _ _) | (with_reducible assumption) | (with_reducible refine Below.setCell ?_ ?_ _) | (with_reducible refine Below.alloc ?_ ?_ _) | (with_reducible refine Below.drew ?_) | (with_reducible refine below_drewN ?_ _) | (with_reducible refine below_next ?_ (by with_reducible assumption)) | omega | (dsimp only; omega) | (simp only [World.size_alloc, World.size_setCell, World.size_drew, World.heap_drewN]; omega)))) (fun hHeld => ?_)
              (try simp only [Act.put, List.setIfInBounds_toArray, List.set_cons_zero, List.set_cons_succ])
              refine wpAnyH_done (by kernel_rfl) ?_ _
              go_wp2
              go_ret
              refine ⟨A9, c9, by rw [HLN.out]; rfl, hb9, .inr ⟨HX.out, ?_⟩⟩
              have h := HO9.out
              rw [← HFIN.out] at h
              rw [show (Sol.addI l x).length = (l.take k ++ [x]).length + (l.drop k).length by rw [HFIN.out, List.length_append]]
              exact h
          · skip
            go_simp
            refine hK.out _ _ (by (repeat' (first | (with_reducible exact Below.refl _ _) | (with_reducible assumption) | (with_reducible refine Below.setCell ?_ ?_ _) | (with_reducible refine Below.alloc ?_ ?_ _) | (with_reducible refine Below.drew ?_) | (with_reducible refine below_drewN ?_ _) | (with_reducible refine below_next ?_ (by with_reducible assumption)) | omega | (dsimp only; omega) | (simp only [World.size_alloc, World.size_setCell, World.size_drew, World.heap_drewN]; omega)))) (fun hHeld => ?_)
            (try simp only [Act.put, List.setIfInBounds_toArray, List.set_cons_zero, List.set_cons_succ])
            have ho30 : OwnL 3 intC 1 wr.heap.size (wr.drew.alloc (.cells #[.int .i64 x] 3)) (.slice (some ⟨wr.heap.size, 0, none⟩) 1 1) [x] := OwnL.lit _ _ [x] _ (by simp) (by simp) (by unfold maxLen; simp) rfl rfl
            refine wpAnyH_ready (rs := [0]) (by kernel_rfl) (by simp) ?_
            refine AllReadyH.cons rfl (fun K hK => ?_) AllReadyH.nil
            go_simp
            refine hK.out _ _ (by (repeat' (first | (with_reducible exact Below.refl _ _) | (with_reducible assumption) | (with_reducible refine Below.setCell ?_ ?_ _) | (with_reducible refine Below.alloc ?_ ?_ _) | (with_reducible refine Below.drew ?_) | (with_reducible refine below_drewN ?_ _) | (with_reducible refine below_next ?_ (by with_reducible assumption)) | omega | (dsimp only; omega) | (simp only [World.size_alloc, World.size_setCell, World.size_drew, World.heap_drewN]; omega)))) (fun hHeld => ?_)
            (try simp only [Act.put, List.setIfInBounds_toArray, List.set_cons_zero, List.set_cons_succ])
            refine wpAnyH_ready (rs := [4]) (by kernel_rfl) (by simp) ?_
            refine AllReadyH.cons rfl (fun K hK => ?_) AllReadyH.nil
            refine step_appL wr.heap.size rfl (.tmp 24) (.tmp 27) 28 rfl i0 rfl hi0 hz0 hz1 hz2 _ [] rfl ?c0 A1 k c (l.take k) rfl ((HS.out.take k (by omega)).next (by (repeat' (first | (with_reducible exact Below.refl _ _) | (with_reducible assumption) | (with_reducible refine Below.setCell ?_ ?_ _) | (with_reducible refine Below.alloc ?_ ?_ _) | (with_reducible refine Below.drew ?_) | (with_reducible refine below_drewN ?_ _) | (with_reducible refine below_next ?_ (by with_reducible assumption)) | omega | (dsimp only; omega) | (simp only [World.size_alloc, World.size_setCell, World.size_drew, World.heap_drewN]; omega))))) ?c1 ?c2 ?_
            case c0 => first | exact OwnL.lit _ _ [] _ (by simp) (by first | (simp; done) | (simp; omega)) (by decide) rfl rfl | exact (OwnL.lit (wr.drew) #[] [] _ (by simp) (by simp) (by decide) rfl rfl).next (w' := (wr.drew.alloc (.cells #[] 3)).alloc (.cells #[.int .i64 x] 3)) (by (repeat' (first | (with_reducible exact Below.refl _ _) | (with_reducible assumption) | (with_reducible refine Below.setCell ?_ ?_ _) | (with_reducible refine Below.alloc ?_ ?_ _) | (with_reducible refine Below.drew ?_) | (with_reducible refine below_drewN ?_ _) | (with_reducible refine below_next ?_ (by with_reducible assumption)) | omega | (dsimp only; omega) | (simp only [World.size_alloc, World.size_setCell, World.size_drew, World.heap_drewN]; omega))))
            case c1 => simp; omega
            case c2 => (repeat' (first | (with_reducible exact Below.refl _ _) | (with_reducible assumption) | (with_reducible refine Below.setCell ?_ ?_ _) | (with_reducible refine Below.alloc ?_ ?_ _) | (with_reducible refine Below.drew ?_) | (with_reducible refine below_drewN ?_ _) | (with_reducible refine below_next ?_ (by with_reducible assumption)) | omega | (dsimp only; omega) | (simp only [World.size_alloc, World.size_setCell, World.size_drew, World.heap_drewN]; omega)))
            intro A7 c7 w7 hown hg hB
            have hb7 : Below wr.heap.size wr w7 := Below.trans (by (repeat' (first | (with_reducible exact Below.refl _ _) | (with_reducible assumption) | (with_reducible refine Below.setCell ?_ ?_ _) | (with_reducible refine Below.alloc ?_ ?_ _) | (with_reducible refine Below.drew ?_) | (with_reducible refine below_drewN ?_ _) | (with_reducible refine below_next ?_ (by with_reducible assumption)) | omega | (dsimp only; omega) | (simp only [World.size_alloc, World.size_setCell, World.size_drew, World.heap_drewN]; omega)))) hB
            have hz7 := hb7.size
            rw [hk7] at hown ⊢
            rw [List.nil_append] at hown
            have HO := Lib.hid hown
            have ho31 := ho30.next (w' := (wr.drew.alloc (.cells #[.int .i64 x] 3)).alloc (.cells #[] 3)) (by (repeat' (first | (with_reducible exact Below.refl _ _) | (with_reducible assumption) | (with_reducible refine Below.setCell ?_ ?_ _) | (with_reducible refine Below.alloc ?_ ?_ _) | (with_reducible refine Below.drew ?_) | (with_reducible refine below_drewN ?_ _) | (with_reducible refine below_next ?_ (by with_reducible assumption)) | omega | (dsimp only; omega) | (simp only [World.size_alloc, World.size_setCell, World.size_drew, World.heap_drewN]; omega))))
            have HR30 := Lib.hid ((ho31.keep fun b hb => hg.block b (ho31.lt hb).2 (fun e => by have e1 : wr.heap.size = b := Option.some.inj hb; have e2 : b = wr.heap.size + 1 := Option.some.inj e; omega)).rdl intC_len)
            have hcur : Below w7.heap.size w7 w7 := Below.refl _ _
            clear hown hg hB ho30 ho31
            refine hK.out _ _ (by (repeat' (first | (with_reducible exact Below.refl _ _) | (with_reducible assumption) | (with_reducible refine Below.setCell ?_ ?_ _) | (with_reducible refine Below.alloc ?_ ?_ _) | (with_reducible refine Below.drew ?_) | (with_reducible refine below_drewN ?_ _) | (with_reducible refine below_next ?_ (by with_reducible assumption)) | omega | (dsimp only; omega) | (simp only [World.size_alloc, World.size_setCell, World.size_drew, World.heap_drewN]; omega)))) (fun hHeld => ?_)
            (try simp only [Act.put, List.setIfInBounds_toArray, List.set_cons_zero, List.set_cons_succ])
            refine wpAnyH_ready (rs := [7]) (by kernel_rfl) (by simp) ?_
            refine AllReadyH.cons rfl (fun K hK => ?_) AllReadyH.nil
            refine step_appL wr.heap.size rfl (.tmp 28) (.tmp 30) 28 rfl i0 rfl hi0 hz0 hz1 hz2 _ (l.take k) rfl (HO.out.next hcur) _ 1 1 [x] rfl HR30.out ?_ ?_ ?_
            · simp; omega
            · (repeat' (first | (with_reducible exact Below.refl _ _) | (with_reducible assumption) | (with_reducible refine Below.setCell ?_ ?_ _) | (with_reducible refine Below.alloc ?_ ?_ _) | (with_reducible refine Below.drew ?_) | (with_reducible refine below_drewN ?_ _) | (with_reducible refine below_next ?_ (by with_reducible assumption)) | omega | (dsimp only; omega) | (simp only [World.size_alloc, World.size_setCell, World.size_drew, World.heap_drewN]; omega)))
            intro A8 c8 w8 hown hg hB
            have hb8 : Below wr.heap.size wr w8 := (hb7.trans (hcur.mono hz7)).trans hB
            have hz8 := hb8.size
            have HO8 := Lib.hid hown
            clear hown hg hB
            refine hK.out _ _ (by (repeat' (first | (with_reducible exact Below.refl _ _) | (with_reducible assumption) | (with_reducible refine Below.setCell ?_ ?_ _) | (with_reducible refine Below.alloc ?_ ?_ _) | (with_reducible refine Below.drew ?_) | (with_reducible refine below_drewN ?_ _) | (with_reducible refine below_next ?_ (by with_reducible assumption)) | omega | (dsimp only; omega) | (simp only [World.size_alloc, World.size_setCell, World.size_drew, World.heap_drewN]; omega)))) (fun hHeld => ?_)
            (try simp only [Act.put, List.setIfInBounds_toArray, List.set_cons_zero, List.set_cons_succ])
            refine wpAnyH_ready (rs := [11]) (by kernel_rfl) (by simp) ?_
            refine AllReadyH.cons rfl (fun K hK => ?_) AllReadyH.nil
            refine step_appL wr.heap.size rfl (.tmp 31) (.tmp 34) 28 rfl i0 rfl hi0 hz0 hz1 hz2 _ (l.take k ++ [x]) rfl HO8.out (fromA A1 c k 1) (l.length - k) (c - k) (l.drop k) rfl (((HS.out.from k (by omega))).next hb8) ?_ ?_ ?_
            · simp; omega
            · (repeat' (first | (with_reducible exact Below.refl _ _) | (with_reducible assumption) | (with_reducible refine Below.setCell ?_ ?_ _) | (with_reducible refine Below.alloc ?_ ?_ _) | (with_reducible refine Below.drew ?_) | (with_reducible refine below_drewN ?_ _) | (with_reducible refine below_next ?_ (by with_reducible assumption)) | omega | (dsimp only; omega) | (simp only [World.size_alloc, World.size_setCell, World.size_drew, World.heap_drewN]; omega)))
            intro A9 c9 w9 hown hg hB
            have hb9 : Below wr.heap.size wr w9 := hb8.trans hB
            have hz9 := hb9.size
            have HO9 := Lib.hid hown
            clear hown hg hB
            refine hK.out _ _ (by (repeat' (first | (with_reducible exact Below.refl _ _) | (with_reducible assumption) | (with_reducible refine Below.setCell ?_ ?_ _) | (with_reducible refine Below.alloc ?_ ?_ _) | (with_reducible refine Below.drew ?_) | (with_reducible refine below_drewN ?_ _) | (with_reducible refine below_next ?_ (by with_reducible assumption)) | omega | (dsimp only; omega) | (simp only [World.size_alloc, World.size_setCell, World.size_drew, World.heap_drewN]; omega)))) (fun hHeld => ?_)
            (try simp only [Act.put, List.setIfInBounds_toArray, List.set_cons_zero, List.set_cons_succ])
            refine wpAnyH_ready (rs := [12]) (by kernel_rfl) (by simp) ?_
            refine AllReadyH.cons rfl (fun K hK => ?_) AllReadyH.nil
            go_simp
            refine hK.out _ _ (by (repeat' (first | (with_reducible exact Below.refl _ _) | (with_reducible assumption) | (with_reducible refine Below.setCell ?_ ?_ _) | (with_reducible refine Below.alloc ?_ ?_ _) | (with_reducible refine Below.drew ?_) | (with_reducible refine below_drewN ?_ _) | (with_reducible refine below_next ?_ (by with_reducible assumption)) | omega | (dsimp only; omega) | (simp only [World.size_alloc, World.size_setCell, World.size_drew, World.heap_drewN]; omega)))) (fun hHeld => ?_)
            (try simp only [Act.put, List.setIfInBounds_toArray, List.set_cons_zero, List.set_cons_succ])
            refine wpAnyH_done (by kernel_rfl) ?_ _
            go_wp2
            go_ret
            refine ⟨A9, c9, by rw [HLN.out]; rfl, hb9, .inr ⟨HX.out, ?_⟩⟩
            have h := HO9.out
            rw [← HFIN.out] at h
            rw [show (Sol.addI l x).length = (l.take k ++ [x]).length + (l.drop k).length by rw [HFIN.out, List.length_append]]
            exact h
      · obtain rfl : k = L := by omega
        go_wp2
        have hk7 : ([] : List Int).length + (l.take k).length = k := by simp; omega
        have HFIN : Hid (Sol.addI l x = l.take k ++ [x] ++ l.drop k) := Lib.hid (by rw [HADD.out, HL.out, HTK.out]; simp)
        have HLN : Hid ((Sol.addI l x).length = k + 1 + (l.length - k)) := Lib.hid (by rw [HFIN.out]; simp; omega)
        obtain ⟨A1, hA1'⟩ : ∃ A1 : Option Addr, A1 = A := ⟨_, rfl⟩
        rw [← hA1'] at HS ⊢
        clear hA1'
        have HTO := Lib.hid fun W => (run_sliceAt_slice (P := Try.prog) (w := W) 28 (.slice A1 l.length c) none (some (.int .i64 k)) none rfl).trans (run_slice_to (P := Try.prog) (T := 28) (e := 3) (sz := 1) rfl (by kernel_rfl) A1 l.length c k (by omega) W)
        have HFR := Lib.hid fun W => (run_sliceAt_slice (P := Try.prog) (w := W) 28 (.slice A1 l.length c) (some (.int .i64 k)) none none rfl).trans (run_slice_from (P := Try.prog) (T := 28) (e := 3) (sz := 1) rfl (by kernel_rfl) A1 l.length c k (by omega) (by omega) W)
        refine wp_region_held_drew (S := fun W => Below wr.heap.size wr W) (by kernel_rfl) ((Below.refl _ _).drew) (fun hHeld => ?_)
        refine takeR (i := 1) (some 25) (v := ?_) rfl rfl (by kernel_rfl) (by kernel_rfl) (by kernel_rfl) (fun _ _ _ h => h) (Or.inl ⟨by rfl, ?_⟩) (by assumption) ?_
        rotate_left
        (focus (intro W hSw; (try dsimp only at hSw); go_simp; (try with_reducible rfl)))
        (try simp only [Act.put, List.setIfInBounds_toArray, List.set_cons_zero, List.set_cons_succ])
        refine takeR (i := 2) (some 26) (v := ?_) rfl rfl (by kernel_rfl) (by kernel_rfl) (by kernel_rfl) (fun _ _ _ h => h) (Or.inl ⟨by rfl, ?_⟩) (by assumption) ?_
        rotate_left
        (focus (intro W hSw; (try dsimp only at hSw); go_simp; (try with_reducible rfl)))
        (try simp only [Act.put, List.setIfInBounds_toArray, List.set_cons_zero, List.set_cons_succ])
        refine takeR (i := 3) (some 27) (v := .slice A1 k c) rfl rfl (by kernel_rfl) (by kernel_rfl) (by kernel_rfl) (fun _ _ _ h => h) (Or.inl ⟨by rfl, fun W _ => by simp [execOp, Act.eval, HTO.out W]⟩) (by assumption) ?_
        (try simp only [Act.put, List.setIfInBounds_toArray, List.set_cons_zero, List.set_cons_succ])
        refine takeR (i := 5) (some 29) (v := ?_) rfl rfl (by kernel_rfl) (by kernel_rfl) (by kernel_rfl) (fun _ _ _ h => h) (Or.inl ⟨by rfl, ?_⟩) (by assumption) ?_
        rotate_left
        (focus (intro W hSw; (try dsimp only at hSw); go_simp; (try with_reducible rfl)))
        (try simp only [Act.put, List.setIfInBounds_toArray, List.set_cons_zero, List.set_cons_succ])
        refine takeR (i := 8) (some 32) (v := ?_) rfl rfl (by kernel_rfl) (by kernel_rfl) (by kernel_rfl) (fun _ _ _ h => h) (Or.inl ⟨by rfl, ?_⟩) (by assumption) ?_
        rotate_left
        (focus (intro W hSw; (try dsimp only at hSw); go_simp; (try with_reducible rfl)))
        (try simp only [Act.put, List.setIfInBounds_toArray, List.set_cons_zero, List.set_cons_succ])
        refine takeR (i := 9) (some 33) (v := ?_) rfl rfl (by kernel_rfl) (by kernel_rfl) (by kernel_rfl) (fun _ _ _ h => h) (Or.inl ⟨by rfl, ?_⟩) (by assumption) ?_
        rotate_left
        (focus (intro W hSw; (try dsimp only at hSw); go_simp; (try with_reducible rfl)))
        (try simp only [Act.put, List.setIfInBounds_toArray, List.set_cons_zero, List.set_cons_succ])
        refine takeR (i := 10) (some 34) (v := .slice (fromA A1 c k 1) (l.length - k) (c - k)) rfl rfl (by kernel_rfl) (by kernel_rfl) (by kernel_rfl) (fun _ _ _ h => h) (Or.inl ⟨by rfl, fun W _ => by simp [execOp, Act.eval, HFR.out W]⟩) (by assumption) ?_
        (try simp only [Act.put, List.setIfInBounds_toArray, List.set_cons_zero, List.set_cons_succ])
        refine wpAnyH_ready (rs := [0, 6]) (by kernel_rfl) (by simp) ?_
        refine AllReadyH.cons rfl (fun K hK => ?_) (AllReadyH.cons rfl (fun K hK => ?_) AllReadyH.nil)
        · skip
          go_simp
          refine hK.out _ _ (by (repeat' (first | (with_reducible exact Below.refl _ _) | (with_reducible assumption) | (with_reducible refine Below.setCell ?_ ?_ _) | (with_reducible refine Below.alloc ?_ ?_ _) | (with_reducible refine Below.drew ?_) | (with_reducible refine below_drewN ?_ _) | (with_reducible refine below_next ?_ (by with_reducible assumption)) | omega | (dsimp only; omega) | (simp only [World.size_alloc, World.size_setCell, World.size_drew, World.heap_drewN]; omega)))) (fun hHeld => ?_)
          (try simp only [Act.put, List.setIfInBounds_toArray, List.set_cons_zero, List.set_cons_succ])
          refine wpAnyH_ready (rs := [4, 6]) (by kernel_rfl) (by simp) ?_
          refine AllReadyH.cons rfl (fun K hK => ?_) (AllReadyH.cons rfl (fun K hK => ?_) AllReadyH.nil)
          · skip
            refine step_appL wr.heap.size rfl (.tmp 24) (.tmp 27) 28 rfl i0 rfl hi0 hz0 hz1 hz2 _ [] rfl ?c0 A1 k c (l.take k) rfl ((HS.out.take k (by omega)).next (by (repeat' (first | (with_reducible exact Below.refl _ _) | (with_reducible assumption) | (with_reducible refine Below.setCell ?_ ?_ _) | (with_reducible refine Below.alloc ?_ ?_ _) | (with_reducible refine Below.drew ?_) | (with_reducible refine below_drewN ?_ _) | (with_reducible refine below_next ?_ (by with_reducible assumption)) | omega | (dsimp only; omega) | (simp only [World.size_alloc, World.size_setCell, World.size_drew, World.heap_drewN]; omega))))) ?c1 ?c2 ?_
            case c0 => first | exact OwnL.lit _ _ [] _ (by simp) (by first | (simp; done) | (simp; omega)) (by decide) rfl rfl | exact (OwnL.lit (wr.drew) #[] [] _ (by simp) (by simp) (by decide) rfl rfl).next (w' := (wr.drew.alloc (.cells #[] 3)).alloc (.cells #[.int .i64 x] 3)) (by (repeat' (first | (with_reducible exact Below.refl _ _) | (with_reducible assumption) | (with_reducible refine Below.setCell ?_ ?_ _) | (with_reducible refine Below.alloc ?_ ?_ _) | (with_reducible refine Below.drew ?_) | (with_reducible refine below_drewN ?_ _) | (with_reducible refine below_next ?_ (by with_reducible assumption)) | omega | (dsimp only; omega) | (simp only [World.size_alloc, World.size_setCell, World.size_drew, World.heap_drewN]; omega))))
            case c1 => simp; omega
            case c2 => (repeat' (first | (with_reducible exact Below.refl _ _) | (with_reducible assumption) | (with_reducible refine Below.setCell ?_ ?_ _) | (with_reducible refine Below.alloc ?_ ?_ _) | (with_reducible refine Below.drew ?_) | (with_reducible refine below_drewN ?_ _) | (with_reducible refine below_next ?_ (by with_reducible assumption)) | omega | (dsimp only; omega) | (simp only [World.size_alloc, World.size_setCell, World.size_drew, World.heap_drewN]; omega)))
            intro A7 c7 w7 hown hg hB
            have hb7 : Below wr.heap.size wr w7 := Below.trans (by (repeat' (first | (with_reducible exact Below.refl _ _) | (with_reducible assumption) | (with_reducible refine Below.setCell ?_ ?_ _) | (with_reducible refine Below.alloc ?_ ?_ _) | (with_reducible refine Below.drew ?_) | (with_reducible refine below_drewN ?_ _) | (with_reducible refine below_next ?_ (by with_reducible assumption)) | omega | (dsimp only; omega) | (simp only [World.size_alloc, World.size_setCell, World.size_drew, World.heap_drewN]; omega)))) hB
            have hz7 := hb7.size
            rw [hk7] at hown ⊢
            rw [List.nil_append] at hown
            have HO := Lib.hid hown
            clear hown hg hB
            refine hK.out _ _ (by (repeat' (first | (with_reducible exact Below.refl _ _) | (with_reducible assumption) | (with_reducible refine Below.setCell ?_ ?_ _) | (with_reducible refine Below.alloc ?_ ?_ _) | (with_reducible refine Below.drew ?_) | (with_reducible refine below_drewN ?_ _) | (with_reducible refine below_next ?_ (by with_reducible assumption)) | omega | (dsimp only; omega) | (simp only [World.size_alloc, World.size_setCell, World.size_drew, World.heap_drewN]; omega)))) (fun hHeld => ?_)
            (try simp only [Act.put, List.setIfInBounds_toArray, List.set_cons_zero, List.set_cons_succ])
            refine wpAnyH_ready (rs := [6]) (by kernel_rfl) (by simp) ?_
            refine AllReadyH.cons rfl (fun K hK => ?_) AllReadyH.nil
            go_simp
            refine hK.out _ _ (by (repeat' (first | (with_reducible exact Below.refl _ _) | (with_reducible assumption) | (with_reducible refine Below.setCell ?_ ?_ _) | (with_reducible refine Below.alloc ?_ ?_ _) | (with_reducible refine Below.drew ?_) | (with_reducible refine below_drewN ?_ _) | (with_reducible refine below_next ?_ (by with_reducible assumption)) | omega | (dsimp only; omega) | (simp only [World.size_alloc, World.size_setCell, World.size_drew, World.heap_drewN]; omega)))) (fun hHeld => ?_)
            (try simp only [Act.put, List.setIfInBounds_toArray, List.set_cons_zero, List.set_cons_succ])
            have HR30 := Lib.hid (own_one w7 3 x)
            have hcur : Below w7.heap.size w7 (w7.alloc (.cells #[.int .i64 x] 3)) := by (repeat' (first | (with_reducible exact Below.refl _ _) | (with_reducible assumption) | (with_reducible refine Below.setCell ?_ ?_ _) | (with_reducible refine Below.alloc ?_ ?_ _) | (with_reducible refine Below.drew ?_) | (with_reducible refine below_drewN ?_ _) | (with_reducible refine below_next ?_ (by with_reducible assumption)) | omega | (dsimp only; omega) | (simp only [World.size_alloc, World.size_setCell, World.size_drew, World.heap_drewN]; omega)))
            refine wpAnyH_ready (rs := [7]) (by kernel_rfl) (by simp) ?_
            refine AllReadyH.cons rfl (fun K hK => ?_) AllReadyH.nil
            refine step_appL wr.heap.size rfl (.tmp 28) (.tmp 30) 28 rfl i0 rfl hi0 hz0 hz1 hz2 _ (l.take k) rfl (HO.out.next hcur) _ 1 1 [x] rfl HR30.out ?_ ?_ ?_
            · simp; omega
            · (repeat' (first | (with_reducible exact Below.refl _ _) | (with_reducible assumption) | (with_reducible refine Below.setCell ?_ ?_ _) | (with_reducible refine Below.alloc ?_ ?_ _) | (with_reducible refine Below.drew ?_) | (with_reducible refine below_drewN ?_ _) | (with_reducible refine below_next ?_ (by with_reducible assumption)) | omega | (dsimp only; omega) | (simp only [World.size_alloc, World.size_setCell, World.size_drew, World.heap_drewN]; omega)))
            intro A8 c8 w8 hown hg hB
            have hb8 : Below wr.heap.size wr w8 := (hb7.trans (hcur.mono hz7)).trans hB
            have hz8 := hb8.size
            have HO8 := Lib.hid hown
            clear hown hg hB
            refine hK.out _ _ (by (repeat' (first | (with_reducible exact Below.refl _ _) | (with_reducible assumption) | (with_reducible refine Below.setCell ?_ ?_ _) | (with_reducible refine Below.alloc ?_ ?_ _) | (with_reducible refine Below.drew ?_) | (with_reducible refine below_drewN ?_ _) | (with_reducible refine below_next ?_ (by with_reducible assumption)) | omega | (dsimp only; omega) | (simp only [World.size_alloc, World.size_setCell, World.size_drew, World.heap_drewN]; omega)))) (fun hHeld => ?_)
            (try simp only [Act.put, List.setIfInBounds_toArray, List.set_cons_zero, List.set_cons_succ])
            refine wpAnyH_ready (rs := [11]) (by kernel_rfl) (by simp) ?_
            refine AllReadyH.cons rfl (fun K hK => ?_) AllReadyH.nil
            refine step_appL wr.heap.size rfl (.tmp 31) (.tmp 34) 28 rfl i0 rfl hi0 hz0 hz1 hz2 _ (l.take k ++ [x]) rfl HO8.out (fromA A1 c k 1) (l.length - k) (c - k) (l.drop k) rfl (((HS.out.from k (by omega))).next hb8) ?_ ?_ ?_
            · simp; omega
            · (repeat' (first | (with_reducible exact Below.refl _ _) | (with_reducible assumption) | (with_reducible refine Below.setCell ?_ ?_ _) | (with_reducible refine Below.alloc ?_ ?_ _) | (with_reducible refine Below.drew ?_) | (with_reducible refine below_drewN ?_ _) | (with_reducible refine below_next ?_ (by with_reducible assumption)) | omega | (dsimp only; omega) | (simp only [World.size_alloc, World.size_setCell, World.size_drew, World.heap_drewN]; omega)))
            intro A9 c9 w9 hown hg hB
            have hb9 : Below wr.heap.size wr w9 := hb8.trans hB
            have hz9 := hb9.size
            have HO9 := Lib.hid hown
            clear hown hg hB
            refine hK.out _ _ (by (repeat' (first | (with_reducible exact Below.refl _ _) | (with_reducible assumption) | (with_reducible refine Below.setCell ?_ ?_ _) | (with_reducible refine Below.alloc ?_ ?_ _) | (with_reducible refine Below.drew ?_) | (with_reducible refine below_drewN ?_ _) | (with_reducible refine below_next ?_ (by with_reducible assumption)) | omega | (dsimp only; omega) | (simp only [World.size_alloc, World.size_setCell, World.size_drew, World.heap_drewN]; omega)))) (fun hHeld => ?_)
            (try simp only [Act.put, List.setIfInBounds_toArray, List.set_cons_zero, List.set_cons_succ])
            refine wpAnyH_ready (rs := [12]) (by kernel_rfl) (by simp) ?_
            refine AllReadyH.cons rfl (fun K hK => ?_) AllReadyH.nil
            go_simp
            refine hK.out _ _ (by (repeat' (first | (with_reducible exact Below.refl _ _) | (with_reducible assumption) | (with_reducible refine Below.setCell ?_ ?_ _) | (with_reducible refine Below.alloc ?_ ?_ _) | (with_reducible refine Below.drew ?_) | (with_reducible refine below_drewN ?_ _) | (with_reducible refine below_next ?_ (by with_reducible assumption)) | omega | (dsimp only; omega) | (simp only [World.size_alloc, World.size_setCell, World.size_drew, World.heap_drewN]; omega)))) (fun hHeld => ?_)
            (try simp only [Act.put, List.setIfInBounds_toArray, List.set_cons_zero, List.set_cons_succ])
            refine wpAnyH_done (by kernel_rfl) ?_ _
            go_wp2
            go_ret
            refine ⟨A9, c9, by rw [HLN.out]; rfl, hb9, .inr ⟨HX.out, ?_⟩⟩
            have h := HO9.out
            rw [← HFIN.out] at h
            rw [show (Sol.addI l x).length = (l.take k ++ [x]).length + (l.drop k).length by rw [HFIN.out, List.length_append]]
            exact h
          · skip
            go_simp
            refine hK.out _ _ (by (repeat' (first | (with_reducible exact Below.refl _ _) | (with_reducible assumption) | (with_reducible refine Below.setCell ?_ ?_ _) | (with_reducible refine Below.alloc ?_ ?_ _) | (with_reducible refine Below.drew ?_) | (with_reducible refine below_drewN ?_ _) | (with_reducible refine below_next ?_ (by with_reducible assumption)) | omega | (dsimp only; omega) | (simp only [World.size_alloc, World.size_setCell, World.size_drew, World.heap_drewN]; omega)))) (fun hHeld => ?_)
            (try simp only [Act.put, List.setIfInBounds_toArray, List.set_cons_zero, List.set_cons_succ])
            have ho30 : OwnL 3 intC 1 (wr.heap.size + 1) ((wr.drew.alloc (.cells #[] 3)).alloc (.cells #[.int .i64 x] 3)) (.slice (some ⟨wr.heap.size + 1, 0, none⟩) 1 1) [x] := OwnL.lit _ _ [x] _ (by simp) (by simp) (by unfold maxLen; simp) rfl rfl
            refine wpAnyH_ready (rs := [4]) (by kernel_rfl) (by simp) ?_
            refine AllReadyH.cons rfl (fun K hK => ?_) AllReadyH.nil
            refine step_appL wr.heap.size rfl (.tmp 24) (.tmp 27) 28 rfl i0 rfl hi0 hz0 hz1 hz2 _ [] rfl ?c0 A1 k c (l.take k) rfl ((HS.out.take k (by omega)).next (by (repeat' (first | (with_reducible exact Below.refl _ _) | (with_reducible assumption) | (with_reducible refine Below.setCell ?_ ?_ _) | (with_reducible refine Below.alloc ?_ ?_ _) | (with_reducible refine Below.drew ?_) | (with_reducible refine below_drewN ?_ _) | (with_reducible refine below_next ?_ (by with_reducible assumption)) | omega | (dsimp only; omega) | (simp only [World.size_alloc, World.size_setCell, World.size_drew, World.heap_drewN]; omega))))) ?c1 ?c2 ?_
            case c0 => first | exact OwnL.lit _ _ [] _ (by simp) (by first | (simp; done) | (simp; omega)) (by decide) rfl rfl | exact (OwnL.lit (wr.drew) #[] [] _ (by simp) (by simp) (by decide) rfl rfl).next (w' := (wr.drew.alloc (.cells #[] 3)).alloc (.cells #[.int .i64 x] 3)) (by (repeat' (first | (with_reducible exact Below.refl _ _) | (with_reducible assumption) | (with_reducible refine Below.setCell ?_ ?_ _) | (with_reducible refine Below.alloc ?_ ?_ _) | (with_reducible refine Below.drew ?_) | (with_reducible refine below_drewN ?_ _) | (with_reducible refine below_next ?_ (by with_reducible assumption)) | omega | (dsimp only; omega) | (simp only [World.size_alloc, World.size_setCell, World.size_drew, World.heap_drewN]; omega))))
            case c1 => simp; omega
            case c2 => (repeat' (first | (with_reducible exact Below.refl _ _) | (with_reducible assumption) | (with_reducible refine Below.setCell ?_ ?_ _) | (with_reducible refine Below.alloc ?_ ?_ _) | (with_reducible refine Below.drew ?_) | (with_reducible refine below_drewN ?_ _) | (with_reducible refine below_next ?_ (by with_reducible assumption)) | omega | (dsimp only; omega) | (simp only [World.size_alloc, World.size_setCell, World.size_drew, World.heap_drewN]; omega)))
            intro A7 c7 w7 hown hg hB
            have hb7 : Below wr.heap.size wr w7 := Below.trans (by (repeat' (first | (with_reducible exact Below.refl _ _) | (with_reducible assumption) | (with_reducible refine Below.setCell ?_ ?_ _) | (with_reducible refine Below.alloc ?_ ?_ _) | (with_reducible refine Below.drew ?_) | (with_reducible refine below_drewN ?_ _) | (with_reducible refine below_next ?_ (by with_reducible assumption)) | omega | (dsimp only; omega) | (simp only [World.size_alloc, World.size_setCell, World.size_drew, World.heap_drewN]; omega)))) hB
            have hz7 := hb7.size
            rw [hk7] at hown ⊢
            rw [List.nil_append] at hown
            have HO := Lib.hid hown
            have HR30 := Lib.hid ((ho30.keep fun b hb => hg.block b (ho30.lt hb).2 (fun e => by have := (ho30.lt hb).1; have e2 : b = wr.heap.size := Option.some.inj e; omega)).rdl intC_len)
            have hcur : Below w7.heap.size w7 w7 := Below.refl _ _
            clear hown hg hB ho30
            refine hK.out _ _ (by (repeat' (first | (with_reducible exact Below.refl _ _) | (with_reducible assumption) | (with_reducible refine Below.setCell ?_ ?_ _) | (with_reducible refine Below.alloc ?_ ?_ _) | (with_reducible refine Below.drew ?_) | (with_reducible refine below_drewN ?_ _) | (with_reducible refine below_next ?_ (by with_reducible assumption)) | omega | (dsimp only; omega) | (simp only [World.size_alloc, World.size_setCell, World.size_drew, World.heap_drewN]; omega)))) (fun hHeld => ?_)
            (try simp only [Act.put, List.setIfInBounds_toArray, List.set_cons_zero, List.set_cons_succ])
            refine wpAnyH_ready (rs := [7]) (by kernel_rfl) (by simp) ?_
            refine AllReadyH.cons rfl (fun K hK => ?_) AllReadyH.nil
            refine step_appL wr.heap.size rfl (.tmp 28) (.tmp 30) 28 rfl i0 rfl hi0 hz0 hz1 hz2 _ (l.take k) rfl (HO.out.next hcur) _ 1 1 [x] rfl HR30.out ?_ ?_ ?_
            · simp; omega
            · (repeat' (first | (with_reducible exact Below.refl _ _) | (with_reducible assumption) | (with_reducible refine Below.setCell ?_ ?_ _) | (with_reducible refine Below.alloc ?_ ?_ _) | (with_reducible refine Below.drew ?_) | (with_reducible refine below_drewN ?_ _) | (with_reducible refine below_next ?_ (by with_reducible assumption)) | omega | (dsimp only; omega) | (simp only [World.size_alloc, World.size_setCell, World.size_drew, World.heap_drewN]; omega)))
            intro A8 c8 w8 hown hg hB
            have hb8 : Below wr.heap.size wr w8 := (hb7.trans (hcur.mono hz7)).trans hB
            have hz8 := hb8.size
            have HO8 := Lib.hid hown
            clear hown hg hB
            refine hK.out _ _ (by (repeat' (first | (with_reducible exact Below.refl _ _) | (with_reducible assumption) | (with_reducible refine Below.setCell ?_ ?_ _) | (with_reducible refine Below.alloc ?_ ?_ _) | (with_reducible refine Below.drew ?_) | (with_reducible refine below_drewN ?_ _) | (with_reducible refine below_next ?_ (by with_reducible assumption)) | omega | (dsimp only; omega) | (simp only [World.size_alloc, World.size_setCell, World.size_drew, World.heap_drewN]; omega)))) (fun hHeld => ?_)
            (try simp only [Act.put, List.setIfInBounds_toArray, List.set_cons_zero, List.set_cons_succ])
            refine wpAnyH_ready (rs := [11]) (by kernel_rfl) (by simp) ?_
            refine AllReadyH.cons rfl (fun K hK => ?_) AllReadyH.nil
            refine step_appL wr.heap.size rfl (.tmp 31) (.tmp 34) 28 rfl i0 rfl hi0 hz0 hz1 hz2 _ (l.take k ++ [x]) rfl HO8.out (fromA A1 c k 1) (l.length - k) (c - k) (l.drop k) rfl (((HS.out.from k (by omega))).next hb8) ?_ ?_ ?_
            · simp; omega
            · (repeat' (first | (with_reducible exact Below.refl _ _) | (with_reducible assumption) | (with_reducible refine Below.setCell ?_ ?_ _) | (with_reducible refine Below.alloc ?_ ?_ _) | (with_reducible refine Below.drew ?_) | (with_reducible refine below_drewN ?_ _) | (with_reducible refine below_next ?_ (by with_reducible assumption)) | omega | (dsimp only; omega) | (simp only [World.size_alloc, World.size_setCell, World.size_drew, World.heap_drewN]; omega)))
            intro A9 c9 w9 hown hg hB
            have hb9 : Below wr.heap.size wr w9 := hb8.trans hB
            have hz9 := hb9.size
            have HO9 := Lib.hid hown
            clear hown hg hB
            refine hK.out _ _ (by (repeat' (first | (with_reducible exact Below.refl _ _) | (with_reducible assumption) | (with_reducible refine Below.setCell ?_ ?_ _) | (with_reducible refine Below.alloc ?_ ?_ _) | (with_reducible refine Below.drew ?_) | (with_reducible refine below_drewN ?_ _) | (with_reducible refine below_next ?_ (by with_reducible assumption)) | omega | (dsimp only; omega) | (simp only [World.size_alloc, World.size_setCell, World.size_drew, World.heap_drewN]; omega)))) (fun hHeld => ?_)
            (try simp only [Act.put, List.setIfInBounds_toArray, List.set_cons_zero, List.set_cons_succ])
            refine wpAnyH_ready (rs := [12]) (by kernel_rfl) (by simp) ?_
            refine AllReadyH.cons rfl (fun K hK => ?_) AllReadyH.nil
            go_simp
            refine hK.out _ _ (by (repeat' (first | (with_reducible exact Below.refl _ _) | (with_reducible assumption) | (with_reducible refine Below.setCell ?_ ?_ _) | (with_reducible refine Below.alloc ?_ ?_ _) | (with_reducible refine Below.drew ?_) | (with_reducible refine below_drewN ?_ _) | (with_reducible refine below_next ?_ (by with_reducible assumption)) | omega | (dsimp only; omega) | (simp only [World.size_alloc, World.size_setCell, World.size_drew, World.heap_drewN]; omega)))) (fun hHeld => ?_)
            (try simp only [Act.put, List.setIfInBounds_toArray, List.set_cons_zero, List.set_cons_succ])
            refine wpAnyH_done (by kernel_rfl) ?_ _
            go_wp2
            go_ret
            refine ⟨A9, c9, by rw [HLN.out]; rfl, hb9, .inr ⟨HX.out, ?_⟩⟩
            have h := HO9.out
            rw [← HFIN.out] at h
            rw [show (Sol.addI l x).length = (l.take k ++ [x]).length + (l.drop k).length by rw [HFIN.out, List.length_append]]
            exact h
        · skip
          go_simp
          refine hK.out _ _ (by (repeat' (first | (with_reducible exact Below.refl _ _) | (with_reducible assumption) | (with_reducible refine Below.setCell ?_ ?_ _) | (with_reducible refine Below.alloc ?_ ?_ _) | (with_reducible refine Below.drew ?_) | (with_reducible refine below_drewN ?_ _) | (with_reducible refine below_next ?_ (by with_reducible assumption)) | omega | (dsimp only; omega) | (simp only [World.size_alloc, World.size_setCell, World.size_drew, World.heap_drewN]; omega)))) (fun hHeld => ?_)
          (try simp only [Act.put, List.setIfInBounds_toArray, List.set_cons_zero, List.set_cons_succ])
          have ho30 : OwnL 3 intC 1 wr.heap.size (wr.drew.alloc (.cells #[.int .i64 x] 3)) (.slice (some ⟨wr.heap.size, 0, none⟩) 1 1) [x] := OwnL.lit _ _ [x] _ (by simp) (by simp) (by unfold maxLen; simp) rfl rfl
          refine wpAnyH_ready (rs := [0]) (by kernel_rfl) (by simp) ?_
          refine AllReadyH.cons rfl (fun K hK => ?_) AllReadyH.nil
          go_simp
          refine hK.out _ _ (by (repeat' (first | (with_reducible exact Below.refl _ _) | (with_reducible assumption) | (with_reducible refine Below.setCell ?_ ?_ _) | (with_reducible refine Below.alloc ?_ ?_ _) | (with_reducible refine Below.drew ?_) | (with_reducible refine below_drewN ?_ _) | (with_reducible refine below_next ?_ (by with_reducible assumption)) | omega | (dsimp only; omega) | (simp only [World.size_alloc, World.size_setCell, World.size_drew, World.heap_drewN]; omega)))) (fun hHeld => ?_)
          (try simp only [Act.put, List.setIfInBounds_toArray, List.set_cons_zero, List.set_cons_succ])
          refine wpAnyH_ready (rs := [4]) (by kernel_rfl) (by simp) ?_
          refine AllReadyH.cons rfl (fun K hK => ?_) AllReadyH.nil
          refine step_appL wr.heap.size rfl (.tmp 24) (.tmp 27) 28 rfl i0 rfl hi0 hz0 hz1 hz2 _ [] rfl ?c0 A1 k c (l.take k) rfl ((HS.out.take k (by omega)).next (by (repeat' (first | (with_reducible exact Below.refl _ _) | (with_reducible assumption) | (with_reducible refine Below.setCell ?_ ?_ _) | (with_reducible refine Below.alloc ?_ ?_ _) | (with_reducible refine Below.drew ?_) | (with_reducible refine below_drewN ?_ _) | (with_reducible refine below_next ?_ (by with_reducible assumption)) | omega | (dsimp only; omega) | (simp only [World.size_alloc, World.size_setCell, World.size_drew, World.heap_drewN]; omega))))) ?c1 ?c2 ?_
          case c0 => first | exact OwnL.lit _ _ [] _ (by simp) (by first | (simp; done) | (simp; omega)) (by decide) rfl rfl | exact (OwnL.lit (wr.drew) #[] [] _ (by simp) (by simp) (by decide) rfl rfl).next (w' := (wr.drew.alloc (.cells #[] 3)).alloc (.cells #[.int .i64 x] 3)) (by (repeat' (first | (with_reducible exact Below.refl _ _) | (with_reducible assumption) | (with_reducible refine Below.setCell ?_ ?_ _) | (with_reducible refine Below.alloc ?_ ?_ _) | (with_reducible refine Below.drew ?_) | (with_reducible refine below_drewN ?_ _) | (with_reducible refine below_next ?_ (by with_reducible assumption)) | omega | (dsimp only; omega) | (simp only [World.size_alloc, World.size_setCell, World.size_drew, World.heap_drewN]; omega))))
          case c1 => simp; omega
          case c2 => (repeat' (first | (with_reducible exact Below.refl _ _) | (with_reducible assumption) | (with_reducible refine Below.setCell ?_ ?_ _) | (with_reducible refine Below.alloc ?_ ?_ _) | (with_reducible refine Below.drew ?_) | (with_reducible refine below_drewN ?_ _) | (with_reducible refine below_next ?_ (by with_reducible assumption)) | omega | (dsimp only; omega) | (simp only [World.size_alloc, World.size_setCell, World.size_drew, World.heap_drewN]; omega)))
          intro A7 c7 w7 hown hg hB
          have hb7 : Below wr.heap.size wr w7 := Below.trans (by (repeat' (first | (with_reducible exact Below.refl _ _) | (with_reducible assumption) | (with_reducible refine Below.setCell ?_ ?_ _) | (with_reducible refine Below.alloc ?_ ?_ _) | (with_reducible refine Below.drew ?_) | (with_reducible refine below_drewN ?_ _) | (with_reducible refine below_next ?_ (by with_reducible assumption)) | omega | (dsimp only; omega) | (simp only [World.size_alloc, World.size_setCell, World.size_drew, World.heap_drewN]; omega)))) hB
          have hz7 := hb7.size
          rw [hk7] at hown ⊢
          rw [List.nil_append] at hown
          have HO := Lib.hid hown
          have ho31 := ho30.next (w' := (wr.drew.alloc (.cells #[.int .i64 x] 3)).alloc (.cells #[] 3)) (by (repeat' (first | (with_reducible exact Below.refl _ _) | (with_reducible assumption) | (with_reducible refine Below.setCell ?_ ?_ _) | (with_reducible refine Below.alloc ?_ ?_ _) | (with_reducible refine Below.drew ?_) | (with_reducible refine below_drewN ?_ _) | (with_reducible refine below_next ?_ (by with_reducible assumption)) | omega | (dsimp only; omega) | (simp only [World.size_alloc, World.size_setCell, World.size_drew, World.heap_drewN]; omega))))
          have HR30 := Lib.hid ((ho31.keep fun b hb => hg.block b (ho31.lt hb).2 (fun e => by have e1 : wr.heap.size = b := Option.some.inj hb; have e2 : b = wr.heap.size + 1 := Option.some.inj e; omega)).rdl intC_len)
          have hcur : Below w7.heap.size w7 w7 := Below.refl _ _
          clear hown hg hB ho30 ho31
          refine hK.out _ _ (by (repeat' (first | (with_reducible exact Below.refl _ _) | (with_reducible assumption) | (with_reducible refine Below.setCell ?_ ?_ _) | (with_reducible refine Below.alloc ?_ ?_ _) | (with_reducible refine Below.drew ?_) | (with_reducible refine below_drewN ?_ _) | (with_reducible refine below_next ?_ (by with_reducible assumption)) | omega | (dsimp only; omega) | (simp only [World.size_alloc, World.size_setCell, World.size_drew, World.heap_drewN]; omega)))) (fun hHeld => ?_)
          (try simp only [Act.put, List.setIfInBounds_toArray, List.set_cons_zero, List.set_cons_succ])
          refine wpAnyH_ready (rs := [7]) (by kernel_rfl) (by simp) ?_
          refine AllReadyH.cons rfl (fun K hK => ?_) AllReadyH.nil
          refine step_appL wr.heap.size rfl (.tmp 28) (.tmp 30) 28 rfl i0 rfl hi0 hz0 hz1 hz2 _ (l.take k) rfl (HO.out.next hcur) _ 1 1 [x] rfl HR30.out ?_ ?_ ?_
          · simp; omega
          · (repeat' (first | (with_reducible exact Below.refl _ _) | (with_reducible assumption) | (with_reducible refine Below.setCell ?_ ?_ _) | (with_reducible refine Below.alloc ?_ ?_ _) | (with_reducible refine Below.drew ?_) | (with_reducible refine below_drewN ?_ _) | (with_reducible refine below_next ?_ (by with_reducible assumption)) | omega | (dsimp only; omega) | (simp only [World.size_alloc, World.size_setCell, World.size_drew, World.heap_drewN]; omega)))
          intro A8 c8 w8 hown hg hB
          have hb8 : Below wr.heap.size wr w8 := (hb7.trans (hcur.mono hz7)).trans hB
          have hz8 := hb8.size
          have HO8 := Lib.hid hown
          clear hown hg hB
          refine hK.out _ _ (by (repeat' (first | (with_reducible exact Below.refl _ _) | (with_reducible assumption) | (with_reducible refine Below.setCell ?_ ?_ _) | (with_reducible refine Below.alloc ?_ ?_ _) | (with_reducible refine Below.drew ?_) | (with_reducible refine below_drewN ?_ _) | (with_reducible refine below_next ?_ (by with_reducible assumption)) | omega | (dsimp only; omega) | (simp only [World.size_alloc, World.size_setCell, World.size_drew, World.heap_drewN]; omega)))) (fun hHeld => ?_)
          (try simp only [Act.put, List.setIfInBounds_toArray, List.set_cons_zero, List.set_cons_succ])
          refine wpAnyH_ready (rs := [11]) (by kernel_rfl) (by simp) ?_
          refine AllReadyH.cons rfl (fun K hK => ?_) AllReadyH.nil
          refine step_appL wr.heap.size rfl (.tmp 31) (.tmp 34) 28 rfl i0 rfl hi0 hz0 hz1 hz2 _ (l.take k ++ [x]) rfl HO8.out (fromA A1 c k 1) (l.length - k) (c - k) (l.drop k) rfl (((HS.out.from k (by omega))).next hb8) ?_ ?_ ?_
          · simp; omega
          · (repeat' (first | (with_reducible exact Below.refl _ _) | (with_reducible assumption) | (with_reducible refine Below.setCell ?_ ?_ _) | (with_reducible refine Below.alloc ?_ ?_ _) | (with_reducible refine Below.drew ?_) | (with_reducible refine below_drewN ?_ _) | (with_reducible refine below_next ?_ (by with_reducible assumption)) | omega | (dsimp only; omega) | (simp only [World.size_alloc, World.size_setCell, World.size_drew, World.heap_drewN]; omega)))
          intro A9 c9 w9 hown hg hB
          have hb9 : Below wr.heap.size wr w9 := hb8.trans hB
          have hz9 := hb9.size
          have HO9 := Lib.hid hown
          clear hown hg hB
          refine hK.out _ _ (by (repeat' (first | (with_reducible exact Below.refl _ _) | (with_reducible assumption) | (with_reducible refine Below.setCell ?_ ?_ _) | (with_reducible refine Below.alloc ?_ ?_ _) | (with_reducible refine Below.drew ?_) | (with_reducible refine below_drewN ?_ _) | (with_reducible refine below_next ?_ (by with_reducible assumption)) | omega | (dsimp only; omega) | (simp only [World.size_alloc, World.size_setCell, World.size_drew, World.heap_drewN]; omega)))) (fun hHeld => ?_)
          (try simp only [Act.put, List.setIfInBounds_toArray, List.set_cons_zero, List.set_cons_succ])
          refine wpAnyH_ready (rs := [12]) (by kernel_rfl) (by simp) ?_
          refine AllReadyH.cons rfl (fun K hK => ?_) AllReadyH.nil
          go_simp
          refine hK.out _ _ (by (repeat' (first | (with_reducible exact Below.refl _ _) | (with_reducible assumption) | (with_reducible refine Below.setCell ?_ ?_ _) | (with_reducible refine Below.alloc ?_ ?_ _) | (with_reducible refine Below.drew ?_) | (with_reducible refine below_drewN ?_ _) | (with_reducible refine below_next ?_ (by with_reducible assumption)) | omega | (dsimp only; omega) | (simp only [World.size_alloc, World.size_setCell, World.size_drew, World.heap_drewN]; omega)))) (fun hHeld => ?_)
          (try simp only [Act.put, List.setIfInBounds_toArray, List.set_cons_zero, List.set_cons_succ])
          refine wpAnyH_done (by kernel_rfl) ?_ _
          go_wp2
          go_ret
          refine ⟨A9, c9, by rw [HLN.out]; rfl, hb9, .inr ⟨HX.out, ?_⟩⟩
          have h := HO9.out
          rw [← HFIN.out] at h
          rw [show (Sol.addI l x).length = (l.take k ++ [x]).length + (l.drop k).length by rw [HFIN.out, List.length_append]]
          exact h
end Go.Proofs.Ytadcjmfednachaa
