/-
  The program's whole, walked.
-/
import Derived.Test.YteplbbjmbhgllaaGreatDoorLexM20
namespace Go.Proofs.YteplbbjmbhgllaaGreatDoor
open Go.RowKit
set_option linter.unusedVariables false
set_option linter.unusedSimpArgs false

theorem trim_any (s : ByteArray) (hs : s.size ≤ 1048576) (k : Nat) (hk : Lib.trimRightS s.data.toList cutL = s.data.toList.take k) (w : World) : Calls Tryz.prog 72 #[.string s, .string ⟨#[117, 85, 108, 76]⟩] w fun e w' => e = .returned (.string (s.extract 0 k)) ∧ Below w.heap.size w w' := by
  refine (Any.strings_TrimRight_laid Tryz.lays162 (by kernel_rfl) s ⟨#[117, 85, 108, 76]⟩ w (by omega) (by decide) (fun j b hb => by have h := List.mem_of_getElem? hb; simp at h; rcases h with rfl | rfl | rfl | rfl <;> decide)).mono ?_
  rintro e w' ⟨rfl, hb⟩
  refine ⟨?_, hb⟩
  have e1 : Lib.trimRightS s.data.toList (⟨#[117, 85, 108, 76]⟩ : ByteArray).data.toList = s.data.toList.take k := hk
  rw [e1]
  exact congrArg (fun x => Ending.returned (Value.string x)) (baB_take s k)
/-- What whole answers. -/
def WhP (o : Option Nat) (e : Ending) : Prop := match o with
  | some n => e = .returned (.tuple #[.int .u64 (n : Int), .bool true])
  | none => ∃ x : Int, e = .returned (.tuple #[.int .u64 x, .bool false])
theorem pre2 (L : List UInt8) (x y : UInt8) : decide ([x, y] <+: L) = decide (1 < L.length ∧ byteN L 0 = x.toNat ∧ byteN L 1 = y.toNat) := by
  rw [decide_eq_decide]
  match L with
  | [] => simp
  | [a] => simp
  | a :: b :: r =>
    have h1 : byteN (a :: b :: r) 0 = a.toNat := rfl
    have h2 : byteN (a :: b :: r) 1 = b.toNat := rfl
    rw [h1, h2]
    constructor
    · rintro ⟨t, ht⟩
      injection ht with e1 ht
      injection ht with e2 ht
      exact ⟨by simp, by rw [e1], by rw [e2]⟩
    · rintro ⟨_, e1, e2⟩
      have e1' : a = x := UInt8.toNat_inj.1 e1
      have e2' : b = y := UInt8.toNat_inj.1 e2
      subst e1' e2'
      exact ⟨r, rfl⟩
theorem pre_plus {base n : Nat} {L : List UInt8} (h : Lx.numB base 0 L = some n) : decide ([(43 : UInt8)] <+: L) = false := by
  refine decide_eq_false ?_
  rintro ⟨t, ht⟩
  exact numB_mem _ _ _ h 43 (by rw [← ht]; simp) (by decide)
/-- The digits behind what tells the base. -/
theorem whole_digits {b : List UInt8} {u c : Nat} (hu : ¬ 1 < u) (hc : ¬ 1 < c) : wholeB b u c = if b.drop (fromB b) = [] then none else Lx.numB (baseB b) 0 (b.drop (fromB b)) := by
  unfold wholeB
  by_cases h : b.length ≤ fromB b
  · rw [if_pos (.inr (.inr h)), if_pos (List.drop_of_length_le h)]
  · rw [if_neg (by omega), if_neg]
    intro e
    have := congrArg List.length e
    rw [List.length_drop] at this
    simp at this
    omega
set_option maxRecDepth 100000 in
set_option maxHeartbeats 8000000 in
theorem whole_any (s : ByteArray) (hs : s.size ≤ 1048576) (w : World) (hT : Tabs w) (hz : 13 ≤ w.heap.size) : Calls Tryz.prog 51 #[.string s] w fun e w' => WhP (Lx.wholeL s.data.toList) e ∧ Below w.heap.size w w' := by
  have hA1 := cell_alloc_if
  obtain ⟨k, hk, htr, htail, hend⟩ := trim_tail s.data.toList
  rw [szl] at hk
  have HTR := Lib.hid (fun W => trim_any s hs k htr W)
  have HTK := Lib.hid (show TailOK s.data.toList k ((s.data.toList.drop k).filter Lx.isU).length ((s.data.toList.drop k).filter fun b => !Lx.isU b).length from ⟨by rw [szl]; exact hk, htail, rfl, rfl⟩)
  have hWB := wholeL_B HTK.out hend
  obtain ⟨hcu, hcl⟩ := count_u htail
  obtain ⟨tl, htl⟩ : ∃ tl : ByteArray, tl = ⟨(Lib.toLowerA (s.data.toList.drop k)).toArray⟩ := ⟨_, rfl⟩
  have htld : tl.data.toList = Lib.toLowerA (s.data.toList.drop k) := by rw [htl]
  obtain ⟨bd, hbd⟩ : ∃ bd, s.extract 0 k = bd := ⟨_, rfl⟩
  have hbdd : bd.data.toList = s.data.toList.take k := by rw [← hbd, take_data]
  have hbs : bd.size = k := by rw [← hbd, take_size hk]
  have HLO : Hid (∀ W, Calls Tryz.prog 73 #[.string (s.extract k s.size)] W fun e w' => e = .returned (.string tl) ∧ Below W.heap.size W w') := Lib.hid fun W => by
    have h := Tryz.strings_ToLower_ascii (s.extract k s.size) W (by rw [drop_size]; omega) (fun j b hb => by rw [drop_data] at hb; exact (lowerB_u b (htail b (List.mem_of_getElem? hb))).2.2)
    rw [drop_data, ← htl] at h
    exact h
  rw [hbd] at HTR
  rw [← hbdd] at hWB
  obtain ⟨u, hu⟩ : ∃ u, ((s.data.toList.drop k).filter Lx.isU).length = u := ⟨_, rfl⟩
  obtain ⟨c, hc⟩ : ∃ c, ((s.data.toList.drop k).filter fun b => !Lx.isU b).length = c := ⟨_, rfl⟩
  rw [hu] at hWB hcu
  rw [hc] at hWB hcl
  have HCU : Hid (∀ W, Calls Tryz.prog 74 #[.string tl, .string ⟨#[117]⟩] W fun e w' => e = .returned (.int .i64 (u : Int)) ∧ W = w') := Lib.hid fun W => (Tryz.strings_Count_one tl 117 W).mono fun e w' h => ⟨by rw [h.1, htld, hcu], h.2.symm⟩
  have HCL : Hid (∀ W, Calls Tryz.prog 74 #[.string tl, .string ⟨#[108]⟩] W fun e w' => e = .returned (.int .i64 (c : Int)) ∧ W = w') := Lib.hid fun W => (Tryz.strings_Count_one tl 108 W).mono fun e w' h => ⟨by rw [h.1, htld, hcl], h.2.symm⟩
  have HCO : Hid (∀ W, Calls Tryz.prog 27 #[.string bd, .string ⟨#[95]⟩] W fun e w' => e = .returned (.bool (decide ((95 : UInt8) ∈ bd.data.toList))) ∧ W = w') := Lib.hid fun W => (Tryz.strings_Contains_one bd 95 W).mono fun e w' h => ⟨by rw [h.1, indexB_mem], h.2.symm⟩
  have HTW : Hid (∀ W, Below w.heap.size w W → Tabs W) := Lib.hid fun W h => tabs_below hT hz h
  clear hT HTK htl htld hcu hcl hu hc htail hend htr hbd hbdd
  subst hbs
  by_cases cu : 1 < u
  · have HN : Hid (Lx.wholeL s.data.toList = none) := Lib.hid (by rw [hWB]; unfold wholeB; rw [if_pos (.inl cu)])
    clear hWB
    go_enter Tryz.func51, Tryz.ntmps51
    go_wp2_with (first
  | (go_at_call 72; (with_reducible refine (HTR.out _).mono ?_); rintro e w1 ⟨rfl, hbl1⟩; have hzz1 := hbl1.size)
  | (go_at_call 73; (with_reducible refine (HLO.out _).mono ?_); rintro e w2 ⟨rfl, hbl2⟩; have hzz2 := hbl2.size)
  | (go_at_call 74; (with_reducible refine (HCU.out _).mono ?_); rintro e w' ⟨rfl, rfl⟩)
  | (go_at_call 74; (with_reducible refine (HCL.out _).mono ?_); rintro e w' ⟨rfl, rfl⟩)
  | (go_at_call 27; (with_reducible refine (HCO.out _).mono ?_); rintro e w' ⟨rfl, rfl⟩)
  | (go_at_call 75; (with_reducible refine (HPX.out _).mono ?_); rintro e w' ⟨rfl, rfl⟩)
  | (go_at_call 75; (with_reducible refine (HPY.out _).mono ?_); rintro e w' ⟨rfl, rfl⟩)
  | (go_at_call 75; (with_reducible refine (HPZ.out _).mono ?_); rintro e w' ⟨rfl, rfl⟩)
  | (go_at_call 23; (with_reducible refine (HPU.out _ (HTW.out _ (by (repeat' (first | (with_reducible exact Below.refl _ _) | (with_reducible assumption) | (with_reducible refine Below.setCell ?_ ?_ _) | (with_reducible refine Below.alloc ?_ ?_ _) | (with_reducible refine Below.drew ?_) | (with_reducible refine below_drewN ?_ _) | (with_reducible refine below_next ?_ (by with_reducible assumption)) | omega | (dsimp only; omega) | (simp only [World.size_alloc, World.size_setCell, World.size_drew, World.heap_drewN]; omega))))) (by omega)).mono ?_); rintro e w7 ⟨rfl, hbl7⟩)
  | (go_at_call 23; (with_reducible refine (HPU.out _ (HTW.out _ (by (repeat' (first | (with_reducible exact Below.refl _ _) | (with_reducible assumption) | (with_reducible refine Below.setCell ?_ ?_ _) | (with_reducible refine Below.alloc ?_ ?_ _) | (with_reducible refine Below.drew ?_) | (with_reducible refine below_drewN ?_ _) | (with_reducible refine below_next ?_ (by with_reducible assumption)) | omega | (dsimp only; omega) | (simp only [World.size_alloc, World.size_setCell, World.size_drew, World.heap_drewN]; omega))))) (by omega)).mono ?_); rintro e w7 ⟨⟨x7, N7, rfl⟩, hbl7⟩))
    go_returns
    exact ⟨by rw [HN.out]; exact ⟨_, rfl⟩, below_step hbl1 hbl2⟩
  by_cases cc : 1 < c
  · have HN : Hid (Lx.wholeL s.data.toList = none) := Lib.hid (by rw [hWB]; unfold wholeB; rw [if_pos (.inr (.inl cc))])
    clear hWB
    go_enter Tryz.func51, Tryz.ntmps51
    go_wp2_with (first
  | (go_at_call 72; (with_reducible refine (HTR.out _).mono ?_); rintro e w1 ⟨rfl, hbl1⟩; have hzz1 := hbl1.size)
  | (go_at_call 73; (with_reducible refine (HLO.out _).mono ?_); rintro e w2 ⟨rfl, hbl2⟩; have hzz2 := hbl2.size)
  | (go_at_call 74; (with_reducible refine (HCU.out _).mono ?_); rintro e w' ⟨rfl, rfl⟩)
  | (go_at_call 74; (with_reducible refine (HCL.out _).mono ?_); rintro e w' ⟨rfl, rfl⟩)
  | (go_at_call 27; (with_reducible refine (HCO.out _).mono ?_); rintro e w' ⟨rfl, rfl⟩)
  | (go_at_call 75; (with_reducible refine (HPX.out _).mono ?_); rintro e w' ⟨rfl, rfl⟩)
  | (go_at_call 75; (with_reducible refine (HPY.out _).mono ?_); rintro e w' ⟨rfl, rfl⟩)
  | (go_at_call 75; (with_reducible refine (HPZ.out _).mono ?_); rintro e w' ⟨rfl, rfl⟩)
  | (go_at_call 23; (with_reducible refine (HPU.out _ (HTW.out _ (by (repeat' (first | (with_reducible exact Below.refl _ _) | (with_reducible assumption) | (with_reducible refine Below.setCell ?_ ?_ _) | (with_reducible refine Below.alloc ?_ ?_ _) | (with_reducible refine Below.drew ?_) | (with_reducible refine below_drewN ?_ _) | (with_reducible refine below_next ?_ (by with_reducible assumption)) | omega | (dsimp only; omega) | (simp only [World.size_alloc, World.size_setCell, World.size_drew, World.heap_drewN]; omega))))) (by omega)).mono ?_); rintro e w7 ⟨rfl, hbl7⟩)
  | (go_at_call 23; (with_reducible refine (HPU.out _ (HTW.out _ (by (repeat' (first | (with_reducible exact Below.refl _ _) | (with_reducible assumption) | (with_reducible refine Below.setCell ?_ ?_ _) | (with_reducible refine Below.alloc ?_ ?_ _) | (with_reducible refine Below.drew ?_) | (with_reducible refine below_drewN ?_ _) | (with_reducible refine below_next ?_ (by with_reducible assumption)) | omega | (dsimp only; omega) | (simp only [World.size_alloc, World.size_setCell, World.size_drew, World.heap_drewN]; omega))))) (by omega)).mono ?_); rintro e w7 ⟨⟨x7, N7, rfl⟩, hbl7⟩))
    go_returns
    exact ⟨by rw [HN.out]; exact ⟨_, rfl⟩, below_step hbl1 hbl2⟩
  by_cases c95 : (95 : UInt8) ∈ bd.data.toList
  · have HN : Hid (Lx.wholeL s.data.toList = none) := Lib.hid (by rw [hWB]; exact wholeB_low c95)
    rw [decide_eq_true c95] at HCO
    clear hWB c95
    go_enter Tryz.func51, Tryz.ntmps51
    go_wp2_with (first
  | (go_at_call 72; (with_reducible refine (HTR.out _).mono ?_); rintro e w1 ⟨rfl, hbl1⟩; have hzz1 := hbl1.size)
  | (go_at_call 73; (with_reducible refine (HLO.out _).mono ?_); rintro e w2 ⟨rfl, hbl2⟩; have hzz2 := hbl2.size)
  | (go_at_call 74; (with_reducible refine (HCU.out _).mono ?_); rintro e w' ⟨rfl, rfl⟩)
  | (go_at_call 74; (with_reducible refine (HCL.out _).mono ?_); rintro e w' ⟨rfl, rfl⟩)
  | (go_at_call 27; (with_reducible refine (HCO.out _).mono ?_); rintro e w' ⟨rfl, rfl⟩)
  | (go_at_call 75; (with_reducible refine (HPX.out _).mono ?_); rintro e w' ⟨rfl, rfl⟩)
  | (go_at_call 75; (with_reducible refine (HPY.out _).mono ?_); rintro e w' ⟨rfl, rfl⟩)
  | (go_at_call 75; (with_reducible refine (HPZ.out _).mono ?_); rintro e w' ⟨rfl, rfl⟩)
  | (go_at_call 23; (with_reducible refine (HPU.out _ (HTW.out _ (by (repeat' (first | (with_reducible exact Below.refl _ _) | (with_reducible assumption) | (with_reducible refine Below.setCell ?_ ?_ _) | (with_reducible refine Below.alloc ?_ ?_ _) | (with_reducible refine Below.drew ?_) | (with_reducible refine below_drewN ?_ _) | (with_reducible refine below_next ?_ (by with_reducible assumption)) | omega | (dsimp only; omega) | (simp only [World.size_alloc, World.size_setCell, World.size_drew, World.heap_drewN]; omega))))) (by omega)).mono ?_); rintro e w7 ⟨rfl, hbl7⟩)
  | (go_at_call 23; (with_reducible refine (HPU.out _ (HTW.out _ (by (repeat' (first | (with_reducible exact Below.refl _ _) | (with_reducible assumption) | (with_reducible refine Below.setCell ?_ ?_ _) | (with_reducible refine Below.alloc ?_ ?_ _) | (with_reducible refine Below.drew ?_) | (with_reducible refine below_drewN ?_ _) | (with_reducible refine below_next ?_ (by with_reducible assumption)) | omega | (dsimp only; omega) | (simp only [World.size_alloc, World.size_setCell, World.size_drew, World.heap_drewN]; omega))))) (by omega)).mono ?_); rintro e w7 ⟨⟨x7, N7, rfl⟩, hbl7⟩))
    go_returns
    exact ⟨by rw [HN.out]; exact ⟨_, rfl⟩, below_step hbl1 hbl2⟩
  rw [decide_eq_false c95] at HCO
  clear c95
  rw [whole_digits cu cc] at hWB
  have HPX0 := fun W => hasPrefix_any bd ⟨#[48, 120]⟩ (by omega) (by decide) W
  have HPY0 := fun W => hasPrefix_any bd ⟨#[48, 88]⟩ (by omega) (by decide) W
  have e1 : decide ((⟨#[48, 120]⟩ : ByteArray).data.toList <+: bd.data.toList) = decide (1 < bd.size ∧ byteN bd.data.toList 0 = 48 ∧ byteN bd.data.toList 1 = 120) := by
    have := pre2 bd.data.toList 48 120
    rw [szl] at this
    exact this
  have e2 : decide ((⟨#[48, 88]⟩ : ByteArray).data.toList <+: bd.data.toList) = decide (1 < bd.size ∧ byteN bd.data.toList 0 = 48 ∧ byteN bd.data.toList 1 = 88) := by
    have := pre2 bd.data.toList 48 88
    rw [szl] at this
    exact this
  rw [e1] at HPX0
  rw [e2] at HPY0
  clear e1 e2
  by_cases d1 : 1 < bd.size ∧ byteN bd.data.toList 0 = 48
  · by_cases d2 : byteN bd.data.toList 1 = 120 ∨ byteN bd.data.toList 1 = 88
    · have eb : baseB bd.data.toList = 16 ∧ fromB bd.data.toList = 2 := by unfold baseB fromB; rw [szl, if_pos d1, if_pos d2, if_pos d1, if_pos d2]; exact ⟨rfl, rfl⟩
      rw [eb.1, eb.2, ← drop_data] at hWB
      clear eb
      have hsz := drop_size bd 2
      by_cases d3 : byteN bd.data.toList 1 = 120
      · rw [decide_eq_true ⟨d1.1, d1.2, d3⟩] at HPX0
        have HPX := Lib.hid HPX0
        obtain ⟨d1a, d1b⟩ := d1
        clear HPX0 HPY0 d2 d3 d1b
        have HPU : Hid (∀ W, Tabs W → 13 ≤ W.heap.size → Calls Tryz.prog 23 #[.string (bd.extract 2 bd.size), .int .i64 16, .int .i64 64] W fun e w' => PuQ (Lx.wholeL s.data.toList) e ∧ Below W.heap.size W w') := Lib.hid fun W h1 h2 => by
          rw [hWB]
          exact (parseN_any 16 (.inl rfl) (bd.extract 2 bd.size) (by omega) W h1 h2)
        have HPZ0 : ∀ n, Lx.wholeL s.data.toList = some n → ∀ W, Calls Tryz.prog 75 #[.string (bd.extract 2 bd.size), .string ⟨#[43]⟩] W fun e w' => e = .returned (.bool false) ∧ W = w' := fun n hn W => by
          have h := hasPrefix_any (bd.extract 2 bd.size) ⟨#[43]⟩ (by first | omega | (rw [drop_size]; omega)) (by decide) W
          rw [show decide ((⟨#[43]⟩ : ByteArray).data.toList <+: ((bd.extract 2 bd.size)).data.toList) = false from by
            rw [hWB] at hn
            split at hn
            · cases hn
            · have h2 := hn
              first | (rw [← drop_data] at h2; exact pre_plus h2) | exact pre_plus h2] at h
          exact h
        clear hWB
        cases hwl : Lx.wholeL s.data.toList with
        | some n =>
          have HPZ := Lib.hid (HPZ0 n hwl)
          rw [hwl] at HPU
          unfold PuQ at HPU
          have HN := Lib.hid hwl
          clear HPZ0 hwl
          go_enter Tryz.func51, Tryz.ntmps51
          go_wp2_with (first
  | (go_at_call 72; (with_reducible refine (HTR.out _).mono ?_); rintro e w1 ⟨rfl, hbl1⟩; have hzz1 := hbl1.size)
  | (go_at_call 73; (with_reducible refine (HLO.out _).mono ?_); rintro e w2 ⟨rfl, hbl2⟩; have hzz2 := hbl2.size)
  | (go_at_call 74; (with_reducible refine (HCU.out _).mono ?_); rintro e w' ⟨rfl, rfl⟩)
  | (go_at_call 74; (with_reducible refine (HCL.out _).mono ?_); rintro e w' ⟨rfl, rfl⟩)
  | (go_at_call 27; (with_reducible refine (HCO.out _).mono ?_); rintro e w' ⟨rfl, rfl⟩)
  | (go_at_call 75; (with_reducible refine (HPX.out _).mono ?_); rintro e w' ⟨rfl, rfl⟩)
  | (go_at_call 75; (with_reducible refine (HPY.out _).mono ?_); rintro e w' ⟨rfl, rfl⟩)
  | (go_at_call 75; (with_reducible refine (HPZ.out _).mono ?_); rintro e w' ⟨rfl, rfl⟩)
  | (go_at_call 23; (with_reducible refine (HPU.out _ (HTW.out _ (by (repeat' (first | (with_reducible exact Below.refl _ _) | (with_reducible assumption) | (with_reducible refine Below.setCell ?_ ?_ _) | (with_reducible refine Below.alloc ?_ ?_ _) | (with_reducible refine Below.drew ?_) | (with_reducible refine below_drewN ?_ _) | (with_reducible refine below_next ?_ (by with_reducible assumption)) | omega | (dsimp only; omega) | (simp only [World.size_alloc, World.size_setCell, World.size_drew, World.heap_drewN]; omega))))) (by omega)).mono ?_); rintro e w7 ⟨rfl, hbl7⟩)
  | (go_at_call 23; (with_reducible refine (HPU.out _ (HTW.out _ (by (repeat' (first | (with_reducible exact Below.refl _ _) | (with_reducible assumption) | (with_reducible refine Below.setCell ?_ ?_ _) | (with_reducible refine Below.alloc ?_ ?_ _) | (with_reducible refine Below.drew ?_) | (with_reducible refine below_drewN ?_ _) | (with_reducible refine below_next ?_ (by with_reducible assumption)) | omega | (dsimp only; omega) | (simp only [World.size_alloc, World.size_setCell, World.size_drew, World.heap_drewN]; omega))))) (by omega)).mono ?_); rintro e w7 ⟨⟨x7, N7, rfl⟩, hbl7⟩))
          refine wp_region_ext (by kernel_rfl) (by kernel_rfl) ?_
          repeat (first | go_big_quiet_skip | (go_big_quiet_want; go_big_quiet_op; first | go_big_quiet_on | (apply Exists.intro; refine ⟨fun W hW => ?_, ?_⟩; (focus (first
            | (fail)
            | exact rfl | (obtain ⟨hcW, hfW, hzW⟩ := cif (Ext.of hW); (try simp only [World.size_alloc, World.size_setCell, World.size_drew, World.heap_drewN] at hzW); simp [go_sem, *, ↓IntWalk.iteOmega]; (try exact rfl)))); go_big_quiet_on)))
          refine wpQuiet_nil ?_
          intro w' hw'
          have hbl := Ext.of hw'
          obtain ⟨hc, hf, hz⟩ := cif hbl
          (try simp only [World.size_alloc, World.size_setCell, World.size_drew, World.heap_drewN] at hz)
          clear hw'
          go_wp2_with (first
  | (go_at_call 72; (with_reducible refine (HTR.out _).mono ?_); rintro e w1 ⟨rfl, hbl1⟩; have hzz1 := hbl1.size)
  | (go_at_call 73; (with_reducible refine (HLO.out _).mono ?_); rintro e w2 ⟨rfl, hbl2⟩; have hzz2 := hbl2.size)
  | (go_at_call 74; (with_reducible refine (HCU.out _).mono ?_); rintro e w' ⟨rfl, rfl⟩)
  | (go_at_call 74; (with_reducible refine (HCL.out _).mono ?_); rintro e w' ⟨rfl, rfl⟩)
  | (go_at_call 27; (with_reducible refine (HCO.out _).mono ?_); rintro e w' ⟨rfl, rfl⟩)
  | (go_at_call 75; (with_reducible refine (HPX.out _).mono ?_); rintro e w' ⟨rfl, rfl⟩)
  | (go_at_call 75; (with_reducible refine (HPY.out _).mono ?_); rintro e w' ⟨rfl, rfl⟩)
  | (go_at_call 75; (with_reducible refine (HPZ.out _).mono ?_); rintro e w' ⟨rfl, rfl⟩)
  | (go_at_call 23; (with_reducible refine (HPU.out _ (HTW.out _ (by (repeat' (first | (with_reducible exact Below.refl _ _) | (with_reducible assumption) | (with_reducible refine Below.setCell ?_ ?_ _) | (with_reducible refine Below.alloc ?_ ?_ _) | (with_reducible refine Below.drew ?_) | (with_reducible refine below_drewN ?_ _) | (with_reducible refine below_next ?_ (by with_reducible assumption)) | omega | (dsimp only; omega) | (simp only [World.size_alloc, World.size_setCell, World.size_drew, World.heap_drewN]; omega))))) (by omega)).mono ?_); rintro e w7 ⟨rfl, hbl7⟩)
  | (go_at_call 23; (with_reducible refine (HPU.out _ (HTW.out _ (by (repeat' (first | (with_reducible exact Below.refl _ _) | (with_reducible assumption) | (with_reducible refine Below.setCell ?_ ?_ _) | (with_reducible refine Below.alloc ?_ ?_ _) | (with_reducible refine Below.drew ?_) | (with_reducible refine below_drewN ?_ _) | (with_reducible refine below_next ?_ (by with_reducible assumption)) | omega | (dsimp only; omega) | (simp only [World.size_alloc, World.size_setCell, World.size_drew, World.heap_drewN]; omega))))) (by omega)).mono ?_); rintro e w7 ⟨⟨x7, N7, rfl⟩, hbl7⟩))
          all_goals go_returns
          all_goals exact ⟨rfl, by (repeat' (first | (with_reducible exact Below.refl _ _) | (with_reducible assumption) | (with_reducible refine Below.setCell ?_ ?_ _) | (with_reducible refine Below.alloc ?_ ?_ _) | (with_reducible refine Below.drew ?_) | (with_reducible refine below_drewN ?_ _) | (with_reducible refine below_next ?_ (by with_reducible assumption)) | omega | (dsimp only; omega) | (simp only [World.size_alloc, World.size_setCell, World.size_drew, World.heap_drewN]; omega)))⟩
        | none =>
          rw [hwl] at HPU
          unfold PuQ at HPU
          have HN := Lib.hid hwl
          clear HPZ0 hwl
          go_enter Tryz.func51, Tryz.ntmps51
          go_wp2_with (first
  | (go_at_call 72; (with_reducible refine (HTR.out _).mono ?_); rintro e w1 ⟨rfl, hbl1⟩; have hzz1 := hbl1.size)
  | (go_at_call 73; (with_reducible refine (HLO.out _).mono ?_); rintro e w2 ⟨rfl, hbl2⟩; have hzz2 := hbl2.size)
  | (go_at_call 74; (with_reducible refine (HCU.out _).mono ?_); rintro e w' ⟨rfl, rfl⟩)
  | (go_at_call 74; (with_reducible refine (HCL.out _).mono ?_); rintro e w' ⟨rfl, rfl⟩)
  | (go_at_call 27; (with_reducible refine (HCO.out _).mono ?_); rintro e w' ⟨rfl, rfl⟩)
  | (go_at_call 75; (with_reducible refine (HPX.out _).mono ?_); rintro e w' ⟨rfl, rfl⟩)
  | (go_at_call 75; (with_reducible refine (HPY.out _).mono ?_); rintro e w' ⟨rfl, rfl⟩)
  | (go_at_call 75; (with_reducible refine (HPZ.out _).mono ?_); rintro e w' ⟨rfl, rfl⟩)
  | (go_at_call 23; (with_reducible refine (HPU.out _ (HTW.out _ (by (repeat' (first | (with_reducible exact Below.refl _ _) | (with_reducible assumption) | (with_reducible refine Below.setCell ?_ ?_ _) | (with_reducible refine Below.alloc ?_ ?_ _) | (with_reducible refine Below.drew ?_) | (with_reducible refine below_drewN ?_ _) | (with_reducible refine below_next ?_ (by with_reducible assumption)) | omega | (dsimp only; omega) | (simp only [World.size_alloc, World.size_setCell, World.size_drew, World.heap_drewN]; omega))))) (by omega)).mono ?_); rintro e w7 ⟨rfl, hbl7⟩)
  | (go_at_call 23; (with_reducible refine (HPU.out _ (HTW.out _ (by (repeat' (first | (with_reducible exact Below.refl _ _) | (with_reducible assumption) | (with_reducible refine Below.setCell ?_ ?_ _) | (with_reducible refine Below.alloc ?_ ?_ _) | (with_reducible refine Below.drew ?_) | (with_reducible refine below_drewN ?_ _) | (with_reducible refine below_next ?_ (by with_reducible assumption)) | omega | (dsimp only; omega) | (simp only [World.size_alloc, World.size_setCell, World.size_drew, World.heap_drewN]; omega))))) (by omega)).mono ?_); rintro e w7 ⟨⟨x7, N7, rfl⟩, hbl7⟩))
          refine wp_region_ext (by kernel_rfl) (by kernel_rfl) ?_
          repeat (first | go_big_quiet_skip | (go_big_quiet_want; go_big_quiet_op; first | go_big_quiet_on | (apply Exists.intro; refine ⟨fun W hW => ?_, ?_⟩; (focus (first
            | (fail)
            | exact rfl | (obtain ⟨hcW, hfW, hzW⟩ := cif (Ext.of hW); (try simp only [World.size_alloc, World.size_setCell, World.size_drew, World.heap_drewN] at hzW); simp [go_sem, *, ↓IntWalk.iteOmega]; (try exact rfl)))); go_big_quiet_on)))
          refine wpQuiet_nil ?_
          intro w' hw'
          have hbl := Ext.of hw'
          obtain ⟨hc, hf, hz⟩ := cif hbl
          (try simp only [World.size_alloc, World.size_setCell, World.size_drew, World.heap_drewN] at hz)
          clear hw'
          go_wp2_with (first
  | (go_at_call 72; (with_reducible refine (HTR.out _).mono ?_); rintro e w1 ⟨rfl, hbl1⟩; have hzz1 := hbl1.size)
  | (go_at_call 73; (with_reducible refine (HLO.out _).mono ?_); rintro e w2 ⟨rfl, hbl2⟩; have hzz2 := hbl2.size)
  | (go_at_call 74; (with_reducible refine (HCU.out _).mono ?_); rintro e w' ⟨rfl, rfl⟩)
  | (go_at_call 74; (with_reducible refine (HCL.out _).mono ?_); rintro e w' ⟨rfl, rfl⟩)
  | (go_at_call 27; (with_reducible refine (HCO.out _).mono ?_); rintro e w' ⟨rfl, rfl⟩)
  | (go_at_call 75; (with_reducible refine (HPX.out _).mono ?_); rintro e w' ⟨rfl, rfl⟩)
  | (go_at_call 75; (with_reducible refine (HPY.out _).mono ?_); rintro e w' ⟨rfl, rfl⟩)
  | (go_at_call 75; (with_reducible refine (HPZ.out _).mono ?_); rintro e w' ⟨rfl, rfl⟩)
  | (go_at_call 23; (with_reducible refine (HPU.out _ (HTW.out _ (by (repeat' (first | (with_reducible exact Below.refl _ _) | (with_reducible assumption) | (with_reducible refine Below.setCell ?_ ?_ _) | (with_reducible refine Below.alloc ?_ ?_ _) | (with_reducible refine Below.drew ?_) | (with_reducible refine below_drewN ?_ _) | (with_reducible refine below_next ?_ (by with_reducible assumption)) | omega | (dsimp only; omega) | (simp only [World.size_alloc, World.size_setCell, World.size_drew, World.heap_drewN]; omega))))) (by omega)).mono ?_); rintro e w7 ⟨rfl, hbl7⟩)
  | (go_at_call 23; (with_reducible refine (HPU.out _ (HTW.out _ (by (repeat' (first | (with_reducible exact Below.refl _ _) | (with_reducible assumption) | (with_reducible refine Below.setCell ?_ ?_ _) | (with_reducible refine Below.alloc ?_ ?_ _) | (with_reducible refine Below.drew ?_) | (with_reducible refine below_drewN ?_ _) | (with_reducible refine below_next ?_ (by with_reducible assumption)) | omega | (dsimp only; omega) | (simp only [World.size_alloc, World.size_setCell, World.size_drew, World.heap_drewN]; omega))))) (by omega)).mono ?_); rintro e w7 ⟨⟨x7, N7, rfl⟩, hbl7⟩))
          all_goals go_returns
          all_goals exact ⟨⟨_, rfl⟩, by (repeat' (first | (with_reducible exact Below.refl _ _) | (with_reducible assumption) | (with_reducible refine Below.setCell ?_ ?_ _) | (with_reducible refine Below.alloc ?_ ?_ _) | (with_reducible refine Below.drew ?_) | (with_reducible refine below_drewN ?_ _) | (with_reducible refine below_next ?_ (by with_reducible assumption)) | omega | (dsimp only; omega) | (simp only [World.size_alloc, World.size_setCell, World.size_drew, World.heap_drewN]; omega)))⟩
      · rw [decide_eq_false (fun h => d3 h.2.2)] at HPX0
        rw [decide_eq_true ⟨d1.1, d1.2, d2.resolve_left d3⟩] at HPY0
        have HPX := Lib.hid HPX0
        have HPY := Lib.hid HPY0
        obtain ⟨d1a, d1b⟩ := d1
        clear HPX0 HPY0 d2 d3 d1b
        have HPU : Hid (∀ W, Tabs W → 13 ≤ W.heap.size → Calls Tryz.prog 23 #[.string (bd.extract 2 bd.size), .int .i64 16, .int .i64 64] W fun e w' => PuQ (Lx.wholeL s.data.toList) e ∧ Below W.heap.size W w') := Lib.hid fun W h1 h2 => by
          rw [hWB]
          exact (parseN_any 16 (.inl rfl) (bd.extract 2 bd.size) (by omega) W h1 h2)
        have HPZ0 : ∀ n, Lx.wholeL s.data.toList = some n → ∀ W, Calls Tryz.prog 75 #[.string (bd.extract 2 bd.size), .string ⟨#[43]⟩] W fun e w' => e = .returned (.bool false) ∧ W = w' := fun n hn W => by
          have h := hasPrefix_any (bd.extract 2 bd.size) ⟨#[43]⟩ (by first | omega | (rw [drop_size]; omega)) (by decide) W
          rw [show decide ((⟨#[43]⟩ : ByteArray).data.toList <+: ((bd.extract 2 bd.size)).data.toList) = false from by
            rw [hWB] at hn
            split at hn
            · cases hn
            · have h2 := hn
              first | (rw [← drop_data] at h2; exact pre_plus h2) | exact pre_plus h2] at h
          exact h
        clear hWB
        cases hwl : Lx.wholeL s.data.toList with
        | some n =>
          have HPZ := Lib.hid (HPZ0 n hwl)
          rw [hwl] at HPU
          unfold PuQ at HPU
          have HN := Lib.hid hwl
          clear HPZ0 hwl
          go_enter Tryz.func51, Tryz.ntmps51
          go_wp2_with (first
  | (go_at_call 72; (with_reducible refine (HTR.out _).mono ?_); rintro e w1 ⟨rfl, hbl1⟩; have hzz1 := hbl1.size)
  | (go_at_call 73; (with_reducible refine (HLO.out _).mono ?_); rintro e w2 ⟨rfl, hbl2⟩; have hzz2 := hbl2.size)
  | (go_at_call 74; (with_reducible refine (HCU.out _).mono ?_); rintro e w' ⟨rfl, rfl⟩)
  | (go_at_call 74; (with_reducible refine (HCL.out _).mono ?_); rintro e w' ⟨rfl, rfl⟩)
  | (go_at_call 27; (with_reducible refine (HCO.out _).mono ?_); rintro e w' ⟨rfl, rfl⟩)
  | (go_at_call 75; (with_reducible refine (HPX.out _).mono ?_); rintro e w' ⟨rfl, rfl⟩)
  | (go_at_call 75; (with_reducible refine (HPY.out _).mono ?_); rintro e w' ⟨rfl, rfl⟩)
  | (go_at_call 75; (with_reducible refine (HPZ.out _).mono ?_); rintro e w' ⟨rfl, rfl⟩)
  | (go_at_call 23; (with_reducible refine (HPU.out _ (HTW.out _ (by (repeat' (first | (with_reducible exact Below.refl _ _) | (with_reducible assumption) | (with_reducible refine Below.setCell ?_ ?_ _) | (with_reducible refine Below.alloc ?_ ?_ _) | (with_reducible refine Below.drew ?_) | (with_reducible refine below_drewN ?_ _) | (with_reducible refine below_next ?_ (by with_reducible assumption)) | omega | (dsimp only; omega) | (simp only [World.size_alloc, World.size_setCell, World.size_drew, World.heap_drewN]; omega))))) (by omega)).mono ?_); rintro e w7 ⟨rfl, hbl7⟩)
  | (go_at_call 23; (with_reducible refine (HPU.out _ (HTW.out _ (by (repeat' (first | (with_reducible exact Below.refl _ _) | (with_reducible assumption) | (with_reducible refine Below.setCell ?_ ?_ _) | (with_reducible refine Below.alloc ?_ ?_ _) | (with_reducible refine Below.drew ?_) | (with_reducible refine below_drewN ?_ _) | (with_reducible refine below_next ?_ (by with_reducible assumption)) | omega | (dsimp only; omega) | (simp only [World.size_alloc, World.size_setCell, World.size_drew, World.heap_drewN]; omega))))) (by omega)).mono ?_); rintro e w7 ⟨⟨x7, N7, rfl⟩, hbl7⟩))
          refine wp_region_ext (by kernel_rfl) (by kernel_rfl) ?_
          repeat (first | go_big_quiet_skip | (go_big_quiet_want; go_big_quiet_op; first | go_big_quiet_on | (apply Exists.intro; refine ⟨fun W hW => ?_, ?_⟩; (focus (first
            | (fail)
            | exact rfl | (obtain ⟨hcW, hfW, hzW⟩ := cif (Ext.of hW); (try simp only [World.size_alloc, World.size_setCell, World.size_drew, World.heap_drewN] at hzW); simp [go_sem, *, ↓IntWalk.iteOmega]; (try exact rfl)))); go_big_quiet_on)))
          refine wpQuiet_nil ?_
          intro w' hw'
          have hbl := Ext.of hw'
          obtain ⟨hc, hf, hz⟩ := cif hbl
          (try simp only [World.size_alloc, World.size_setCell, World.size_drew, World.heap_drewN] at hz)
          clear hw'
          go_wp2_with (first
  | (go_at_call 72; (with_reducible refine (HTR.out _).mono ?_); rintro e w1 ⟨rfl, hbl1⟩; have hzz1 := hbl1.size)
  | (go_at_call 73; (with_reducible refine (HLO.out _).mono ?_); rintro e w2 ⟨rfl, hbl2⟩; have hzz2 := hbl2.size)
  | (go_at_call 74; (with_reducible refine (HCU.out _).mono ?_); rintro e w' ⟨rfl, rfl⟩)
  | (go_at_call 74; (with_reducible refine (HCL.out _).mono ?_); rintro e w' ⟨rfl, rfl⟩)
  | (go_at_call 27; (with_reducible refine (HCO.out _).mono ?_); rintro e w' ⟨rfl, rfl⟩)
  | (go_at_call 75; (with_reducible refine (HPX.out _).mono ?_); rintro e w' ⟨rfl, rfl⟩)
  | (go_at_call 75; (with_reducible refine (HPY.out _).mono ?_); rintro e w' ⟨rfl, rfl⟩)
  | (go_at_call 75; (with_reducible refine (HPZ.out _).mono ?_); rintro e w' ⟨rfl, rfl⟩)
  | (go_at_call 23; (with_reducible refine (HPU.out _ (HTW.out _ (by (repeat' (first | (with_reducible exact Below.refl _ _) | (with_reducible assumption) | (with_reducible refine Below.setCell ?_ ?_ _) | (with_reducible refine Below.alloc ?_ ?_ _) | (with_reducible refine Below.drew ?_) | (with_reducible refine below_drewN ?_ _) | (with_reducible refine below_next ?_ (by with_reducible assumption)) | omega | (dsimp only; omega) | (simp only [World.size_alloc, World.size_setCell, World.size_drew, World.heap_drewN]; omega))))) (by omega)).mono ?_); rintro e w7 ⟨rfl, hbl7⟩)
  | (go_at_call 23; (with_reducible refine (HPU.out _ (HTW.out _ (by (repeat' (first | (with_reducible exact Below.refl _ _) | (with_reducible assumption) | (with_reducible refine Below.setCell ?_ ?_ _) | (with_reducible refine Below.alloc ?_ ?_ _) | (with_reducible refine Below.drew ?_) | (with_reducible refine below_drewN ?_ _) | (with_reducible refine below_next ?_ (by with_reducible assumption)) | omega | (dsimp only; omega) | (simp only [World.size_alloc, World.size_setCell, World.size_drew, World.heap_drewN]; omega))))) (by omega)).mono ?_); rintro e w7 ⟨⟨x7, N7, rfl⟩, hbl7⟩))
          all_goals go_returns
          all_goals exact ⟨rfl, by (repeat' (first | (with_reducible exact Below.refl _ _) | (with_reducible assumption) | (with_reducible refine Below.setCell ?_ ?_ _) | (with_reducible refine Below.alloc ?_ ?_ _) | (with_reducible refine Below.drew ?_) | (with_reducible refine below_drewN ?_ _) | (with_reducible refine below_next ?_ (by with_reducible assumption)) | omega | (dsimp only; omega) | (simp only [World.size_alloc, World.size_setCell, World.size_drew, World.heap_drewN]; omega)))⟩
        | none =>
          rw [hwl] at HPU
          unfold PuQ at HPU
          have HN := Lib.hid hwl
          clear HPZ0 hwl
          go_enter Tryz.func51, Tryz.ntmps51
          go_wp2_with (first
  | (go_at_call 72; (with_reducible refine (HTR.out _).mono ?_); rintro e w1 ⟨rfl, hbl1⟩; have hzz1 := hbl1.size)
  | (go_at_call 73; (with_reducible refine (HLO.out _).mono ?_); rintro e w2 ⟨rfl, hbl2⟩; have hzz2 := hbl2.size)
  | (go_at_call 74; (with_reducible refine (HCU.out _).mono ?_); rintro e w' ⟨rfl, rfl⟩)
  | (go_at_call 74; (with_reducible refine (HCL.out _).mono ?_); rintro e w' ⟨rfl, rfl⟩)
  | (go_at_call 27; (with_reducible refine (HCO.out _).mono ?_); rintro e w' ⟨rfl, rfl⟩)
  | (go_at_call 75; (with_reducible refine (HPX.out _).mono ?_); rintro e w' ⟨rfl, rfl⟩)
  | (go_at_call 75; (with_reducible refine (HPY.out _).mono ?_); rintro e w' ⟨rfl, rfl⟩)
  | (go_at_call 75; (with_reducible refine (HPZ.out _).mono ?_); rintro e w' ⟨rfl, rfl⟩)
  | (go_at_call 23; (with_reducible refine (HPU.out _ (HTW.out _ (by (repeat' (first | (with_reducible exact Below.refl _ _) | (with_reducible assumption) | (with_reducible refine Below.setCell ?_ ?_ _) | (with_reducible refine Below.alloc ?_ ?_ _) | (with_reducible refine Below.drew ?_) | (with_reducible refine below_drewN ?_ _) | (with_reducible refine below_next ?_ (by with_reducible assumption)) | omega | (dsimp only; omega) | (simp only [World.size_alloc, World.size_setCell, World.size_drew, World.heap_drewN]; omega))))) (by omega)).mono ?_); rintro e w7 ⟨rfl, hbl7⟩)
  | (go_at_call 23; (with_reducible refine (HPU.out _ (HTW.out _ (by (repeat' (first | (with_reducible exact Below.refl _ _) | (with_reducible assumption) | (with_reducible refine Below.setCell ?_ ?_ _) | (with_reducible refine Below.alloc ?_ ?_ _) | (with_reducible refine Below.drew ?_) | (with_reducible refine below_drewN ?_ _) | (with_reducible refine below_next ?_ (by with_reducible assumption)) | omega | (dsimp only; omega) | (simp only [World.size_alloc, World.size_setCell, World.size_drew, World.heap_drewN]; omega))))) (by omega)).mono ?_); rintro e w7 ⟨⟨x7, N7, rfl⟩, hbl7⟩))
          refine wp_region_ext (by kernel_rfl) (by kernel_rfl) ?_
          repeat (first | go_big_quiet_skip | (go_big_quiet_want; go_big_quiet_op; first | go_big_quiet_on | (apply Exists.intro; refine ⟨fun W hW => ?_, ?_⟩; (focus (first
            | (fail)
            | exact rfl | (obtain ⟨hcW, hfW, hzW⟩ := cif (Ext.of hW); (try simp only [World.size_alloc, World.size_setCell, World.size_drew, World.heap_drewN] at hzW); simp [go_sem, *, ↓IntWalk.iteOmega]; (try exact rfl)))); go_big_quiet_on)))
          refine wpQuiet_nil ?_
          intro w' hw'
          have hbl := Ext.of hw'
          obtain ⟨hc, hf, hz⟩ := cif hbl
          (try simp only [World.size_alloc, World.size_setCell, World.size_drew, World.heap_drewN] at hz)
          clear hw'
          go_wp2_with (first
  | (go_at_call 72; (with_reducible refine (HTR.out _).mono ?_); rintro e w1 ⟨rfl, hbl1⟩; have hzz1 := hbl1.size)
  | (go_at_call 73; (with_reducible refine (HLO.out _).mono ?_); rintro e w2 ⟨rfl, hbl2⟩; have hzz2 := hbl2.size)
  | (go_at_call 74; (with_reducible refine (HCU.out _).mono ?_); rintro e w' ⟨rfl, rfl⟩)
  | (go_at_call 74; (with_reducible refine (HCL.out _).mono ?_); rintro e w' ⟨rfl, rfl⟩)
  | (go_at_call 27; (with_reducible refine (HCO.out _).mono ?_); rintro e w' ⟨rfl, rfl⟩)
  | (go_at_call 75; (with_reducible refine (HPX.out _).mono ?_); rintro e w' ⟨rfl, rfl⟩)
  | (go_at_call 75; (with_reducible refine (HPY.out _).mono ?_); rintro e w' ⟨rfl, rfl⟩)
  | (go_at_call 75; (with_reducible refine (HPZ.out _).mono ?_); rintro e w' ⟨rfl, rfl⟩)
  | (go_at_call 23; (with_reducible refine (HPU.out _ (HTW.out _ (by (repeat' (first | (with_reducible exact Below.refl _ _) | (with_reducible assumption) | (with_reducible refine Below.setCell ?_ ?_ _) | (with_reducible refine Below.alloc ?_ ?_ _) | (with_reducible refine Below.drew ?_) | (with_reducible refine below_drewN ?_ _) | (with_reducible refine below_next ?_ (by with_reducible assumption)) | omega | (dsimp only; omega) | (simp only [World.size_alloc, World.size_setCell, World.size_drew, World.heap_drewN]; omega))))) (by omega)).mono ?_); rintro e w7 ⟨rfl, hbl7⟩)
  | (go_at_call 23; (with_reducible refine (HPU.out _ (HTW.out _ (by (repeat' (first | (with_reducible exact Below.refl _ _) | (with_reducible assumption) | (with_reducible refine Below.setCell ?_ ?_ _) | (with_reducible refine Below.alloc ?_ ?_ _) | (with_reducible refine Below.drew ?_) | (with_reducible refine below_drewN ?_ _) | (with_reducible refine below_next ?_ (by with_reducible assumption)) | omega | (dsimp only; omega) | (simp only [World.size_alloc, World.size_setCell, World.size_drew, World.heap_drewN]; omega))))) (by omega)).mono ?_); rintro e w7 ⟨⟨x7, N7, rfl⟩, hbl7⟩))
          all_goals go_returns
          all_goals exact ⟨⟨_, rfl⟩, by (repeat' (first | (with_reducible exact Below.refl _ _) | (with_reducible assumption) | (with_reducible refine Below.setCell ?_ ?_ _) | (with_reducible refine Below.alloc ?_ ?_ _) | (with_reducible refine Below.drew ?_) | (with_reducible refine below_drewN ?_ _) | (with_reducible refine below_next ?_ (by with_reducible assumption)) | omega | (dsimp only; omega) | (simp only [World.size_alloc, World.size_setCell, World.size_drew, World.heap_drewN]; omega)))⟩
    · have eb : baseB bd.data.toList = 8 ∧ fromB bd.data.toList = 1 := by unfold baseB fromB; rw [szl, if_pos d1, if_neg d2, if_pos d1, if_neg d2]; exact ⟨rfl, rfl⟩
      rw [eb.1, eb.2, ← drop_data] at hWB
      have hsz := drop_size bd 1
      rw [decide_eq_false (fun h => d2 (.inl h.2.2))] at HPX0
      rw [decide_eq_false (fun h => d2 (.inr h.2.2))] at HPY0
      have HPX := Lib.hid HPX0
      have HPY := Lib.hid HPY0
      obtain ⟨d1a, d1b⟩ := d1
      have hix0 := fun W => idx_s (P := Tryz.prog) 9 Tryz.underlying9 bd .i64 0 0 rfl (by omega) W
      rw [d1b] at hix0
      clear HPX0 HPY0 d2 d1b eb
      have HPU : Hid (∀ W, Tabs W → 13 ≤ W.heap.size → Calls Tryz.prog 23 #[.string (bd.extract 1 bd.size), .int .i64 8, .int .i64 64] W fun e w' => PuQ (Lx.wholeL s.data.toList) e ∧ Below W.heap.size W w') := Lib.hid fun W h1 h2 => by
        rw [hWB]
        exact (parseN_any 8 (.inr rfl) (bd.extract 1 bd.size) (by omega) W h1 h2)
      have HPZ0 : ∀ n, Lx.wholeL s.data.toList = some n → ∀ W, Calls Tryz.prog 75 #[.string (bd.extract 1 bd.size), .string ⟨#[43]⟩] W fun e w' => e = .returned (.bool false) ∧ W = w' := fun n hn W => by
        have h := hasPrefix_any (bd.extract 1 bd.size) ⟨#[43]⟩ (by first | omega | (rw [drop_size]; omega)) (by decide) W
        rw [show decide ((⟨#[43]⟩ : ByteArray).data.toList <+: ((bd.extract 1 bd.size)).data.toList) = false from by
          rw [hWB] at hn
          split at hn
          · cases hn
          · have h2 := hn
            first | (rw [← drop_data] at h2; exact pre_plus h2) | exact pre_plus h2] at h
        exact h
      clear hWB
      cases hwl : Lx.wholeL s.data.toList with
      | some n =>
        have HPZ := Lib.hid (HPZ0 n hwl)
        rw [hwl] at HPU
        unfold PuQ at HPU
        have HN := Lib.hid hwl
        clear HPZ0 hwl
        go_enter Tryz.func51, Tryz.ntmps51
        go_wp2_with (first
  | (go_at_call 72; (with_reducible refine (HTR.out _).mono ?_); rintro e w1 ⟨rfl, hbl1⟩; have hzz1 := hbl1.size)
  | (go_at_call 73; (with_reducible refine (HLO.out _).mono ?_); rintro e w2 ⟨rfl, hbl2⟩; have hzz2 := hbl2.size)
  | (go_at_call 74; (with_reducible refine (HCU.out _).mono ?_); rintro e w' ⟨rfl, rfl⟩)
  | (go_at_call 74; (with_reducible refine (HCL.out _).mono ?_); rintro e w' ⟨rfl, rfl⟩)
  | (go_at_call 27; (with_reducible refine (HCO.out _).mono ?_); rintro e w' ⟨rfl, rfl⟩)
  | (go_at_call 75; (with_reducible refine (HPX.out _).mono ?_); rintro e w' ⟨rfl, rfl⟩)
  | (go_at_call 75; (with_reducible refine (HPY.out _).mono ?_); rintro e w' ⟨rfl, rfl⟩)
  | (go_at_call 75; (with_reducible refine (HPZ.out _).mono ?_); rintro e w' ⟨rfl, rfl⟩)
  | (go_at_call 23; (with_reducible refine (HPU.out _ (HTW.out _ (by (repeat' (first | (with_reducible exact Below.refl _ _) | (with_reducible assumption) | (with_reducible refine Below.setCell ?_ ?_ _) | (with_reducible refine Below.alloc ?_ ?_ _) | (with_reducible refine Below.drew ?_) | (with_reducible refine below_drewN ?_ _) | (with_reducible refine below_next ?_ (by with_reducible assumption)) | omega | (dsimp only; omega) | (simp only [World.size_alloc, World.size_setCell, World.size_drew, World.heap_drewN]; omega))))) (by omega)).mono ?_); rintro e w7 ⟨rfl, hbl7⟩)
  | (go_at_call 23; (with_reducible refine (HPU.out _ (HTW.out _ (by (repeat' (first | (with_reducible exact Below.refl _ _) | (with_reducible assumption) | (with_reducible refine Below.setCell ?_ ?_ _) | (with_reducible refine Below.alloc ?_ ?_ _) | (with_reducible refine Below.drew ?_) | (with_reducible refine below_drewN ?_ _) | (with_reducible refine below_next ?_ (by with_reducible assumption)) | omega | (dsimp only; omega) | (simp only [World.size_alloc, World.size_setCell, World.size_drew, World.heap_drewN]; omega))))) (by omega)).mono ?_); rintro e w7 ⟨⟨x7, N7, rfl⟩, hbl7⟩))
        refine wp_region_ext (by kernel_rfl) (by kernel_rfl) ?_
        repeat (first | go_big_quiet_skip | (go_big_quiet_want; go_big_quiet_op; first | go_big_quiet_on | (apply Exists.intro; refine ⟨fun W hW => ?_, ?_⟩; (focus (first
          | (fail)
          | exact rfl | (obtain ⟨hcW, hfW, hzW⟩ := cif (Ext.of hW); (try simp only [World.size_alloc, World.size_setCell, World.size_drew, World.heap_drewN] at hzW); simp [go_sem, *, ↓IntWalk.iteOmega]; (try exact rfl)))); go_big_quiet_on)))
        refine wpQuiet_nil ?_
        intro w' hw'
        have hbl := Ext.of hw'
        obtain ⟨hc, hf, hz⟩ := cif hbl
        (try simp only [World.size_alloc, World.size_setCell, World.size_drew, World.heap_drewN] at hz)
        clear hw'
        go_wp2_with (first
  | (go_at_call 72; (with_reducible refine (HTR.out _).mono ?_); rintro e w1 ⟨rfl, hbl1⟩; have hzz1 := hbl1.size)
  | (go_at_call 73; (with_reducible refine (HLO.out _).mono ?_); rintro e w2 ⟨rfl, hbl2⟩; have hzz2 := hbl2.size)
  | (go_at_call 74; (with_reducible refine (HCU.out _).mono ?_); rintro e w' ⟨rfl, rfl⟩)
  | (go_at_call 74; (with_reducible refine (HCL.out _).mono ?_); rintro e w' ⟨rfl, rfl⟩)
  | (go_at_call 27; (with_reducible refine (HCO.out _).mono ?_); rintro e w' ⟨rfl, rfl⟩)
  | (go_at_call 75; (with_reducible refine (HPX.out _).mono ?_); rintro e w' ⟨rfl, rfl⟩)
  | (go_at_call 75; (with_reducible refine (HPY.out _).mono ?_); rintro e w' ⟨rfl, rfl⟩)
  | (go_at_call 75; (with_reducible refine (HPZ.out _).mono ?_); rintro e w' ⟨rfl, rfl⟩)
  | (go_at_call 23; (with_reducible refine (HPU.out _ (HTW.out _ (by (repeat' (first | (with_reducible exact Below.refl _ _) | (with_reducible assumption) | (with_reducible refine Below.setCell ?_ ?_ _) | (with_reducible refine Below.alloc ?_ ?_ _) | (with_reducible refine Below.drew ?_) | (with_reducible refine below_drewN ?_ _) | (with_reducible refine below_next ?_ (by with_reducible assumption)) | omega | (dsimp only; omega) | (simp only [World.size_alloc, World.size_setCell, World.size_drew, World.heap_drewN]; omega))))) (by omega)).mono ?_); rintro e w7 ⟨rfl, hbl7⟩)
  | (go_at_call 23; (with_reducible refine (HPU.out _ (HTW.out _ (by (repeat' (first | (with_reducible exact Below.refl _ _) | (with_reducible assumption) | (with_reducible refine Below.setCell ?_ ?_ _) | (with_reducible refine Below.alloc ?_ ?_ _) | (with_reducible refine Below.drew ?_) | (with_reducible refine below_drewN ?_ _) | (with_reducible refine below_next ?_ (by with_reducible assumption)) | omega | (dsimp only; omega) | (simp only [World.size_alloc, World.size_setCell, World.size_drew, World.heap_drewN]; omega))))) (by omega)).mono ?_); rintro e w7 ⟨⟨x7, N7, rfl⟩, hbl7⟩))
        all_goals go_returns
        all_goals exact ⟨rfl, by (repeat' (first | (with_reducible exact Below.refl _ _) | (with_reducible assumption) | (with_reducible refine Below.setCell ?_ ?_ _) | (with_reducible refine Below.alloc ?_ ?_ _) | (with_reducible refine Below.drew ?_) | (with_reducible refine below_drewN ?_ _) | (with_reducible refine below_next ?_ (by with_reducible assumption)) | omega | (dsimp only; omega) | (simp only [World.size_alloc, World.size_setCell, World.size_drew, World.heap_drewN]; omega)))⟩
      | none =>
        rw [hwl] at HPU
        unfold PuQ at HPU
        have HN := Lib.hid hwl
        clear HPZ0 hwl
        go_enter Tryz.func51, Tryz.ntmps51
        go_wp2_with (first
  | (go_at_call 72; (with_reducible refine (HTR.out _).mono ?_); rintro e w1 ⟨rfl, hbl1⟩; have hzz1 := hbl1.size)
  | (go_at_call 73; (with_reducible refine (HLO.out _).mono ?_); rintro e w2 ⟨rfl, hbl2⟩; have hzz2 := hbl2.size)
  | (go_at_call 74; (with_reducible refine (HCU.out _).mono ?_); rintro e w' ⟨rfl, rfl⟩)
  | (go_at_call 74; (with_reducible refine (HCL.out _).mono ?_); rintro e w' ⟨rfl, rfl⟩)
  | (go_at_call 27; (with_reducible refine (HCO.out _).mono ?_); rintro e w' ⟨rfl, rfl⟩)
  | (go_at_call 75; (with_reducible refine (HPX.out _).mono ?_); rintro e w' ⟨rfl, rfl⟩)
  | (go_at_call 75; (with_reducible refine (HPY.out _).mono ?_); rintro e w' ⟨rfl, rfl⟩)
  | (go_at_call 75; (with_reducible refine (HPZ.out _).mono ?_); rintro e w' ⟨rfl, rfl⟩)
  | (go_at_call 23; (with_reducible refine (HPU.out _ (HTW.out _ (by (repeat' (first | (with_reducible exact Below.refl _ _) | (with_reducible assumption) | (with_reducible refine Below.setCell ?_ ?_ _) | (with_reducible refine Below.alloc ?_ ?_ _) | (with_reducible refine Below.drew ?_) | (with_reducible refine below_drewN ?_ _) | (with_reducible refine below_next ?_ (by with_reducible assumption)) | omega | (dsimp only; omega) | (simp only [World.size_alloc, World.size_setCell, World.size_drew, World.heap_drewN]; omega))))) (by omega)).mono ?_); rintro e w7 ⟨rfl, hbl7⟩)
  | (go_at_call 23; (with_reducible refine (HPU.out _ (HTW.out _ (by (repeat' (first | (with_reducible exact Below.refl _ _) | (with_reducible assumption) | (with_reducible refine Below.setCell ?_ ?_ _) | (with_reducible refine Below.alloc ?_ ?_ _) | (with_reducible refine Below.drew ?_) | (with_reducible refine below_drewN ?_ _) | (with_reducible refine below_next ?_ (by with_reducible assumption)) | omega | (dsimp only; omega) | (simp only [World.size_alloc, World.size_setCell, World.size_drew, World.heap_drewN]; omega))))) (by omega)).mono ?_); rintro e w7 ⟨⟨x7, N7, rfl⟩, hbl7⟩))
        refine wp_region_ext (by kernel_rfl) (by kernel_rfl) ?_
        repeat (first | go_big_quiet_skip | (go_big_quiet_want; go_big_quiet_op; first | go_big_quiet_on | (apply Exists.intro; refine ⟨fun W hW => ?_, ?_⟩; (focus (first
          | (fail)
          | exact rfl | (obtain ⟨hcW, hfW, hzW⟩ := cif (Ext.of hW); (try simp only [World.size_alloc, World.size_setCell, World.size_drew, World.heap_drewN] at hzW); simp [go_sem, *, ↓IntWalk.iteOmega]; (try exact rfl)))); go_big_quiet_on)))
        refine wpQuiet_nil ?_
        intro w' hw'
        have hbl := Ext.of hw'
        obtain ⟨hc, hf, hz⟩ := cif hbl
        (try simp only [World.size_alloc, World.size_setCell, World.size_drew, World.heap_drewN] at hz)
        clear hw'
        go_wp2_with (first
  | (go_at_call 72; (with_reducible refine (HTR.out _).mono ?_); rintro e w1 ⟨rfl, hbl1⟩; have hzz1 := hbl1.size)
  | (go_at_call 73; (with_reducible refine (HLO.out _).mono ?_); rintro e w2 ⟨rfl, hbl2⟩; have hzz2 := hbl2.size)
  | (go_at_call 74; (with_reducible refine (HCU.out _).mono ?_); rintro e w' ⟨rfl, rfl⟩)
  | (go_at_call 74; (with_reducible refine (HCL.out _).mono ?_); rintro e w' ⟨rfl, rfl⟩)
  | (go_at_call 27; (with_reducible refine (HCO.out _).mono ?_); rintro e w' ⟨rfl, rfl⟩)
  | (go_at_call 75; (with_reducible refine (HPX.out _).mono ?_); rintro e w' ⟨rfl, rfl⟩)
  | (go_at_call 75; (with_reducible refine (HPY.out _).mono ?_); rintro e w' ⟨rfl, rfl⟩)
  | (go_at_call 75; (with_reducible refine (HPZ.out _).mono ?_); rintro e w' ⟨rfl, rfl⟩)
  | (go_at_call 23; (with_reducible refine (HPU.out _ (HTW.out _ (by (repeat' (first | (with_reducible exact Below.refl _ _) | (with_reducible assumption) | (with_reducible refine Below.setCell ?_ ?_ _) | (with_reducible refine Below.alloc ?_ ?_ _) | (with_reducible refine Below.drew ?_) | (with_reducible refine below_drewN ?_ _) | (with_reducible refine below_next ?_ (by with_reducible assumption)) | omega | (dsimp only; omega) | (simp only [World.size_alloc, World.size_setCell, World.size_drew, World.heap_drewN]; omega))))) (by omega)).mono ?_); rintro e w7 ⟨rfl, hbl7⟩)
  | (go_at_call 23; (with_reducible refine (HPU.out _ (HTW.out _ (by (repeat' (first | (with_reducible exact Below.refl _ _) | (with_reducible assumption) | (with_reducible refine Below.setCell ?_ ?_ _) | (with_reducible refine Below.alloc ?_ ?_ _) | (with_reducible refine Below.drew ?_) | (with_reducible refine below_drewN ?_ _) | (with_reducible refine below_next ?_ (by with_reducible assumption)) | omega | (dsimp only; omega) | (simp only [World.size_alloc, World.size_setCell, World.size_drew, World.heap_drewN]; omega))))) (by omega)).mono ?_); rintro e w7 ⟨⟨x7, N7, rfl⟩, hbl7⟩))
        all_goals go_returns
        all_goals exact ⟨⟨_, rfl⟩, by (repeat' (first | (with_reducible exact Below.refl _ _) | (with_reducible assumption) | (with_reducible refine Below.setCell ?_ ?_ _) | (with_reducible refine Below.alloc ?_ ?_ _) | (with_reducible refine Below.drew ?_) | (with_reducible refine below_drewN ?_ _) | (with_reducible refine below_next ?_ (by with_reducible assumption)) | omega | (dsimp only; omega) | (simp only [World.size_alloc, World.size_setCell, World.size_drew, World.heap_drewN]; omega)))⟩
  · have eb : baseB bd.data.toList = 10 ∧ fromB bd.data.toList = 0 := by unfold baseB fromB; rw [szl, if_neg d1, if_neg d1]; exact ⟨rfl, rfl⟩
    rw [eb.1, eb.2, List.drop_zero] at hWB
    rw [decide_eq_false (fun h => d1 ⟨h.1, h.2.1⟩)] at HPX0
    rw [decide_eq_false (fun h => d1 ⟨h.1, h.2.1⟩)] at HPY0
    have HPX := Lib.hid HPX0
    have HPY := Lib.hid HPY0
    clear HPX0 HPY0 eb
    by_cases d1a : 1 < bd.size
    · have hix0 := fun W => idx_s (P := Tryz.prog) 9 Tryz.underlying9 bd .i64 0 0 rfl (by omega) W
      have hx48 : ¬ byteN bd.data.toList 0 = 48 := fun h => d1 ⟨d1a, h⟩
      generalize byteN bd.data.toList 0 = x at hix0 hx48
      have d48 : ((x : Int) == 48) = false := by simp; omega
      clear d1 hx48
      have HPU : Hid (∀ W, Tabs W → 13 ≤ W.heap.size → Calls Tryz.prog 23 #[.string bd, .int .i64 10, .int .i64 64] W fun e w' => PuQ (Lx.wholeL s.data.toList) e ∧ Below W.heap.size W w') := Lib.hid fun W h1 h2 => by
        rw [hWB]
        exact (parse10_any bd (by omega) W h1)
      have HPZ0 : ∀ n, Lx.wholeL s.data.toList = some n → ∀ W, Calls Tryz.prog 75 #[.string bd, .string ⟨#[43]⟩] W fun e w' => e = .returned (.bool false) ∧ W = w' := fun n hn W => by
        have h := hasPrefix_any bd ⟨#[43]⟩ (by first | omega | (rw [drop_size]; omega)) (by decide) W
        rw [show decide ((⟨#[43]⟩ : ByteArray).data.toList <+: (bd).data.toList) = false from by
          rw [hWB] at hn
          split at hn
          · cases hn
          · have h2 := hn
            first | (rw [← drop_data] at h2; exact pre_plus h2) | exact pre_plus h2] at h
        exact h
      clear hWB
      cases hwl : Lx.wholeL s.data.toList with
      | some n =>
        have HPZ := Lib.hid (HPZ0 n hwl)
        rw [hwl] at HPU
        unfold PuQ at HPU
        have HN := Lib.hid hwl
        clear HPZ0 hwl
        go_enter Tryz.func51, Tryz.ntmps51
        go_wp2_with (first
  | (go_at_call 72; (with_reducible refine (HTR.out _).mono ?_); rintro e w1 ⟨rfl, hbl1⟩; have hzz1 := hbl1.size)
  | (go_at_call 73; (with_reducible refine (HLO.out _).mono ?_); rintro e w2 ⟨rfl, hbl2⟩; have hzz2 := hbl2.size)
  | (go_at_call 74; (with_reducible refine (HCU.out _).mono ?_); rintro e w' ⟨rfl, rfl⟩)
  | (go_at_call 74; (with_reducible refine (HCL.out _).mono ?_); rintro e w' ⟨rfl, rfl⟩)
  | (go_at_call 27; (with_reducible refine (HCO.out _).mono ?_); rintro e w' ⟨rfl, rfl⟩)
  | (go_at_call 75; (with_reducible refine (HPX.out _).mono ?_); rintro e w' ⟨rfl, rfl⟩)
  | (go_at_call 75; (with_reducible refine (HPY.out _).mono ?_); rintro e w' ⟨rfl, rfl⟩)
  | (go_at_call 75; (with_reducible refine (HPZ.out _).mono ?_); rintro e w' ⟨rfl, rfl⟩)
  | (go_at_call 23; (with_reducible refine (HPU.out _ (HTW.out _ (by (repeat' (first | (with_reducible exact Below.refl _ _) | (with_reducible assumption) | (with_reducible refine Below.setCell ?_ ?_ _) | (with_reducible refine Below.alloc ?_ ?_ _) | (with_reducible refine Below.drew ?_) | (with_reducible refine below_drewN ?_ _) | (with_reducible refine below_next ?_ (by with_reducible assumption)) | omega | (dsimp only; omega) | (simp only [World.size_alloc, World.size_setCell, World.size_drew, World.heap_drewN]; omega))))) (by omega)).mono ?_); rintro e w7 ⟨rfl, hbl7⟩)
  | (go_at_call 23; (with_reducible refine (HPU.out _ (HTW.out _ (by (repeat' (first | (with_reducible exact Below.refl _ _) | (with_reducible assumption) | (with_reducible refine Below.setCell ?_ ?_ _) | (with_reducible refine Below.alloc ?_ ?_ _) | (with_reducible refine Below.drew ?_) | (with_reducible refine below_drewN ?_ _) | (with_reducible refine below_next ?_ (by with_reducible assumption)) | omega | (dsimp only; omega) | (simp only [World.size_alloc, World.size_setCell, World.size_drew, World.heap_drewN]; omega))))) (by omega)).mono ?_); rintro e w7 ⟨⟨x7, N7, rfl⟩, hbl7⟩))
        skip
        all_goals go_returns
        all_goals exact ⟨rfl, by (repeat' (first | (with_reducible exact Below.refl _ _) | (with_reducible assumption) | (with_reducible refine Below.setCell ?_ ?_ _) | (with_reducible refine Below.alloc ?_ ?_ _) | (with_reducible refine Below.drew ?_) | (with_reducible refine below_drewN ?_ _) | (with_reducible refine below_next ?_ (by with_reducible assumption)) | omega | (dsimp only; omega) | (simp only [World.size_alloc, World.size_setCell, World.size_drew, World.heap_drewN]; omega)))⟩
      | none =>
        rw [hwl] at HPU
        unfold PuQ at HPU
        have HN := Lib.hid hwl
        clear HPZ0 hwl
        go_enter Tryz.func51, Tryz.ntmps51
        go_wp2_with (first
  | (go_at_call 72; (with_reducible refine (HTR.out _).mono ?_); rintro e w1 ⟨rfl, hbl1⟩; have hzz1 := hbl1.size)
  | (go_at_call 73; (with_reducible refine (HLO.out _).mono ?_); rintro e w2 ⟨rfl, hbl2⟩; have hzz2 := hbl2.size)
  | (go_at_call 74; (with_reducible refine (HCU.out _).mono ?_); rintro e w' ⟨rfl, rfl⟩)
  | (go_at_call 74; (with_reducible refine (HCL.out _).mono ?_); rintro e w' ⟨rfl, rfl⟩)
  | (go_at_call 27; (with_reducible refine (HCO.out _).mono ?_); rintro e w' ⟨rfl, rfl⟩)
  | (go_at_call 75; (with_reducible refine (HPX.out _).mono ?_); rintro e w' ⟨rfl, rfl⟩)
  | (go_at_call 75; (with_reducible refine (HPY.out _).mono ?_); rintro e w' ⟨rfl, rfl⟩)
  | (go_at_call 75; (with_reducible refine (HPZ.out _).mono ?_); rintro e w' ⟨rfl, rfl⟩)
  | (go_at_call 23; (with_reducible refine (HPU.out _ (HTW.out _ (by (repeat' (first | (with_reducible exact Below.refl _ _) | (with_reducible assumption) | (with_reducible refine Below.setCell ?_ ?_ _) | (with_reducible refine Below.alloc ?_ ?_ _) | (with_reducible refine Below.drew ?_) | (with_reducible refine below_drewN ?_ _) | (with_reducible refine below_next ?_ (by with_reducible assumption)) | omega | (dsimp only; omega) | (simp only [World.size_alloc, World.size_setCell, World.size_drew, World.heap_drewN]; omega))))) (by omega)).mono ?_); rintro e w7 ⟨rfl, hbl7⟩)
  | (go_at_call 23; (with_reducible refine (HPU.out _ (HTW.out _ (by (repeat' (first | (with_reducible exact Below.refl _ _) | (with_reducible assumption) | (with_reducible refine Below.setCell ?_ ?_ _) | (with_reducible refine Below.alloc ?_ ?_ _) | (with_reducible refine Below.drew ?_) | (with_reducible refine below_drewN ?_ _) | (with_reducible refine below_next ?_ (by with_reducible assumption)) | omega | (dsimp only; omega) | (simp only [World.size_alloc, World.size_setCell, World.size_drew, World.heap_drewN]; omega))))) (by omega)).mono ?_); rintro e w7 ⟨⟨x7, N7, rfl⟩, hbl7⟩))
        skip
        all_goals go_returns
        all_goals exact ⟨⟨_, rfl⟩, by (repeat' (first | (with_reducible exact Below.refl _ _) | (with_reducible assumption) | (with_reducible refine Below.setCell ?_ ?_ _) | (with_reducible refine Below.alloc ?_ ?_ _) | (with_reducible refine Below.drew ?_) | (with_reducible refine below_drewN ?_ _) | (with_reducible refine below_next ?_ (by with_reducible assumption)) | omega | (dsimp only; omega) | (simp only [World.size_alloc, World.size_setCell, World.size_drew, World.heap_drewN]; omega)))⟩
    · clear d1
      have HPU : Hid (∀ W, Tabs W → 13 ≤ W.heap.size → Calls Tryz.prog 23 #[.string bd, .int .i64 10, .int .i64 64] W fun e w' => PuQ (Lx.wholeL s.data.toList) e ∧ Below W.heap.size W w') := Lib.hid fun W h1 h2 => by
        rw [hWB]
        exact (parse10_any bd (by omega) W h1)
      have HPZ0 : ∀ n, Lx.wholeL s.data.toList = some n → ∀ W, Calls Tryz.prog 75 #[.string bd, .string ⟨#[43]⟩] W fun e w' => e = .returned (.bool false) ∧ W = w' := fun n hn W => by
        have h := hasPrefix_any bd ⟨#[43]⟩ (by first | omega | (rw [drop_size]; omega)) (by decide) W
        rw [show decide ((⟨#[43]⟩ : ByteArray).data.toList <+: (bd).data.toList) = false from by
          rw [hWB] at hn
          split at hn
          · cases hn
          · have h2 := hn
            first | (rw [← drop_data] at h2; exact pre_plus h2) | exact pre_plus h2] at h
        exact h
      clear hWB
      cases hwl : Lx.wholeL s.data.toList with
      | some n =>
        have HPZ := Lib.hid (HPZ0 n hwl)
        rw [hwl] at HPU
        unfold PuQ at HPU
        have HN := Lib.hid hwl
        clear HPZ0 hwl
        go_enter Tryz.func51, Tryz.ntmps51
        go_wp2_with (first
  | (go_at_call 72; (with_reducible refine (HTR.out _).mono ?_); rintro e w1 ⟨rfl, hbl1⟩; have hzz1 := hbl1.size)
  | (go_at_call 73; (with_reducible refine (HLO.out _).mono ?_); rintro e w2 ⟨rfl, hbl2⟩; have hzz2 := hbl2.size)
  | (go_at_call 74; (with_reducible refine (HCU.out _).mono ?_); rintro e w' ⟨rfl, rfl⟩)
  | (go_at_call 74; (with_reducible refine (HCL.out _).mono ?_); rintro e w' ⟨rfl, rfl⟩)
  | (go_at_call 27; (with_reducible refine (HCO.out _).mono ?_); rintro e w' ⟨rfl, rfl⟩)
  | (go_at_call 75; (with_reducible refine (HPX.out _).mono ?_); rintro e w' ⟨rfl, rfl⟩)
  | (go_at_call 75; (with_reducible refine (HPY.out _).mono ?_); rintro e w' ⟨rfl, rfl⟩)
  | (go_at_call 75; (with_reducible refine (HPZ.out _).mono ?_); rintro e w' ⟨rfl, rfl⟩)
  | (go_at_call 23; (with_reducible refine (HPU.out _ (HTW.out _ (by (repeat' (first | (with_reducible exact Below.refl _ _) | (with_reducible assumption) | (with_reducible refine Below.setCell ?_ ?_ _) | (with_reducible refine Below.alloc ?_ ?_ _) | (with_reducible refine Below.drew ?_) | (with_reducible refine below_drewN ?_ _) | (with_reducible refine below_next ?_ (by with_reducible assumption)) | omega | (dsimp only; omega) | (simp only [World.size_alloc, World.size_setCell, World.size_drew, World.heap_drewN]; omega))))) (by omega)).mono ?_); rintro e w7 ⟨rfl, hbl7⟩)
  | (go_at_call 23; (with_reducible refine (HPU.out _ (HTW.out _ (by (repeat' (first | (with_reducible exact Below.refl _ _) | (with_reducible assumption) | (with_reducible refine Below.setCell ?_ ?_ _) | (with_reducible refine Below.alloc ?_ ?_ _) | (with_reducible refine Below.drew ?_) | (with_reducible refine below_drewN ?_ _) | (with_reducible refine below_next ?_ (by with_reducible assumption)) | omega | (dsimp only; omega) | (simp only [World.size_alloc, World.size_setCell, World.size_drew, World.heap_drewN]; omega))))) (by omega)).mono ?_); rintro e w7 ⟨⟨x7, N7, rfl⟩, hbl7⟩))
        skip
        all_goals go_returns
        all_goals exact ⟨rfl, by (repeat' (first | (with_reducible exact Below.refl _ _) | (with_reducible assumption) | (with_reducible refine Below.setCell ?_ ?_ _) | (with_reducible refine Below.alloc ?_ ?_ _) | (with_reducible refine Below.drew ?_) | (with_reducible refine below_drewN ?_ _) | (with_reducible refine below_next ?_ (by with_reducible assumption)) | omega | (dsimp only; omega) | (simp only [World.size_alloc, World.size_setCell, World.size_drew, World.heap_drewN]; omega)))⟩
      | none =>
        rw [hwl] at HPU
        unfold PuQ at HPU
        have HN := Lib.hid hwl
        clear HPZ0 hwl
        go_enter Tryz.func51, Tryz.ntmps51
        go_wp2_with (first
  | (go_at_call 72; (with_reducible refine (HTR.out _).mono ?_); rintro e w1 ⟨rfl, hbl1⟩; have hzz1 := hbl1.size)
  | (go_at_call 73; (with_reducible refine (HLO.out _).mono ?_); rintro e w2 ⟨rfl, hbl2⟩; have hzz2 := hbl2.size)
  | (go_at_call 74; (with_reducible refine (HCU.out _).mono ?_); rintro e w' ⟨rfl, rfl⟩)
  | (go_at_call 74; (with_reducible refine (HCL.out _).mono ?_); rintro e w' ⟨rfl, rfl⟩)
  | (go_at_call 27; (with_reducible refine (HCO.out _).mono ?_); rintro e w' ⟨rfl, rfl⟩)
  | (go_at_call 75; (with_reducible refine (HPX.out _).mono ?_); rintro e w' ⟨rfl, rfl⟩)
  | (go_at_call 75; (with_reducible refine (HPY.out _).mono ?_); rintro e w' ⟨rfl, rfl⟩)
  | (go_at_call 75; (with_reducible refine (HPZ.out _).mono ?_); rintro e w' ⟨rfl, rfl⟩)
  | (go_at_call 23; (with_reducible refine (HPU.out _ (HTW.out _ (by (repeat' (first | (with_reducible exact Below.refl _ _) | (with_reducible assumption) | (with_reducible refine Below.setCell ?_ ?_ _) | (with_reducible refine Below.alloc ?_ ?_ _) | (with_reducible refine Below.drew ?_) | (with_reducible refine below_drewN ?_ _) | (with_reducible refine below_next ?_ (by with_reducible assumption)) | omega | (dsimp only; omega) | (simp only [World.size_alloc, World.size_setCell, World.size_drew, World.heap_drewN]; omega))))) (by omega)).mono ?_); rintro e w7 ⟨rfl, hbl7⟩)
  | (go_at_call 23; (with_reducible refine (HPU.out _ (HTW.out _ (by (repeat' (first | (with_reducible exact Below.refl _ _) | (with_reducible assumption) | (with_reducible refine Below.setCell ?_ ?_ _) | (with_reducible refine Below.alloc ?_ ?_ _) | (with_reducible refine Below.drew ?_) | (with_reducible refine below_drewN ?_ _) | (with_reducible refine below_next ?_ (by with_reducible assumption)) | omega | (dsimp only; omega) | (simp only [World.size_alloc, World.size_setCell, World.size_drew, World.heap_drewN]; omega))))) (by omega)).mono ?_); rintro e w7 ⟨⟨x7, N7, rfl⟩, hbl7⟩))
        skip
        all_goals go_returns
        all_goals exact ⟨⟨_, rfl⟩, by (repeat' (first | (with_reducible exact Below.refl _ _) | (with_reducible assumption) | (with_reducible refine Below.setCell ?_ ?_ _) | (with_reducible refine Below.alloc ?_ ?_ _) | (with_reducible refine Below.drew ?_) | (with_reducible refine below_drewN ?_ _) | (with_reducible refine below_next ?_ (by with_reducible assumption)) | omega | (dsimp only; omega) | (simp only [World.size_alloc, World.size_setCell, World.size_drew, World.heap_drewN]; omega)))⟩
end Go.Proofs.YteplbbjmbhgllaaGreatDoor
