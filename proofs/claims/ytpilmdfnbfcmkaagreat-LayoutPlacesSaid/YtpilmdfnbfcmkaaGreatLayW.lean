/-
  Slots and their places: the program's walks.
-/
import Derived.Test.YtpilmdfnbfcmkaaGreatProg
import Derived.Test.YtpilmdfnbfcmkaaGreatLayLaw
import Derived.Test.YtpilmdfnbfcmkaaGreatRegion
import Derived.Test.YtpilmdfnbfcmkaaGreatOwn
import Derived.Test.YtpilmdfnbfcmkaaGreatMachDefs
import Derived.Deep.QuietTactic
import Derived.BigQuiet
import Derived.Outline
import Derived.Deep.RegionHeld3
import Derived.Deep.DeepCutAuto
import Derived.Deep.Light
namespace Go.Proofs.YtpilmdfnbfcmkaaGreat
open Go.RowKit
set_option linter.unusedVariables false
set_option linter.unusedSimpArgs false

def intC (n : Int) : List Value := [.int .i64 n]
def slC (p : Int × Int) : List Value := [.int .i64 p.1, .int .i64 p.2, .int .i64 77]
theorem intC_len (n : Int) : (intC n).length = 1 := rfl
theorem slC_len (p : Int × Int) : (slC p).length = 3 := rfl
theorem intC_one (l : List Int) : ∀ a ∈ l, ∀ u ∈ intC a, u.oneCell' = true := by
  intro a _ u hu; simp [intC] at hu; subst hu; rfl
theorem slC_one (l : List (Int × Int)) : ∀ a ∈ l, ∀ u ∈ slC a, u.oneCell' = true := by
  intro a _ u hu; simp [slC] at hu; rcases hu with rfl | rfl | rfl <;> rfl
theorem int_info : (Tryz.prog.info? 3).map (fun i => (i.zero, i.size, i.bytes)) = some (some (.int .i64 0), 1, 8) := by kernel_rfl
theorem sl_info : (Tryz.prog.info? 27).map (fun i => (i.zero, i.size, i.bytes)) = some (some (.agg #[.int .i64 0, .int .i64 0, .int .i64 0]), 3, 24) := by kernel_rfl

theorem own_one (W : World) (T : TypeId) (x : Int) : RdL intC 1 (W.alloc (.cells #[.int .i64 x] T)) (.slice (some ⟨W.heap.size, 0, none⟩) 1 1) [x] := by
  refine ⟨_, 1, rfl, by simp, by decide, fun _ => ⟨_, 0, rfl, by simp, fun k a ha j v hv => ?_⟩⟩
  match k, ha with
  | 0, ha =>
    simp at ha; subst ha
    match j, hv with
    | 0, hv => simp [intC] at hv; subst hv; simp [cell_alloc_if]
set_option maxHeartbeats 400000 in
theorem up_any (n a : Int) (w : World) (hn : 0 ≤ n) (hn2 : n ≤ 1099511627776) (ha : 1 ≤ a) (ha2 : a ≤ 8) :
    Calls Tryz.prog 9 #[.int .i64 n, .int .i64 a] w fun e w' => e = .returned (.int .i64 (upI n a)) ∧ w = w' := by
  by_cases h : a < 2
  · go_enter Tryz.func9, Tryz.ntmps9
    go_wp2
    go_ret
    exact ⟨by unfold upI; rw [if_pos (by omega)]; rfl, rfl⟩
  · have h1 : 0 ≤ (n + a - 1) / a := Int.ediv_nonneg (by omega) (by omega)
    have h2 : (n + a - 1) / a * a ≤ n + a - 1 := Int.ediv_mul_le _ (by omega)
    have h3 : 0 ≤ (n + a - 1) / a * a := Int.mul_nonneg h1 (by omega)
    have h4 : IntKind.i64.wrap ((n + a - 1) / a * a) = (n + a - 1) / a * a := IntWalk.i64_in _ (by omega)
    go_enter Tryz.func9, Tryz.ntmps9
    go_wp2
    go_ret
    exact ⟨by unfold upI; rw [if_neg (by omega)]; rfl, rfl⟩
theorem algK_succ (s a : Int) (k : Nat) : algK s a (k + 1) = if pw k ≤ s then max (algK s a k) (pw k) else algK s a k := rfl
set_option maxHeartbeats 1000000 in
theorem align_any (s a : Int) (w : World) :
    Calls Tryz.prog 10 #[.agg #[.int .i64 s, .int .i64 a, .int .i64 77]] w fun e w' => e = .returned (.int .i64 (algI s a)) ∧ Below w.heap.size w w' := by
  have hA1 := cell_alloc_if
  have hA2 := frozen_alloc_if
  have hA3 := cell_set_if
  go_enter Tryz.func10, Tryz.ntmps10
  go_wp2
  go_loop [3, 10] (fun t i => ∃ k : Nat, k ≤ 3 ∧ i = .int .i64 k ∧ t = .int .i64 (algK s a k)) (fun _ i => 3 - (intOf i).toNat)
  case atStart => exact ⟨0, by omega, rfl, rfl⟩
  case round =>
    obtain ⟨k, hk, rfl, rfl⟩ := hrel
    obtain ⟨y, hy⟩ : ∃ y, y = algK s a k := ⟨_, rfl⟩
    rw [← hy]
    have HY := Lib.hid hy
    clear hy
    by_cases hlt : k < 3
    · have h3 : k = 0 ∨ k = 1 ∨ k = 2 := by omega
      clear hlt hk
      rcases h3 with rfl | rfl | rfl
      · have hk0 : ((0 : Nat) : Int) = 0 := rfl
        rw [hk0]
        by_cases hc : 2 ≤ s
        · go_wp2
          all_goals (
            go_round
            case rel => exact ⟨0 + 1, by omega, rfl, by rw [algK_succ, ← HY.out, show pw 0 = 2 from rfl, if_pos hc]; first | rfl | (congr 1; omega)⟩
            case measure => simp [intOf])
        · go_wp2
          all_goals (
            go_round
            case rel => exact ⟨0 + 1, by omega, rfl, by rw [algK_succ, ← HY.out, show pw 0 = 2 from rfl, if_neg (by omega)]⟩
            case measure => simp [intOf])
      · have hk0 : ((1 : Nat) : Int) = 1 := rfl
        rw [hk0]
        by_cases hc : 4 ≤ s
        · go_wp2
          all_goals (
            go_round
            case rel => exact ⟨1 + 1, by omega, rfl, by rw [algK_succ, ← HY.out, show pw 1 = 4 from rfl, if_pos hc]; first | rfl | (congr 1; omega)⟩
            case measure => simp [intOf])
        · go_wp2
          all_goals (
            go_round
            case rel => exact ⟨1 + 1, by omega, rfl, by rw [algK_succ, ← HY.out, show pw 1 = 4 from rfl, if_neg (by omega)]⟩
            case measure => simp [intOf])
      · have hk0 : ((2 : Nat) : Int) = 2 := rfl
        rw [hk0]
        by_cases hc : 8 ≤ s
        · go_wp2
          all_goals (
            go_round
            case rel => exact ⟨2 + 1, by omega, rfl, by rw [algK_succ, ← HY.out, show pw 2 = 8 from rfl, if_pos hc]; first | rfl | (congr 1; omega)⟩
            case measure => simp [intOf])
        · go_wp2
          all_goals (
            go_round
            case rel => exact ⟨2 + 1, by omega, rfl, by rw [algK_succ, ← HY.out, show pw 2 = 8 from rfl, if_neg (by omega)]⟩
            case measure => simp [intOf])
    · obtain rfl : k = 3 := by omega
      go_wp2
      go_returns
      exact ⟨by rw [HY.out]; rfl, by (repeat' (first | (with_reducible exact Below.refl _ _) | (with_reducible assumption) | (with_reducible refine Below.setCell ?_ ?_ _) | (with_reducible refine Below.alloc ?_ ?_ _) | (with_reducible refine Below.drew ?_) | (with_reducible refine below_drewN ?_ _) | (with_reducible refine below_next ?_ (by with_reducible assumption)) | omega | (dsimp only; omega) | (simp only [World.size_alloc, World.size_setCell, World.size_drew, World.heap_drewN]; omega)))⟩

/-- What Places answers. -/
def PlacesP (l : List (Int × Int)) (w : World) (e : Ending) (w' : World) : Prop :=
  ∃ A c, e = .returned (.tuple #[.slice A l.length c, .int .i64 (upI (plcK l l.length).2 8)]) ∧ RdL intC 1 w' (.slice A l.length c) (plcK l l.length).1 ∧ Below w.heap.size w w'
set_option maxRecDepth 100000 in
set_option maxHeartbeats 1000000 in
theorem places_any (s : Value) (l : List (Int × Int)) (w : World) (hs : RdL slC 3 w s l) (ho : OkS l) (hl : l.length ≤ 1000) : Calls Tryz.prog 5 #[s] w (PlacesP l w) := by
  obtain ⟨i0, hi0, hz0, hz1, hz2⟩ := info_parts int_info
  have HS := Lib.hid hs
  obtain ⟨As, cs, rfl, _, _, _⟩ := hs
  have HO := Lib.hid ho
  clear ho
  have hA1 := cell_alloc_if
  have hA2 := frozen_alloc_if
  have hA3 := cell_set_if
  go_enter Tryz.func5, Tryz.ntmps5
  go_wp2
  go_loopw [4, 5, 11] (fun v e i wr => ∃ (k : Nat) (A4 : Option Addr) (c4 : Nat), k ≤ l.length ∧ i = .int .i64 k ∧ e = .int .i64 (plcK l k).2 ∧ v = .slice A4 k c4 ∧ Ext w wr ∧ Hid (OwnL 3 intC 1 w.heap.size wr (.slice A4 k c4) (plcK l k).1)) (fun _ _ i _ => l.length - (intOf i).toNat)
  case atStart => exact ⟨0, none, 0, by omega, rfl, rfl, rfl, Below.refl _ _, Lib.hid (OwnL.nil _ _ _ _ _)⟩
  case round =>
    obtain ⟨k, A4, c4, hk, rfl, rfl, rfl, hX, HOW⟩ := hrel
    have hXb := Ext.of hX
    have hXz := hXb.size
    obtain ⟨q1, q2, q3⟩ := plcK_law HO.out k hk
    obtain ⟨e, he⟩ : ∃ e, e = (plcK l k).2 := ⟨_, rfl⟩
    rw [← he] at q2 q3
    have HE := Lib.hid he
    have HQ1 := Lib.hid q1
    rw [← he]
    clear he q1
    by_cases hlt : k < l.length
    · obtain ⟨p, ef⟩ : ∃ p, l[k]? = some p := ⟨_, List.getElem?_eq_getElem hlt⟩
      obtain ⟨g, o, c2, ev, _, _, hgl, hgc⟩ := (HS.out.next hXb).some_ (by omega)
      injection ev with ev0 ev1 ev2
      subst ev0
      obtain ⟨s1, a1⟩ := p
      have p0 := hgc k _ ef 0 _ rfl
      have p1 := hgc k _ ef 1 _ rfl
      have p2 := hgc k _ ef 2 _ rfl
      simp only [Nat.add_zero] at p0
      obtain ⟨r1, r2, r3⟩ := HO.out _ (List.mem_of_getElem? ef)
      dsimp only at r1 r2 r3
      have hal := algI_ok (s := s1) r3
      have hu := upI_law hal q2
      obtain ⟨al, hal'⟩ : ∃ al, al = algI s1 a1 := ⟨_, rfl⟩
      have HAG : Hid (∀ W, Calls Tryz.prog 10 #[.agg #[.int .i64 s1, .int .i64 a1, .int .i64 77]] W fun e w' => e = .returned (.int .i64 al) ∧ Below W.heap.size W w') := Lib.hid (by rw [hal']; exact align_any s1 a1)
      rw [← hal'] at hal hu
      obtain ⟨u, hu'⟩ : ∃ u, u = upI e al := ⟨_, rfl⟩
      have hal1 : 1 ≤ al ∧ al ≤ 8 := by unfold OkA at hal; omega
      have HUP : Hid (∀ W, Calls Tryz.prog 9 #[.int .i64 e, .int .i64 al] W fun e w' => e = .returned (.int .i64 u) ∧ W = w') := Lib.hid (by rw [hu']; exact fun W => up_any e al W q2 (by omega) hal1.1 hal1.2)
      rw [← hu'] at hu
      have HNX : Hid (plcK l (k + 1) = ((plcK l k).1 ++ [u], u + max s1 0)) := Lib.hid (by rw [plcK_succ ef, ← HE.out, ← hal', ← hu'])
      obtain ⟨hu1, hu2, _⟩ := hu
      have hmx : max s1 0 = s1 := by omega
      have hns : ¬ s1 < 0 := by omega
      clear hgc ef hal hal' hu' ev1 ev2 r3
      go_wp2_with (first
        | (go_at_call 10; (with_reducible refine (HAG.out _).mono ?_); rintro e w4 ⟨rfl, hb4⟩; obtain ⟨hc4, hf4, hz4⟩ := cif hb4; clear hf4; (try simp only [World.size_alloc, World.size_setCell, World.size_drew, World.heap_drewN] at hz4))
        | (go_at_call 9; (with_reducible refine (HUP.out _).mono ?_); rintro e w5 ⟨rfl, rfl⟩)
        | (at_builtin; refine wpList_app (e := 3) (f := intC) rfl _ _ 22 rfl w.heap.size i0 _ 8 Tryz.underlying22 hi0 hz0 hz1 hz2 rfl (by decide) intC_len (.slice A4 k c4) (plcK l k).1 rfl ?c0 _ 1 _ [u] rfl ?c1 ?c2 (by decide) ?c3 ?c4 ?_))
      case c0 => exact HOW.out.next (by unfold Ext at *; (repeat' (first | (with_reducible exact Below.refl _ _) | (with_reducible assumption) | (with_reducible refine Below.setCell ?_ ?_ _) | (with_reducible refine Below.alloc ?_ ?_ _) | (with_reducible refine Below.drew ?_) | (with_reducible refine below_drewN ?_ _) | (with_reducible refine below_next ?_ (by with_reducible assumption)) | omega | (dsimp only; omega) | (simp only [World.size_alloc, World.size_setCell, World.size_drew, World.heap_drewN]; omega))))
      case c1 => exact own_one _ _ _
      case c2 => exact intC_one _
      case c3 => have := HQ1.out; first | omega | (simp; omega)
      case c4 => first | omega | (simp; omega)
      intro A9 c9 w6 hown hg hB hor
      have HOW2 : Hid (OwnL 3 intC 1 w.heap.size w6 (.slice A9 (k + 1) c9) (plcK l (k + 1)).1) := Lib.hid (by
        rw [HNX.out]
        have := HQ1.out
        rw [this] at hown
        exact hown)
      have q4 : w4.cell? ⟨wr.heap.size, 0, none⟩ = some (.int .i64 s1) := by rw [hc4, if_pos (by simp)]; simp [cell_alloc_if]
      have q6 : w6.cell? ⟨wr.heap.size, 0, none⟩ = some (.int .i64 s1) := by
        refine (World.cell?_of_block (a := ⟨wr.heap.size, 0, none⟩) (hg.block wr.heap.size (by show wr.heap.size < (w4.heap.push _).size; rw [Array.size_push]; omega) fun e => ?_)).trans ?_
        · have := (HOW.out.lt e.symm).2; omega
        · rw [cell_alloc_if, if_pos (by omega)]; exact q4
      have hX6 : Below w.heap.size w w6 := Below.trans (by unfold Ext at *; (repeat' (first | (with_reducible exact Below.refl _ _) | (with_reducible assumption) | (with_reducible refine Below.setCell ?_ ?_ _) | (with_reducible refine Below.alloc ?_ ?_ _) | (with_reducible refine Below.drew ?_) | (with_reducible refine below_drewN ?_ _) | (with_reducible refine below_next ?_ (by with_reducible assumption)) | omega | (dsimp only; omega) | (simp only [World.size_alloc, World.size_setCell, World.size_drew, World.heap_drewN]; omega)))) hB
      have hl6 := HQ1.out
      clear hown hg hB hor
      clear hc4 q4
      go_wp2
      go_roundw
      case rel => exact ⟨k + 1, A9, c9, by omega, by go_num, by rw [HNX.out, hmx], by rw [hl6], hX6, HOW2⟩
      case measure => simp [intOf]; omega
    · obtain rfl : k = l.length := by omega
      have HUP : Hid (∀ W, Calls Tryz.prog 9 #[.int .i64 e, .int .i64 8] W fun e' w' => e' = .returned (.int .i64 (upI e 8)) ∧ W = w') := Lib.hid (fun W => up_any e 8 W q2 (by omega) (by omega) (by omega))
      obtain ⟨u, hu⟩ : ∃ u, u = upI e 8 := ⟨_, rfl⟩
      rw [← hu] at HUP
      have HU := Lib.hid hu
      clear hu
      go_wp2_with (go_at_call 9; (with_reducible refine (HUP.out _).mono ?_); rintro e w5 ⟨rfl, rfl⟩)
      go_ret2
      refine ⟨A4, c4, by rw [← HE.out, ← HU.out]; rfl, ?_, hXb⟩
      have h := HOW.out.rdl intC_len
      exact h
end Go.Proofs.YtpilmdfnbfcmkaaGreat
