/-
  A token, as a loop over its bytes finds it. No program in sight.
  The reference's token.
-/
import Derived.Test.YteplbbjmbhgllaaGreatDoorLexM09
import Derived.Test.YteplbbjmbhgllaaGreatDoorLexM10
import Derived.Test.YteplbbjmbhgllaaGreatDoorLexM11
namespace Go.Proofs.YteplbbjmbhgllaaGreatDoor.Lx
open Go.Lib
set_option linter.unusedVariables false
set_option linter.unusedSimpArgs false

theorem spanL_at {p : Nat → Bool} {L : Bs} {k : Nat} (hk : k ≤ L.length) (h : ∀ b ∈ L.take k, p b.toNat = true) (he : k = L.length ∨ p (byteN L k) = false) : spanL p L = L.take k := by
  unfold spanL
  have e : L = L.take k ++ L.drop k := (List.take_append_drop k L).symm
  have h2 : (L.drop k).takeWhile (fun b => p b.toNat) = [] := by
    rcases he with rfl | he
    · simp
    · by_cases hl : k < L.length
      · rw [drop_byte hl, List.takeWhile_cons]
        have : p (L.getD k 0).toNat = false := he
        simp only [this]
        rfl
      · rw [List.drop_of_length_le (by omega)]; rfl
  have h3 := List.takeWhile_append_of_pos (l₂ := L.drop k) (p := fun b : UInt8 => p b.toNat) h
  rw [← e, h2, List.append_nil] at h3
  exact h3
/-- A letter ahead. -/
theorem token_let {fl : Bs → Nat → Option Nat} {L : Bs} {k : Nat} (h0 : 0 < L.length) (h : isLet (byteN L 0) = true) (hk : k ≤ L.length) (hs : spanL (fun c => isLet c || isDig c) L = L.take k) :
    tokenL fl L = if 64 < k then .error 7 else .ok ⟨if L.take k ∈ words then 2 else 1, k, 0, []⟩ := by
  match L, h0 with
  | b :: r, _ =>
    have hb : isLet b.toNat = true := h
    have hl : ((b :: r).take k).length = k := by rw [List.length_take]; omega
    unfold tokenL
    dsimp only
    rw [if_pos hb, hs, hl]
theorem token_dig {fl : Bs → Nat → Option Nat} {L : Bs} {k : Nat} (h0 : 0 < L.length) (h1 : isLet (byteN L 0) = false) (h : isDig (byteN L 0) = true) (hk : k ≤ L.length) (hs : spanL (fun c => isLet c || isDig c || decide (c = 46)) L = L.take k) :
    tokenL fl L = match numL fl (L.take k) with
      | some (kd, n) => .ok ⟨kd, k, n, []⟩
      | none => .error 2 := by
  match L, h0 with
  | b :: r, _ =>
    have hb : isLet b.toNat = false := h1
    have hd : isDig b.toNat = true := h
    have hl : ((b :: r).take k).length = k := by rw [List.length_take]; omega
    unfold tokenL numL
    dsimp only
    rw [if_neg (by rw [hb]; decide), if_pos hd, hs]
    cases hw : wholeL ((b :: r).take k) with
    | some n => dsimp only; rw [hl]
    | none =>
      dsimp only
      split
      · rfl
      · rw [hl]
        cases fl _ _ <;> rfl
theorem token_char {fl : Bs → Nat → Option Nat} {L : Bs} (h0 : 0 < L.length) (h : byteN L 0 = 39) :
    tokenL fl L = match quoL 39 (L.drop 1) [] 0 0 with
      | some q => if q.n = 1 then .ok ⟨5, L.length - q.rest.length, q.last, []⟩ else .error 2
      | none => .error 2 := by
  match L, h0 with
  | b :: r, _ =>
    have hb : b.toNat = 39 := h
    unfold tokenL
    dsimp only
    rw [if_neg (by rw [hb]; decide), if_neg (by rw [hb]; decide), if_pos hb, quoF_L (by simp)]
    rfl
theorem token_text {fl : Bs → Nat → Option Nat} {L : Bs} (h0 : 0 < L.length) (h : byteN L 0 = 34) :
    tokenL fl L = match quoL 34 (L.drop 1) [] 0 0 with
      | some q => .ok ⟨6, L.length - q.rest.length, 0, q.data⟩
      | none => .error 2 := by
  match L, h0 with
  | b :: r, _ =>
    have hb : b.toNat = 34 := h
    unfold tokenL
    dsimp only
    rw [if_neg (by rw [hb]; decide), if_neg (by rw [hb]; decide), if_neg (by rw [hb]; decide), if_pos hb, quoF_L (by simp)]
    rfl
theorem token_sign {fl : Bs → Nat → Option Nat} {L : Bs} (h0 : 0 < L.length) (h1 : isLet (byteN L 0) = false) (h2 : isDig (byteN L 0) = false) (h3 : byteN L 0 ≠ 39) (h4 : byteN L 0 ≠ 34) :
    tokenL fl L = match signL L with
      | some k => .ok ⟨7, k, 0, []⟩
      | none => .error 2 := by
  match L, h0 with
  | b :: r, _ =>
    have hb1 : isLet b.toNat = false := h1
    have hb2 : isDig b.toNat = false := h2
    have hb3 : b.toNat ≠ 39 := h3
    have hb4 : b.toNat ≠ 34 := h4
    unfold tokenL
    dsimp only
    rw [if_neg (by rw [hb1]; decide), if_neg (by rw [hb2]; decide), if_neg hb3, if_neg hb4]
    cases signL (b :: r) <;> rfl
end Go.Proofs.YteplbbjmbhgllaaGreatDoor.Lx

namespace Go.Proofs.YteplbbjmbhgllaaGreatDoor
open Go.RowKit
set_option linter.unusedVariables false
set_option linter.unusedSimpArgs false

/-- What token answers. -/
def TokP (s : ByteArray) (e : Ending) : Prop := match Lx.tokenL Lx.flF s.data.toList with
  | .ok t => e = .returned (.tuple #[tokV t.kind (0, 0) (s.extract 0 t.len) t.bits ⟨t.data.toArray⟩, .int .i64 0])
  | .error k => ∃ t, IsTok t ∧ e = .returned (.tuple #[t, .int .i64 (k : Int)])
theorem tokP_ok {s : ByteArray} {e : Ending} {t : Lx.TokB} (h : Lx.tokenL Lx.flF s.data.toList = .ok t) (he : e = .returned (.tuple #[tokV t.kind (0, 0) (s.extract 0 t.len) t.bits ⟨t.data.toArray⟩, .int .i64 0])) : TokP s e := by
  unfold TokP; rw [h]; exact he
theorem tokP_err {s : ByteArray} {e : Ending} {k : Nat} {t : Value} (h : Lx.tokenL Lx.flF s.data.toList = .error k) (he : e = .returned (.tuple #[t, .int .i64 (k : Int)])) (ht : IsTok t) : TokP s e := by
  unfold TokP; rw [h]; exact ⟨t, ht, he⟩
theorem take_data (s : ByteArray) (k : Nat) : (s.extract 0 k).data.toList = s.data.toList.take k := by rw [Lib.extract_data, List.drop_zero, Nat.sub_zero]
theorem take_size {s : ByteArray} {k : Nat} (h : k ≤ s.size) : (s.extract 0 k).size = k := by rw [← szl, take_data, List.length_take, szl]; omega
theorem take_all {l : List UInt8} {k : Nat} {p : Nat → Bool} (h : ∀ b ∈ l.take k, p b.toNat = true) (hk : k < l.length) (hb : p (byteN l k) = true) : ∀ b ∈ l.take (k + 1), p b.toNat = true :=
  take_succ_all (p := fun b => p b.toNat = true) h hk hb
def pW (c : Nat) : Bool := Lx.isLet c || Lx.isDig c
def pN (c : Nat) : Bool := Lx.isLet c || Lx.isDig c || decide (c = 46)
set_option maxRecDepth 100000 in
set_option maxHeartbeats 8000000 in
theorem rtoken_word (s : ByteArray) (hs : s.size ≤ 1048576) (h0 : 0 < s.size) (hlet : Lx.isLet (byteN s.data.toList 0) = true) (w : World) : Calls Tryz.prog 22 #[.string s] w fun e w' => TokP s e ∧ Below w.heap.size w w' := by
  have hA1 := cell_alloc_if
  have hA2 := frozen_alloc_if
  have hA3 := cell_set_if
  have hix0 := fun W => idx_s (P := Tryz.prog) 9 Tryz.underlying9 s .i64 0 0 rfl h0 W
  have HL0 := Lib.hid (fun W => rletter_any (byteN s.data.toList 0) (byteN_lt _ _) W)
  have HT := Lib.hid (fun (k : Nat) (hk : k ≤ s.data.toList.length) hs => Lx.token_let (fl := Lx.flF) (L := s.data.toList) (k := k) (by rw [szl]; exact h0) hlet hk hs)
  rw [hlet] at HL0
  clear hlet
  generalize byteN s.data.toList 0 = x0 at hix0 HL0
  go_enter Tryz.func22, Tryz.ntmps22
  go_wp2_with (first
  | (go_at_call 38; (with_reducible refine (HL.out _).mono ?_); rintro e w' ⟨rfl, rfl⟩)
  | (go_at_call 39; (with_reducible refine (HD.out _).mono ?_); rintro e w' ⟨rfl, rfl⟩)
  | (go_at_call 38; (with_reducible refine (HL0.out _).mono ?_); rintro e w' ⟨rfl, rfl⟩)
  | (go_at_call 39; (with_reducible refine (HD0.out _).mono ?_); rintro e w' ⟨rfl, rfl⟩)
  | (go_at_call 40; (with_reducible refine (HW.out _).mono ?_); rintro e w' ⟨rfl, rfl⟩)
  | (go_at_call 43; (with_reducible refine (HG.out _).mono ?_); rintro e w' ⟨g, rfl, hg, rfl⟩))
  go_loop [4] (fun a4 => ∃ (k : Nat), a4 = .int .i64 k ∧ k ≤ s.size ∧ Hid (∀ b ∈ s.data.toList.take k, pW b.toNat = true)) (fun a4 => s.size - (intOf a4).toNat)
  case atStart => exact ⟨0, rfl, by omega, Lib.hid (by simp)⟩
  case round =>
    obtain ⟨k, rfl, hk, HS⟩ := hrel
    by_cases hgo : k < s.size ∧ pW (byteN s.data.toList k) = true
    · obtain ⟨hlt, hgo⟩ := hgo
      have hix := fun W => idx_s (P := Tryz.prog) 9 Tryz.underlying9 s .i64 (k : Int) k rfl (by omega) W
      have HN : Hid (∀ b ∈ s.data.toList.take (k + 1), pW b.toNat = true) := Lib.hid (take_all HS.out (by rw [szl]; exact hlt) hgo)
      have HL := Lib.hid (fun W => rletter_any (byteN s.data.toList k) (byteN_lt _ _) W)
      have HD := Lib.hid (fun W => rdigit_any (byteN s.data.toList k) (byteN_lt _ _) W)
      unfold pW at hgo
      generalize hb1 : Lx.isLet (byteN s.data.toList k) = b1 at hgo HL
      generalize hb2 : Lx.isDig (byteN s.data.toList k) = b2 at hgo HD
      clear hb1 hb2 HS
      generalize byteN s.data.toList k = x at hix HL HD
      cases b1 with
      | true =>
        go_wp2_with (first
  | (go_at_call 38; (with_reducible refine (HL.out _).mono ?_); rintro e w' ⟨rfl, rfl⟩)
  | (go_at_call 39; (with_reducible refine (HD.out _).mono ?_); rintro e w' ⟨rfl, rfl⟩)
  | (go_at_call 38; (with_reducible refine (HL0.out _).mono ?_); rintro e w' ⟨rfl, rfl⟩)
  | (go_at_call 39; (with_reducible refine (HD0.out _).mono ?_); rintro e w' ⟨rfl, rfl⟩)
  | (go_at_call 40; (with_reducible refine (HW.out _).mono ?_); rintro e w' ⟨rfl, rfl⟩)
  | (go_at_call 43; (with_reducible refine (HG.out _).mono ?_); rintro e w' ⟨g, rfl, hg, rfl⟩))
        go_round
        case rel => exact ⟨k + 1, by go_num, by omega, HN⟩
        case measure => simp [intOf]; omega
      | false =>
        cases b2 with
        | false => cases hgo
        | true =>
          go_wp2_with (first
  | (go_at_call 38; (with_reducible refine (HL.out _).mono ?_); rintro e w' ⟨rfl, rfl⟩)
  | (go_at_call 39; (with_reducible refine (HD.out _).mono ?_); rintro e w' ⟨rfl, rfl⟩)
  | (go_at_call 38; (with_reducible refine (HL0.out _).mono ?_); rintro e w' ⟨rfl, rfl⟩)
  | (go_at_call 39; (with_reducible refine (HD0.out _).mono ?_); rintro e w' ⟨rfl, rfl⟩)
  | (go_at_call 40; (with_reducible refine (HW.out _).mono ?_); rintro e w' ⟨rfl, rfl⟩)
  | (go_at_call 43; (with_reducible refine (HG.out _).mono ?_); rintro e w' ⟨g, rfl, hg, rfl⟩))
          go_round
          case rel => exact ⟨k + 1, by go_num, by omega, HN⟩
          case measure => simp [intOf]; omega
    · have HR : Hid (Lx.tokenL Lx.flF s.data.toList = if 64 < k then .error 7 else .ok ⟨if s.data.toList.take k ∈ Lx.words then 2 else 1, k, 0, []⟩) := Lib.hid (HT.out k (by rw [szl]; exact hk) (Lx.spanL_at (by rw [szl]; exact hk) HS.out (by
        by_cases c : k = s.size
        · exact .inl (by rw [szl]; exact c)
        · refine .inr ?_
          show pW (byteN s.data.toList k) = false
          by_cases c2 : pW (byteN s.data.toList k) = true
          · exact absurd ⟨by omega, c2⟩ hgo
          · simpa using c2)))
      have HW := Lib.hid (fun W => rword_any (s.extract 0 k) (by rw [take_size hk]; omega) W)
      simp only [take_data] at HW
      have HE : Hid (k = s.size ∨ (k < s.size ∧ Lx.isLet (byteN s.data.toList k) = false ∧ Lx.isDig (byteN s.data.toList k) = false)) := Lib.hid (by
        by_cases c : k = s.size
        · exact .inl c
        · refine .inr ⟨by omega, ?_⟩
          have : ¬ pW (byteN s.data.toList k) = true := fun h => hgo ⟨by omega, h⟩
          unfold pW at this
          simpa using this)
      clear hgo HS HT
      generalize hbw : decide (s.data.toList.take k ∈ Lx.words) = bw at HW
      have HBW := Lib.hid hbw
      clear hbw
      rcases HE.out with hks | ⟨hlt, e1, e2⟩
      · have hnl : ¬ k < s.size := by omega
        have hnd : decide ((k : Int) < (s.size : Int)) = false := decide_eq_false (by omega)
        have HK := Lib.hid hks
        clear hks
        by_cases c64 : 64 < k
        · rw [if_pos c64] at HR
          go_wp2_with (first
  | (go_at_call 38; (with_reducible refine (HL.out _).mono ?_); rintro e w' ⟨rfl, rfl⟩)
  | (go_at_call 39; (with_reducible refine (HD.out _).mono ?_); rintro e w' ⟨rfl, rfl⟩)
  | (go_at_call 38; (with_reducible refine (HL0.out _).mono ?_); rintro e w' ⟨rfl, rfl⟩)
  | (go_at_call 39; (with_reducible refine (HD0.out _).mono ?_); rintro e w' ⟨rfl, rfl⟩)
  | (go_at_call 40; (with_reducible refine (HW.out _).mono ?_); rintro e w' ⟨rfl, rfl⟩)
  | (go_at_call 43; (with_reducible refine (HG.out _).mono ?_); rintro e w' ⟨g, rfl, hg, rfl⟩))
          ((try simp only [Exit.inBlock, Exit.then]); go_light; refine bodyPost_ret (by simp [results, Tryz.results22, go_sem, *, ↓IntWalk.iteOmega]; try rfl) rfl ?_)
          exact ⟨tokP_err HR.out rfl (isTok _ _ _ _ _ _), by (repeat' (first | (with_reducible exact Below.refl _ _) | (with_reducible assumption) | (with_reducible refine Below.setCell ?_ ?_ _) | (with_reducible refine Below.alloc ?_ ?_ _) | (with_reducible refine Below.drew ?_) | (with_reducible refine below_drewN ?_ _) | (with_reducible refine below_next ?_ (by with_reducible assumption)) | omega | (dsimp only; omega) | (simp only [World.size_alloc, World.size_setCell, World.size_drew, World.heap_drewN]; omega)))⟩
        · rw [if_neg c64] at HR
          cases bw with
          | true =>
            go_wp2_with (first
  | (go_at_call 38; (with_reducible refine (HL.out _).mono ?_); rintro e w' ⟨rfl, rfl⟩)
  | (go_at_call 39; (with_reducible refine (HD.out _).mono ?_); rintro e w' ⟨rfl, rfl⟩)
  | (go_at_call 38; (with_reducible refine (HL0.out _).mono ?_); rintro e w' ⟨rfl, rfl⟩)
  | (go_at_call 39; (with_reducible refine (HD0.out _).mono ?_); rintro e w' ⟨rfl, rfl⟩)
  | (go_at_call 40; (with_reducible refine (HW.out _).mono ?_); rintro e w' ⟨rfl, rfl⟩)
  | (go_at_call 43; (with_reducible refine (HG.out _).mono ?_); rintro e w' ⟨g, rfl, hg, rfl⟩))
            ((try simp only [Exit.inBlock, Exit.then]); go_light; refine bodyPost_ret (by simp [results, Tryz.results22, go_sem, *, ↓IntWalk.iteOmega]; try rfl) rfl ?_)
            exact ⟨tokP_ok (HR.out.trans (by rw [if_pos (of_decide_eq_true HBW.out)])) rfl, by (repeat' (first | (with_reducible exact Below.refl _ _) | (with_reducible assumption) | (with_reducible refine Below.setCell ?_ ?_ _) | (with_reducible refine Below.alloc ?_ ?_ _) | (with_reducible refine Below.drew ?_) | (with_reducible refine below_drewN ?_ _) | (with_reducible refine below_next ?_ (by with_reducible assumption)) | omega | (dsimp only; omega) | (simp only [World.size_alloc, World.size_setCell, World.size_drew, World.heap_drewN]; omega)))⟩
          | false =>
            go_wp2_with (first
  | (go_at_call 38; (with_reducible refine (HL.out _).mono ?_); rintro e w' ⟨rfl, rfl⟩)
  | (go_at_call 39; (with_reducible refine (HD.out _).mono ?_); rintro e w' ⟨rfl, rfl⟩)
  | (go_at_call 38; (with_reducible refine (HL0.out _).mono ?_); rintro e w' ⟨rfl, rfl⟩)
  | (go_at_call 39; (with_reducible refine (HD0.out _).mono ?_); rintro e w' ⟨rfl, rfl⟩)
  | (go_at_call 40; (with_reducible refine (HW.out _).mono ?_); rintro e w' ⟨rfl, rfl⟩)
  | (go_at_call 43; (with_reducible refine (HG.out _).mono ?_); rintro e w' ⟨g, rfl, hg, rfl⟩))
            ((try simp only [Exit.inBlock, Exit.then]); go_light; refine bodyPost_ret (by simp [results, Tryz.results22, go_sem, *, ↓IntWalk.iteOmega]; try rfl) rfl ?_)
            exact ⟨tokP_ok (HR.out.trans (by rw [if_neg (of_decide_eq_false HBW.out)])) rfl, by (repeat' (first | (with_reducible exact Below.refl _ _) | (with_reducible assumption) | (with_reducible refine Below.setCell ?_ ?_ _) | (with_reducible refine Below.alloc ?_ ?_ _) | (with_reducible refine Below.drew ?_) | (with_reducible refine below_drewN ?_ _) | (with_reducible refine below_next ?_ (by with_reducible assumption)) | omega | (dsimp only; omega) | (simp only [World.size_alloc, World.size_setCell, World.size_drew, World.heap_drewN]; omega)))⟩
      · have hix := fun W => idx_s (P := Tryz.prog) 9 Tryz.underlying9 s .i64 (k : Int) k rfl (by omega) W
        have HL := Lib.hid (fun W => rletter_any (byteN s.data.toList k) (byteN_lt _ _) W)
        have HD := Lib.hid (fun W => rdigit_any (byteN s.data.toList k) (byteN_lt _ _) W)
        rw [e1] at HL
        rw [e2] at HD
        clear e1 e2
        generalize byteN s.data.toList k = x at hix HL HD
        by_cases c64 : 64 < k
        · rw [if_pos c64] at HR
          go_wp2_with (first
  | (go_at_call 38; (with_reducible refine (HL.out _).mono ?_); rintro e w' ⟨rfl, rfl⟩)
  | (go_at_call 39; (with_reducible refine (HD.out _).mono ?_); rintro e w' ⟨rfl, rfl⟩)
  | (go_at_call 38; (with_reducible refine (HL0.out _).mono ?_); rintro e w' ⟨rfl, rfl⟩)
  | (go_at_call 39; (with_reducible refine (HD0.out _).mono ?_); rintro e w' ⟨rfl, rfl⟩)
  | (go_at_call 40; (with_reducible refine (HW.out _).mono ?_); rintro e w' ⟨rfl, rfl⟩)
  | (go_at_call 43; (with_reducible refine (HG.out _).mono ?_); rintro e w' ⟨g, rfl, hg, rfl⟩))
          ((try simp only [Exit.inBlock, Exit.then]); go_light; refine bodyPost_ret (by simp [results, Tryz.results22, go_sem, *, ↓IntWalk.iteOmega]; try rfl) rfl ?_)
          exact ⟨tokP_err HR.out rfl (isTok _ _ _ _ _ _), by (repeat' (first | (with_reducible exact Below.refl _ _) | (with_reducible assumption) | (with_reducible refine Below.setCell ?_ ?_ _) | (with_reducible refine Below.alloc ?_ ?_ _) | (with_reducible refine Below.drew ?_) | (with_reducible refine below_drewN ?_ _) | (with_reducible refine below_next ?_ (by with_reducible assumption)) | omega | (dsimp only; omega) | (simp only [World.size_alloc, World.size_setCell, World.size_drew, World.heap_drewN]; omega)))⟩
        · rw [if_neg c64] at HR
          cases bw with
          | true =>
            go_wp2_with (first
  | (go_at_call 38; (with_reducible refine (HL.out _).mono ?_); rintro e w' ⟨rfl, rfl⟩)
  | (go_at_call 39; (with_reducible refine (HD.out _).mono ?_); rintro e w' ⟨rfl, rfl⟩)
  | (go_at_call 38; (with_reducible refine (HL0.out _).mono ?_); rintro e w' ⟨rfl, rfl⟩)
  | (go_at_call 39; (with_reducible refine (HD0.out _).mono ?_); rintro e w' ⟨rfl, rfl⟩)
  | (go_at_call 40; (with_reducible refine (HW.out _).mono ?_); rintro e w' ⟨rfl, rfl⟩)
  | (go_at_call 43; (with_reducible refine (HG.out _).mono ?_); rintro e w' ⟨g, rfl, hg, rfl⟩))
            ((try simp only [Exit.inBlock, Exit.then]); go_light; refine bodyPost_ret (by simp [results, Tryz.results22, go_sem, *, ↓IntWalk.iteOmega]; try rfl) rfl ?_)
            exact ⟨tokP_ok (HR.out.trans (by rw [if_pos (of_decide_eq_true HBW.out)])) rfl, by (repeat' (first | (with_reducible exact Below.refl _ _) | (with_reducible assumption) | (with_reducible refine Below.setCell ?_ ?_ _) | (with_reducible refine Below.alloc ?_ ?_ _) | (with_reducible refine Below.drew ?_) | (with_reducible refine below_drewN ?_ _) | (with_reducible refine below_next ?_ (by with_reducible assumption)) | omega | (dsimp only; omega) | (simp only [World.size_alloc, World.size_setCell, World.size_drew, World.heap_drewN]; omega)))⟩
          | false =>
            go_wp2_with (first
  | (go_at_call 38; (with_reducible refine (HL.out _).mono ?_); rintro e w' ⟨rfl, rfl⟩)
  | (go_at_call 39; (with_reducible refine (HD.out _).mono ?_); rintro e w' ⟨rfl, rfl⟩)
  | (go_at_call 38; (with_reducible refine (HL0.out _).mono ?_); rintro e w' ⟨rfl, rfl⟩)
  | (go_at_call 39; (with_reducible refine (HD0.out _).mono ?_); rintro e w' ⟨rfl, rfl⟩)
  | (go_at_call 40; (with_reducible refine (HW.out _).mono ?_); rintro e w' ⟨rfl, rfl⟩)
  | (go_at_call 43; (with_reducible refine (HG.out _).mono ?_); rintro e w' ⟨g, rfl, hg, rfl⟩))
            ((try simp only [Exit.inBlock, Exit.then]); go_light; refine bodyPost_ret (by simp [results, Tryz.results22, go_sem, *, ↓IntWalk.iteOmega]; try rfl) rfl ?_)
            exact ⟨tokP_ok (HR.out.trans (by rw [if_neg (of_decide_eq_false HBW.out)])) rfl, by (repeat' (first | (with_reducible exact Below.refl _ _) | (with_reducible assumption) | (with_reducible refine Below.setCell ?_ ?_ _) | (with_reducible refine Below.alloc ?_ ?_ _) | (with_reducible refine Below.drew ?_) | (with_reducible refine below_drewN ?_ _) | (with_reducible refine below_next ?_ (by with_reducible assumption)) | omega | (dsimp only; omega) | (simp only [World.size_alloc, World.size_setCell, World.size_drew, World.heap_drewN]; omega)))⟩
end Go.Proofs.YteplbbjmbhgllaaGreatDoor
