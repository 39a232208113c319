/-
  The reference's token: numbers, quotes and signs.
  The reference's token: quotes, signs; all of it joined.
  All tokens, a step of a loop at a time. No program in sight.
-/
import Derived.Test.YteplbbjmbhgllaaGreatDoorLexM12
import Derived.Test.YteplbbjmbhgllaaGreatDoorLexW11
import Derived.Test.YteplbbjmbhgllaaGreatDoorLexM10
namespace Go.Proofs.YteplbbjmbhgllaaGreatDoor
open Go.RowKit
set_option linter.unusedVariables false
set_option linter.unusedSimpArgs false

theorem num_tok {s : ByteArray} {k : Nat} (hk : k ≤ s.size) {L : List UInt8} (w : World) (hw : ∀ W, Calls Tryz.prog 41 #[.string (s.extract 0 k)] W fun e w' => NumP (s.extract 0 k) e ∧ Below W.heap.size W w') :
    match Lx.numL Lx.flF (s.data.toList.take k) with
    | some (kd, n) => ∀ W, Calls Tryz.prog 41 #[.string (s.extract 0 k)] W fun e w' => e = .returned (.tuple #[tokV kd (0, 0) (s.extract 0 k) n .empty, .bool true]) ∧ Below W.heap.size W w'
    | none => ∀ W, Calls Tryz.prog 41 #[.string (s.extract 0 k)] W fun e w' => (∃ (k a b : Int) (x : ByteArray) (n : Int) (d : ByteArray), e = .returned (.tuple #[.agg #[.int .i64 k, .int .i64 a, .int .i64 b, .string x, .int .u64 n, .string d], .bool false])) ∧ Below W.heap.size W w' := by
  unfold NumP at hw
  rw [take_data] at hw
  cases h : Lx.numL Lx.flF (s.data.toList.take k) with
  | none =>
    rw [h] at hw
    dsimp only at hw ⊢
    intro W
    refine (hw W).mono ?_
    rintro e w' ⟨⟨t, ⟨a1, a2, a3, a4, a5, a6, rfl⟩, he⟩, hb⟩
    exact ⟨⟨_, _, _, _, _, _, he⟩, hb⟩
  | some kn =>
    obtain ⟨kd, n⟩ := kn
    rw [h] at hw
    exact hw
set_option maxRecDepth 100000 in
set_option maxHeartbeats 8000000 in
theorem rtoken_num (s : ByteArray) (hs : s.size ≤ 1048576) (h0 : 0 < s.size) (hlet : Lx.isLet (byteN s.data.toList 0) = false) (hdig : Lx.isDig (byteN s.data.toList 0) = true) (w : World) : Calls Tryz.prog 22 #[.string s] w fun e w' => TokP s e ∧ Below w.heap.size w w' := by
  have hA1 := cell_alloc_if
  have hA2 := frozen_alloc_if
  have hA3 := cell_set_if
  have hix0 := fun W => idx_s (P := Tryz.prog) 9 Tryz.underlying9 s .i64 0 0 rfl h0 W
  have HL0 := Lib.hid (fun W => rletter_any (byteN s.data.toList 0) (byteN_lt _ _) W)
  have HD0 := Lib.hid (fun W => rdigit_any (byteN s.data.toList 0) (byteN_lt _ _) W)
  have HT := Lib.hid (fun (k : Nat) (hk : k ≤ s.data.toList.length) hs => Lx.token_dig (fl := Lx.flF) (L := s.data.toList) (k := k) (by rw [szl]; exact h0) hlet hdig hk hs)
  have HP : Hid (pN (byteN s.data.toList 0) = true ∧ byteN s.data.toList 0 ≠ 46) := Lib.hid ⟨by unfold pN; rw [hdig]; simp, by
    have := hexI_dig hdig; omega⟩
  rw [hlet] at HL0
  rw [hdig] at HD0
  clear hlet hdig
  obtain ⟨x0, ex0⟩ : ∃ x0, byteN s.data.toList 0 = x0 := ⟨_, rfl⟩
  have EX0 := Lib.hid ex0
  rw [ex0] at hix0 HL0 HD0
  clear ex0
  go_enter Tryz.func22, Tryz.ntmps22
  go_wp2_with (first
  | (go_at_call 38; (with_reducible refine (HL.out _).mono ?_); rintro e w' ⟨rfl, rfl⟩)
  | (go_at_call 39; (with_reducible refine (HD.out _).mono ?_); rintro e w' ⟨rfl, rfl⟩)
  | (go_at_call 38; (with_reducible refine (HL0.out _).mono ?_); rintro e w' ⟨rfl, rfl⟩)
  | (go_at_call 39; (with_reducible refine (HD0.out _).mono ?_); rintro e w' ⟨rfl, rfl⟩)
  | (go_at_call 41; (with_reducible refine (HW.out _).mono ?_); rintro e w' ⟨rfl, hbl⟩; obtain ⟨hc, hf, hz⟩ := cif hbl; (try simp only [World.size_alloc, World.size_setCell, World.size_drew, World.heap_drewN] at hz))
  | (go_at_call 42; (with_reducible refine (HW.out _).mono ?_); rintro e w' ⟨rfl, hbl⟩; obtain ⟨hc, hf, hz⟩ := cif hbl; (try simp only [World.size_alloc, World.size_setCell, World.size_drew, World.heap_drewN] at hz))
  | (go_at_call 43; (with_reducible refine (HG.out _).mono ?_); rintro e w' ⟨g, rfl, hg, rfl⟩))
  go_loop [4] (fun a4 => ∃ (k : Nat), a4 = .int .i64 k ∧ k ≤ s.size ∧ Hid (∀ b ∈ s.data.toList.take k, pN b.toNat = true)) (fun a4 => s.size - (intOf a4).toNat)
  case atStart => exact ⟨0, rfl, by omega, Lib.hid (by simp)⟩
  case round =>
    obtain ⟨k, rfl, hk, HS⟩ := hrel
    by_cases hgo : k < s.size ∧ pN (byteN s.data.toList k) = true
    · obtain ⟨hlt, hgo⟩ := hgo
      have hix := fun W => idx_s (P := Tryz.prog) 9 Tryz.underlying9 s .i64 (k : Int) k rfl (by omega) W
      have HN : Hid (∀ b ∈ s.data.toList.take (k + 1), pN b.toNat = true) := Lib.hid (take_all HS.out (by rw [szl]; exact hlt) hgo)
      have HL := Lib.hid (fun W => rletter_any (byteN s.data.toList k) (byteN_lt _ _) W)
      have HD := Lib.hid (fun W => rdigit_any (byteN s.data.toList k) (byteN_lt _ _) W)
      unfold pN at hgo
      generalize hb1 : Lx.isLet (byteN s.data.toList k) = b1 at hgo HL
      generalize hb2 : Lx.isDig (byteN s.data.toList k) = b2 at hgo HD
      clear hb1 hb2 HS
      generalize byteN s.data.toList k = x at hix HL HD hgo
      cases b1 with
      | true =>
        clear hgo
        go_wp2_with (first
  | (go_at_call 38; (with_reducible refine (HL.out _).mono ?_); rintro e w' ⟨rfl, rfl⟩)
  | (go_at_call 39; (with_reducible refine (HD.out _).mono ?_); rintro e w' ⟨rfl, rfl⟩)
  | (go_at_call 38; (with_reducible refine (HL0.out _).mono ?_); rintro e w' ⟨rfl, rfl⟩)
  | (go_at_call 39; (with_reducible refine (HD0.out _).mono ?_); rintro e w' ⟨rfl, rfl⟩)
  | (go_at_call 41; (with_reducible refine (HW.out _).mono ?_); rintro e w' ⟨rfl, hbl⟩; obtain ⟨hc, hf, hz⟩ := cif hbl; (try simp only [World.size_alloc, World.size_setCell, World.size_drew, World.heap_drewN] at hz))
  | (go_at_call 42; (with_reducible refine (HW.out _).mono ?_); rintro e w' ⟨rfl, hbl⟩; obtain ⟨hc, hf, hz⟩ := cif hbl; (try simp only [World.size_alloc, World.size_setCell, World.size_drew, World.heap_drewN] at hz))
  | (go_at_call 43; (with_reducible refine (HG.out _).mono ?_); rintro e w' ⟨g, rfl, hg, rfl⟩))
        go_round
        case rel => exact ⟨k + 1, by go_num, by omega, HN⟩
        case measure => simp [intOf]; omega
      | false =>
        cases b2 with
        | true =>
          clear hgo
          go_wp2_with (first
  | (go_at_call 38; (with_reducible refine (HL.out _).mono ?_); rintro e w' ⟨rfl, rfl⟩)
  | (go_at_call 39; (with_reducible refine (HD.out _).mono ?_); rintro e w' ⟨rfl, rfl⟩)
  | (go_at_call 38; (with_reducible refine (HL0.out _).mono ?_); rintro e w' ⟨rfl, rfl⟩)
  | (go_at_call 39; (with_reducible refine (HD0.out _).mono ?_); rintro e w' ⟨rfl, rfl⟩)
  | (go_at_call 41; (with_reducible refine (HW.out _).mono ?_); rintro e w' ⟨rfl, hbl⟩; obtain ⟨hc, hf, hz⟩ := cif hbl; (try simp only [World.size_alloc, World.size_setCell, World.size_drew, World.heap_drewN] at hz))
  | (go_at_call 42; (with_reducible refine (HW.out _).mono ?_); rintro e w' ⟨rfl, hbl⟩; obtain ⟨hc, hf, hz⟩ := cif hbl; (try simp only [World.size_alloc, World.size_setCell, World.size_drew, World.heap_drewN] at hz))
  | (go_at_call 43; (with_reducible refine (HG.out _).mono ?_); rintro e w' ⟨g, rfl, hg, rfl⟩))
          go_round
          case rel => exact ⟨k + 1, by go_num, by omega, HN⟩
          case measure => simp [intOf]; omega
        | false =>
          have d46 : ((x : Int) == 46) = true := by simp at hgo; simp [hgo]
          clear hgo
          go_wp2_with (first
  | (go_at_call 38; (with_reducible refine (HL.out _).mono ?_); rintro e w' ⟨rfl, rfl⟩)
  | (go_at_call 39; (with_reducible refine (HD.out _).mono ?_); rintro e w' ⟨rfl, rfl⟩)
  | (go_at_call 38; (with_reducible refine (HL0.out _).mono ?_); rintro e w' ⟨rfl, rfl⟩)
  | (go_at_call 39; (with_reducible refine (HD0.out _).mono ?_); rintro e w' ⟨rfl, rfl⟩)
  | (go_at_call 41; (with_reducible refine (HW.out _).mono ?_); rintro e w' ⟨rfl, hbl⟩; obtain ⟨hc, hf, hz⟩ := cif hbl; (try simp only [World.size_alloc, World.size_setCell, World.size_drew, World.heap_drewN] at hz))
  | (go_at_call 42; (with_reducible refine (HW.out _).mono ?_); rintro e w' ⟨rfl, hbl⟩; obtain ⟨hc, hf, hz⟩ := cif hbl; (try simp only [World.size_alloc, World.size_setCell, World.size_drew, World.heap_drewN] at hz))
  | (go_at_call 43; (with_reducible refine (HG.out _).mono ?_); rintro e w' ⟨g, rfl, hg, rfl⟩))
          go_round
          case rel => exact ⟨k + 1, by go_num, by omega, HN⟩
          case measure => simp [intOf]; omega
    · have hend : k = s.size ∨ pN (byteN s.data.toList k) = false := by
        by_cases c : k = s.size
        · exact .inl c
        · refine .inr ?_
          by_cases c2 : pN (byteN s.data.toList k) = true
          · exact absurd ⟨by omega, c2⟩ hgo
          · simpa using c2
      have hk1 : 1 ≤ k := by
        rcases hend with h | h
        · omega
        · by_cases c : k = 0
          · subst c; rw [HP.out.1] at h; cases h
          · omega
      have HR := Lib.hid (HT.out k (by rw [szl]; exact hk) (Lx.spanL_at (by rw [szl]; exact hk) HS.out (by rw [szl]; exact hend)))
      have HW0 := num_tok (L := s.data.toList) hk w (fun W => rnumber_any (s.extract 0 k) (by rw [take_size hk]; omega) (by rw [take_data, byteN_take (by omega)]; exact HP.out.2) W)
      have HE : Hid (k = s.size ∨ (k < s.size ∧ Lx.isLet (byteN s.data.toList k) = false ∧ Lx.isDig (byteN s.data.toList k) = false ∧ byteN s.data.toList k ≠ 46)) := Lib.hid (by
        by_cases c : k = s.size
        · exact .inl c
        · refine .inr ⟨by omega, ?_⟩
          have h := hend.resolve_left c
          unfold pN at h
          simp at h
          exact ⟨h.1.1, h.1.2, h.2⟩)
      clear hgo HS HT hend
      cases hnl : Lx.numL Lx.flF (s.data.toList.take k) with
      | none =>
        rw [hnl] at HR HW0
        dsimp only at HR HW0
        have HW := Lib.hid HW0
        clear HW0 hnl
        rcases HE.out with hks | ⟨hlt, e1, e2, e3⟩
        · have hnl : ¬ k < s.size := by omega
          have hnd : decide ((k : Int) < (s.size : Int)) = false := decide_eq_false (by omega)
          have HK := Lib.hid hks
          clear hks
          go_wp2_with (first
            | (go_at_call 38; (with_reducible refine (HL.out _).mono ?_); rintro e w' ⟨rfl, rfl⟩)
            | (go_at_call 39; (with_reducible refine (HD.out _).mono ?_); rintro e w' ⟨rfl, rfl⟩)
            | (go_at_call 41; (with_reducible refine (HW.out _).mono ?_); rintro e w' ⟨⟨t1, t2, t3, t4, t5, t6, rfl⟩, hbl⟩; obtain ⟨hc, hf, hz⟩ := cif hbl; (try simp only [World.size_alloc, World.size_setCell, World.size_drew, World.heap_drewN] at hz)))
          all_goals ((try simp only [Exit.inBlock, Exit.then]); go_light; refine bodyPost_ret (by simp [results, Tryz.results22, go_sem, *, ↓IntWalk.iteOmega]; try rfl) rfl ?_)
          all_goals exact ⟨tokP_err HR.out rfl (isTok _ _ _ _ _ _), by (repeat' (first | (with_reducible exact Below.refl _ _) | (with_reducible assumption) | (with_reducible refine Below.setCell ?_ ?_ _) | (with_reducible refine Below.alloc ?_ ?_ _) | (with_reducible refine Below.drew ?_) | (with_reducible refine below_drewN ?_ _) | (with_reducible refine below_next ?_ (by with_reducible assumption)) | omega | (dsimp only; omega) | (simp only [World.size_alloc, World.size_setCell, World.size_drew, World.heap_drewN]; omega)))⟩
        · have hix := fun W => idx_s (P := Tryz.prog) 9 Tryz.underlying9 s .i64 (k : Int) k rfl (by omega) W
          have HL := Lib.hid (fun W => rletter_any (byteN s.data.toList k) (byteN_lt _ _) W)
          have HD := Lib.hid (fun W => rdigit_any (byteN s.data.toList k) (byteN_lt _ _) W)
          rw [e1] at HL
          rw [e2] at HD
          have d3 : ((byteN s.data.toList k : Nat) : Int) ≠ 46 := by omega
          clear e1 e2
          obtain ⟨x, ex⟩ : ∃ x, byteN s.data.toList k = x := ⟨_, rfl⟩
          rw [ex] at hix HL HD e3 d3
          clear ex
          have d4 : ((x : Int) == 46) = false := by simp; omega
          clear e3 d3
          go_wp2_with (first
            | (go_at_call 38; (with_reducible refine (HL.out _).mono ?_); rintro e w' ⟨rfl, rfl⟩)
            | (go_at_call 39; (with_reducible refine (HD.out _).mono ?_); rintro e w' ⟨rfl, rfl⟩)
            | (go_at_call 41; (with_reducible refine (HW.out _).mono ?_); rintro e w' ⟨⟨t1, t2, t3, t4, t5, t6, rfl⟩, hbl⟩; obtain ⟨hc, hf, hz⟩ := cif hbl; (try simp only [World.size_alloc, World.size_setCell, World.size_drew, World.heap_drewN] at hz)))
          all_goals ((try simp only [Exit.inBlock, Exit.then]); go_light; refine bodyPost_ret (by simp [results, Tryz.results22, go_sem, *, ↓IntWalk.iteOmega]; try rfl) rfl ?_)
          all_goals exact ⟨tokP_err HR.out rfl (isTok _ _ _ _ _ _), by (repeat' (first | (with_reducible exact Below.refl _ _) | (with_reducible assumption) | (with_reducible refine Below.setCell ?_ ?_ _) | (with_reducible refine Below.alloc ?_ ?_ _) | (with_reducible refine Below.drew ?_) | (with_reducible refine below_drewN ?_ _) | (with_reducible refine below_next ?_ (by with_reducible assumption)) | omega | (dsimp only; omega) | (simp only [World.size_alloc, World.size_setCell, World.size_drew, World.heap_drewN]; omega)))⟩
      | some kn =>
        obtain ⟨kd, nn⟩ := kn
        rw [hnl] at HR HW0
        dsimp only at HR HW0
        unfold tokV at HW0
        have HW := Lib.hid HW0
        clear HW0 hnl
        rcases HE.out with hks | ⟨hlt, e1, e2, e3⟩
        · have hnl : ¬ k < s.size := by omega
          have hnd : decide ((k : Int) < (s.size : Int)) = false := decide_eq_false (by omega)
          have HK := Lib.hid hks
          clear hks
          go_wp2_with (first
            | (go_at_call 38; (with_reducible refine (HL.out _).mono ?_); rintro e w' ⟨rfl, rfl⟩)
            | (go_at_call 39; (with_reducible refine (HD.out _).mono ?_); rintro e w' ⟨rfl, rfl⟩)
            | (go_at_call 41; (with_reducible refine (HW.out _).mono ?_); rintro e w' ⟨rfl, hbl⟩; obtain ⟨hc, hf, hz⟩ := cif hbl; (try simp only [World.size_alloc, World.size_setCell, World.size_drew, World.heap_drewN] at hz)))
          all_goals ((try simp only [Exit.inBlock, Exit.then]); go_light; refine bodyPost_ret (by simp [results, Tryz.results22, go_sem, *, ↓IntWalk.iteOmega]; try rfl) rfl ?_)
          all_goals exact ⟨tokP_ok HR.out (by first | rfl | (unfold tokV; rfl)), by (repeat' (first | (with_reducible exact Below.refl _ _) | (with_reducible assumption) | (with_reducible refine Below.setCell ?_ ?_ _) | (with_reducible refine Below.alloc ?_ ?_ _) | (with_reducible refine Below.drew ?_) | (with_reducible refine below_drewN ?_ _) | (with_reducible refine below_next ?_ (by with_reducible assumption)) | omega | (dsimp only; omega) | (simp only [World.size_alloc, World.size_setCell, World.size_drew, World.heap_drewN]; omega)))⟩
        · have hix := fun W => idx_s (P := Tryz.prog) 9 Tryz.underlying9 s .i64 (k : Int) k rfl (by omega) W
          have HL := Lib.hid (fun W => rletter_any (byteN s.data.toList k) (byteN_lt _ _) W)
          have HD := Lib.hid (fun W => rdigit_any (byteN s.data.toList k) (byteN_lt _ _) W)
          rw [e1] at HL
          rw [e2] at HD
          have d3 : ((byteN s.data.toList k : Nat) : Int) ≠ 46 := by omega
          clear e1 e2
          obtain ⟨x, ex⟩ : ∃ x, byteN s.data.toList k = x := ⟨_, rfl⟩
          rw [ex] at hix HL HD e3 d3
          clear ex
          have d4 : ((x : Int) == 46) = false := by simp; omega
          clear e3 d3
          go_wp2_with (first
            | (go_at_call 38; (with_reducible refine (HL.out _).mono ?_); rintro e w' ⟨rfl, rfl⟩)
            | (go_at_call 39; (with_reducible refine (HD.out _).mono ?_); rintro e w' ⟨rfl, rfl⟩)
            | (go_at_call 41; (with_reducible refine (HW.out _).mono ?_); rintro e w' ⟨rfl, hbl⟩; obtain ⟨hc, hf, hz⟩ := cif hbl; (try simp only [World.size_alloc, World.size_setCell, World.size_drew, World.heap_drewN] at hz)))
          all_goals ((try simp only [Exit.inBlock, Exit.then]); go_light; refine bodyPost_ret (by simp [results, Tryz.results22, go_sem, *, ↓IntWalk.iteOmega]; try rfl) rfl ?_)
          all_goals exact ⟨tokP_ok HR.out (by first | rfl | (unfold tokV; rfl)), by (repeat' (first | (with_reducible exact Below.refl _ _) | (with_reducible assumption) | (with_reducible refine Below.setCell ?_ ?_ _) | (with_reducible refine Below.alloc ?_ ?_ _) | (with_reducible refine Below.drew ?_) | (with_reducible refine below_drewN ?_ _) | (with_reducible refine below_next ?_ (by with_reducible assumption)) | omega | (dsimp only; omega) | (simp only [World.size_alloc, World.size_setCell, World.size_drew, World.heap_drewN]; omega)))⟩
end Go.Proofs.YteplbbjmbhgllaaGreatDoor

namespace Go.Proofs.YteplbbjmbhgllaaGreatDoor
open Go.RowKit
set_option linter.unusedVariables false
set_option linter.unusedSimpArgs false

theorem ba_eq {a b : ByteArray} (h : a.data.toList = b.data.toList) : a = b := by
  have : a.data = b.data := Array.toList_inj.1 h
  cases a; cases b; simp at this; rw [this]
theorem sign_tok {s : ByteArray} (hw : ∀ W, Calls Tryz.prog 43 #[.string s] W fun e w' => ∃ r : ByteArray, e = .returned (.string r) ∧ r.data.toList = signT s.data.toList ∧ W = w') :
    match Lx.signL s.data.toList with
    | some k => ∀ W, Calls Tryz.prog 43 #[.string s] W fun e w' => e = .returned (.string (s.extract 0 k)) ∧ W = w'
    | none => ∀ W, Calls Tryz.prog 43 #[.string s] W fun e w' => e = .returned (.string ⟨#[]⟩) ∧ W = w' := by
  unfold signT at hw
  cases h : Lx.signL s.data.toList with
  | none =>
    rw [h] at hw
    dsimp only at hw ⊢
    intro W
    refine (hw W).mono ?_
    rintro e w' ⟨r, rfl, hr, rfl⟩
    exact ⟨by rw [ba_eq (a := r) (b := ⟨#[]⟩) hr], rfl⟩
  | some k =>
    rw [h] at hw
    dsimp only at hw ⊢
    intro W
    refine (hw W).mono ?_
    rintro e w' ⟨r, rfl, hr, rfl⟩
    exact ⟨by rw [ba_eq (a := r) (b := s.extract 0 k) (by rw [hr, take_data])], rfl⟩
set_option maxRecDepth 100000 in
set_option maxHeartbeats 8000000 in
theorem rtoken_sign (s : ByteArray) (hs : s.size ≤ 1048576) (h0 : 0 < s.size) (hlet : Lx.isLet (byteN s.data.toList 0) = false) (hdig : Lx.isDig (byteN s.data.toList 0) = false) (h39 : byteN s.data.toList 0 ≠ 39) (h34 : byteN s.data.toList 0 ≠ 34) (w : World) : Calls Tryz.prog 22 #[.string s] w fun e w' => TokP s e ∧ Below w.heap.size w w' := by
  have hA1 := cell_alloc_if
  have hA2 := frozen_alloc_if
  have hA3 := cell_set_if
  have hix0 := fun W => idx_s (P := Tryz.prog) 9 Tryz.underlying9 s .i64 0 0 rfl h0 W
  have HL0 := Lib.hid (fun W => rletter_any (byteN s.data.toList 0) (byteN_lt _ _) W)
  have HD0 := Lib.hid (fun W => rdigit_any (byteN s.data.toList 0) (byteN_lt _ _) W)
  have hT := Lx.token_sign (fl := Lx.flF) (L := s.data.toList) (by rw [szl]; exact h0) hlet hdig h39 h34
  have hG := sign_tok (s := s) (fun W => rsign_any s hs W)
  rw [hlet] at HL0
  rw [hdig] at HD0
  clear hlet hdig
  obtain ⟨x0, ex0⟩ : ∃ x0, byteN s.data.toList 0 = x0 := ⟨_, rfl⟩
  rw [ex0] at hix0 HL0 HD0 h39 h34
  have d1 : ((x0 : Int) == 39) = false := by simp; omega
  have d2 : ((x0 : Int) == 34) = false := by simp; omega
  clear ex0 h39 h34
  cases hk : Lx.signL s.data.toList with
  | none =>
    rw [hk] at hG hT
    dsimp only at hG hT
    have HG := Lib.hid hG
    have HT := Lib.hid hT
    clear hk hG hT
    go_enter Tryz.func22, Tryz.ntmps22
    go_wp2_with (first
      | (go_at_call 38; (with_reducible refine (HL0.out _).mono ?_); rintro e w' ⟨rfl, rfl⟩)
      | (go_at_call 39; (with_reducible refine (HD0.out _).mono ?_); rintro e w' ⟨rfl, rfl⟩)
      | (go_at_call 43; (with_reducible refine (HG.out _).mono ?_); rintro e w' ⟨rfl, rfl⟩))
    all_goals ((try simp only [Exit.inBlock, Exit.then]); go_light; refine bodyPost_ret (by simp [results, Tryz.results22, go_sem, *, ↓IntWalk.iteOmega]; try rfl) rfl ?_)
    all_goals exact ⟨tokP_err HT.out rfl (isTok _ _ _ _ _ _), by (repeat' (first | (with_reducible exact Below.refl _ _) | (with_reducible assumption) | (with_reducible refine Below.setCell ?_ ?_ _) | (with_reducible refine Below.alloc ?_ ?_ _) | (with_reducible refine Below.drew ?_) | (with_reducible refine below_drewN ?_ _) | (with_reducible refine below_next ?_ (by with_reducible assumption)) | omega | (dsimp only; omega) | (simp only [World.size_alloc, World.size_setCell, World.size_drew, World.heap_drewN]; omega)))⟩
  | some k =>
    have hlen := Lx.signL_len hk
    rw [szl] at hlen
    rw [hk] at hG hT
    dsimp only at hG hT
    have hne : ((s.extract 0 k).toList == []) = false := by
      rw [Lib.toList_data, take_data]
      match hL : s.data.toList, hlen with
      | [], hlen => have := szl s; rw [hL] at this; simp at this; omega
      | b :: r, hlen =>
        obtain ⟨j, rfl⟩ : ∃ j, k = j + 1 := ⟨k - 1, by omega⟩
        rfl
    have hne2 : ((s.extract 0 k).toList != []) = true := by unfold bne; rw [hne]; rfl
    have HG := Lib.hid hG
    have HT := Lib.hid hT
    clear hk hG hT hlen
    go_enter Tryz.func22, Tryz.ntmps22
    go_wp2_with (first
      | (go_at_call 38; (with_reducible refine (HL0.out _).mono ?_); rintro e w' ⟨rfl, rfl⟩)
      | (go_at_call 39; (with_reducible refine (HD0.out _).mono ?_); rintro e w' ⟨rfl, rfl⟩)
      | (go_at_call 43; (with_reducible refine (HG.out _).mono ?_); rintro e w' ⟨rfl, rfl⟩))
    all_goals ((try simp only [Exit.inBlock, Exit.then]); go_light; refine bodyPost_ret (by simp [results, Tryz.results22, go_sem, *, ↓IntWalk.iteOmega]; try rfl) rfl ?_)
    all_goals exact ⟨tokP_ok HT.out (by first | rfl | (unfold tokV; rfl)), by (repeat' (first | (with_reducible exact Below.refl _ _) | (with_reducible assumption) | (with_reducible refine Below.setCell ?_ ?_ _) | (with_reducible refine Below.alloc ?_ ?_ _) | (with_reducible refine Below.drew ?_) | (with_reducible refine below_drewN ?_ _) | (with_reducible refine below_next ?_ (by with_reducible assumption)) | omega | (dsimp only; omega) | (simp only [World.size_alloc, World.size_setCell, World.size_drew, World.heap_drewN]; omega)))⟩
def TokC (s : ByteArray) : Except Nat Lx.TokB → Ending → Prop
  | .ok t, e => e = .returned (.tuple #[tokV t.kind (0, 0) (s.extract 0 t.len) t.bits ⟨t.data.toArray⟩, .bool true])
  | .error _, e => ∃ (k a b : Int) (x : ByteArray) (n : Int) (d : ByteArray), e = .returned (.tuple #[.agg #[.int .i64 k, .int .i64 a, .int .i64 b, .string x, .int .u64 n, .string d], .bool false])
theorem quo_tok {s : ByteArray} {q : Nat} (hq : q = 39 ∨ q = 34) (h0 : 0 < s.size) (hb : byteN s.data.toList 0 = q) {e : Ending} (h : QuoP q s e) : TokC s (Lx.tokenL Lx.flF s.data.toList) e ∧ ∀ k, Lx.tokenL Lx.flF s.data.toList = .error k → k = 2 := by
  unfold QuoP at h
  rcases hq with rfl | rfl
  · rw [Lx.token_char (by rw [szl]; exact h0) hb]
    cases hL : Lx.quoL 39 (s.data.toList.drop 1) [] 0 0 with
    | none =>
      rw [hL] at h
      dsimp only at h ⊢
      obtain ⟨t, ⟨a1, a2, a3, a4, a5, a6, rfl⟩, he⟩ := h
      exact ⟨⟨_, _, _, _, _, _, he⟩, fun k hk => by injection hk with hk; exact hk.symm⟩
    | some o =>
      rw [hL] at h
      dsimp only at h ⊢
      rw [if_pos rfl] at h
      by_cases c : o.n = 1
      · rw [if_pos c] at h
        rw [if_pos c]
        refine ⟨?_, fun k hk => by cases hk⟩
        rw [szl]
        exact h
      · rw [if_neg c] at h
        rw [if_neg c]
        obtain ⟨t, ⟨a1, a2, a3, a4, a5, a6, rfl⟩, he⟩ := h
        exact ⟨⟨_, _, _, _, _, _, he⟩, fun k hk => by injection hk with hk; exact hk.symm⟩
  · rw [Lx.token_text (by rw [szl]; exact h0) hb]
    cases hL : Lx.quoL 34 (s.data.toList.drop 1) [] 0 0 with
    | none =>
      rw [hL] at h
      dsimp only at h ⊢
      obtain ⟨t, ⟨a1, a2, a3, a4, a5, a6, rfl⟩, he⟩ := h
      exact ⟨⟨_, _, _, _, _, _, he⟩, fun k hk => by injection hk with hk; exact hk.symm⟩
    | some o =>
      rw [hL] at h
      dsimp only at h ⊢
      rw [if_neg (by decide)] at h
      refine ⟨?_, fun k hk => by cases hk⟩
      rw [szl]
      exact h
set_option maxRecDepth 100000 in
set_option maxHeartbeats 8000000 in
theorem rtoken_quo (q : Nat) (hq : q = 39 ∨ q = 34) (s : ByteArray) (hs : s.size ≤ 1048576) (h0 : 0 < s.size) (hb : byteN s.data.toList 0 = q) (hv : Lx.Val (s.data.toList.drop 1)) (w : World) : Calls Tryz.prog 22 #[.string s] w fun e w' => TokP s e ∧ Below w.heap.size w w' := by
  have hA1 := cell_alloc_if
  have hA2 := frozen_alloc_if
  have hA3 := cell_set_if
  have hix0 := fun W => idx_s (P := Tryz.prog) 9 Tryz.underlying9 s .i64 0 0 rfl h0 W
  have HL0 := Lib.hid (fun W => rletter_any (byteN s.data.toList 0) (byteN_lt _ _) W)
  have HD0 := Lib.hid (fun W => rdigit_any (byteN s.data.toList 0) (byteN_lt _ _) W)
  have hW : ∀ W, Calls Tryz.prog 42 #[.string s] W fun e w' => TokC s (Lx.tokenL Lx.flF s.data.toList) e ∧ Below W.heap.size W w' := fun W => (rquoted_any q hq s hs h0 hb hv W).mono fun e w' h => ⟨(quo_tok hq h0 hb h.1).1, h.2⟩
  have hE2 : ∀ k, Lx.tokenL Lx.flF s.data.toList = .error k → k = 2 := fun k hk => by
    rcases hq with rfl | rfl
    · rw [Lx.token_char (by rw [szl]; exact h0) hb] at hk
      split at hk
      · split at hk
        · cases hk
        · injection hk with hk; exact hk.symm
      · injection hk with hk; exact hk.symm
    · rw [Lx.token_text (by rw [szl]; exact h0) hb] at hk
      split at hk
      · cases hk
      · injection hk with hk; exact hk.symm
  rw [hb] at hix0 HL0 HD0
  have e1 : Lx.isLet q = false := by rcases hq with rfl | rfl <;> decide
  have e2 : Lx.isDig q = false := by rcases hq with rfl | rfl <;> decide
  rw [e1] at HL0
  rw [e2] at HD0
  clear e1 e2 hv hb
  cases ht : Lx.tokenL Lx.flF s.data.toList with
  | error k =>
    obtain rfl := hE2 k ht
    rw [ht] at hW
    unfold TokC at hW
    have HW := Lib.hid hW
    have HT := Lib.hid ht
    clear hW ht hE2
    have HQ : (((q : Int) == 39) = true) ∨ (((q : Int) == 39) = false ∧ ((q : Int) == 34) = true) := by
      rcases hq with h | h
      · exact .inl (by simp [h])
      · exact .inr ⟨by simp [h], by simp [h]⟩
    clear hq
    rcases HQ with d1 | ⟨d1, d2⟩
    all_goals (
      go_enter Tryz.func22, Tryz.ntmps22
      go_wp2_with (first
        | (go_at_call 38; (with_reducible refine (HL0.out _).mono ?_); rintro e w' ⟨rfl, rfl⟩)
        | (go_at_call 39; (with_reducible refine (HD0.out _).mono ?_); rintro e w' ⟨rfl, rfl⟩)
        | (go_at_call 42; (with_reducible refine (HW.out _).mono ?_); rintro e w' ⟨⟨t1, t2, t3, t4, t5, t6, rfl⟩, hbl⟩; obtain ⟨hc, hf, hz⟩ := cif hbl; (try simp only [World.size_alloc, World.size_setCell, World.size_drew, World.heap_drewN] at hz)))
      all_goals ((try simp only [Exit.inBlock, Exit.then]); go_light; refine bodyPost_ret (by simp [results, Tryz.results22, go_sem, *, ↓IntWalk.iteOmega]; try rfl) rfl ?_)
      all_goals exact ⟨tokP_err HT.out rfl (isTok _ _ _ _ _ _), by (repeat' (first | (with_reducible exact Below.refl _ _) | (with_reducible assumption) | (with_reducible refine Below.setCell ?_ ?_ _) | (with_reducible refine Below.alloc ?_ ?_ _) | (with_reducible refine Below.drew ?_) | (with_reducible refine below_drewN ?_ _) | (with_reducible refine below_next ?_ (by with_reducible assumption)) | omega | (dsimp only; omega) | (simp only [World.size_alloc, World.size_setCell, World.size_drew, World.heap_drewN]; omega)))⟩)
  | ok t =>
    rw [ht] at hW
    unfold TokC tokV at hW
    have HW := Lib.hid hW
    have HT := Lib.hid ht
    clear hW ht hE2
    have HQ : (((q : Int) == 39) = true) ∨ (((q : Int) == 39) = false ∧ ((q : Int) == 34) = true) := by
      rcases hq with h | h
      · exact .inl (by simp [h])
      · exact .inr ⟨by simp [h], by simp [h]⟩
    clear hq
    rcases HQ with d1 | ⟨d1, d2⟩
    all_goals (
      go_enter Tryz.func22, Tryz.ntmps22
      go_wp2_with (first
        | (go_at_call 38; (with_reducible refine (HL0.out _).mono ?_); rintro e w' ⟨rfl, rfl⟩)
        | (go_at_call 39; (with_reducible refine (HD0.out _).mono ?_); rintro e w' ⟨rfl, rfl⟩)
        | (go_at_call 42; (with_reducible refine (HW.out _).mono ?_); rintro e w' ⟨rfl, hbl⟩; obtain ⟨hc, hf, hz⟩ := cif hbl; (try simp only [World.size_alloc, World.size_setCell, World.size_drew, World.heap_drewN] at hz)))
      all_goals ((try simp only [Exit.inBlock, Exit.then]); go_light; refine bodyPost_ret (by simp [results, Tryz.results22, go_sem, *, ↓IntWalk.iteOmega]; try rfl) rfl ?_)
      all_goals exact ⟨tokP_ok HT.out (by first | rfl | (unfold tokV; rfl)), by (repeat' (first | (with_reducible exact Below.refl _ _) | (with_reducible assumption) | (with_reducible refine Below.setCell ?_ ?_ _) | (with_reducible refine Below.alloc ?_ ?_ _) | (with_reducible refine Below.drew ?_) | (with_reducible refine below_drewN ?_ _) | (with_reducible refine below_next ?_ (by with_reducible assumption)) | omega | (dsimp only; omega) | (simp only [World.size_alloc, World.size_setCell, World.size_drew, World.heap_drewN]; omega)))⟩)
/-- The reference's token. -/
theorem rtoken_any (s : ByteArray) (hs : s.size ≤ 1048576) (h0 : 0 < s.size) (hv : Lx.Val s.data.toList) (w : World) : Calls Tryz.prog 22 #[.string s] w fun e w' => TokP s e ∧ Below w.heap.size w w' := by
  cases h1 : Lx.isLet (byteN s.data.toList 0) with
  | true => exact rtoken_word s hs h0 h1 w
  | false =>
    cases h2 : Lx.isDig (byteN s.data.toList 0) with
    | true => exact rtoken_num s hs h0 h1 h2 w
    | false =>
      have hvt : byteN s.data.toList 0 < 128 → Lx.Val (s.data.toList.drop 1) := fun h => by
        have e := drop_byte (l := s.data.toList) (k := 0) (by rw [szl]; exact h0)
        rw [List.drop_zero] at e
        rw [e] at hv
        exact Lx.Val.tail h hv
      by_cases h3 : byteN s.data.toList 0 = 39
      · exact rtoken_quo 39 (.inl rfl) s hs h0 h3 (hvt (by omega)) w
      · by_cases h4 : byteN s.data.toList 0 = 34
        · exact rtoken_quo 34 (.inr rfl) s hs h0 h4 (hvt (by omega)) w
        · exact rtoken_sign s hs h0 h1 h2 h3 h4 w
end Go.Proofs.YteplbbjmbhgllaaGreatDoor

namespace Go.Proofs.YteplbbjmbhgllaaGreatDoor.Lx
open Go.Lib
set_option linter.unusedVariables false
set_option linter.unusedSimpArgs false

theorem tokensF_fuel {fl : Bs → Nat → Option Nat} : ∀ (m n : Nat) (l : Bs) (p : Pl) (acc : List Tok), l.length ≤ m → l.length ≤ n → tokensF fl m l p acc = tokensF fl n l p acc
  | m, n, [], p, acc, _, _ => by cases m <;> cases n <;> rfl
  | 0, _, b :: r, _, _, h, _ => by simp at h
  | _, 0, b :: r, _, _, _, h => by simp at h
  | m + 1, n + 1, b :: r, p, acc, hm, hn => by
    simp only [List.length_cons] at hm hn
    unfold tokensF
    dsimp only
    by_cases hb : isBlank b.toNat = true
    · rw [if_pos hb, if_pos hb]
      exact tokensF_fuel m n r _ _ (by omega) (by omega)
    · rw [if_neg hb, if_neg hb]
      cases ht : tokenL fl (b :: r) with
      | error e => rfl
      | ok t =>
        have hl := tokenL_len ht
        exact tokensF_fuel m n _ _ _ (by rw [List.length_drop, List.length_cons]; omega) (by rw [List.length_drop, List.length_cons]; omega)
/-- The tokens from a place on, behind those that are there. -/
def tokA (fl : Bs → Nat → Option Nat) (l : Bs) (p : Pl) (acc : List Tok) : Except (Nat × Pl) (List Tok) := tokensF fl l.length l p acc
section
variable {fl : Bs → Nat → Option Nat} {l : Bs} {p : Pl} {acc : List Tok}
theorem tokA_nil : tokA fl [] p acc = .ok (acc ++ [⟨8, p, [], 0, []⟩]) := rfl
theorem tokA_blank (h : 0 < l.length) (hb : isBlank (byteN l 0) = true) : tokA fl l p acc = tokA fl (l.drop 1) (moved p (l.take 1)) acc := by
  match l, h with
  | b :: r, _ =>
    have hb' : isBlank b.toNat = true := hb
    have h128 : b.toNat < 128 := by unfold isBlank at hb'; simp at hb'; omega
    unfold tokA
    rw [List.length_cons, tokensF]
    rw [if_pos hb', List.take_succ_cons, List.take_zero, moved_one h128]
    rfl
theorem tokA_err {k : Nat} (h : 0 < l.length) (hb : isBlank (byteN l 0) = false) (ht : tokenL fl l = .error k) : tokA fl l p acc = .error (k, p) := by
  match l, h with
  | b :: r, _ =>
    have hb' : isBlank b.toNat = false := hb
    unfold tokA
    rw [List.length_cons, tokensF]
    rw [if_neg (by rw [hb']; decide), ht]
theorem tokA_tok {t : TokB} (h : 0 < l.length) (hb : isBlank (byteN l 0) = false) (ht : tokenL fl l = .ok t) : tokA fl l p acc = tokA fl (l.drop t.len) (moved p (l.take t.len)) (acc ++ [⟨t.kind, p, l.take t.len, t.bits, t.data⟩]) := by
  have hl := tokenL_len ht
  match l, h with
  | b :: r, _ =>
    have hb' : isBlank b.toNat = false := hb
    conv => lhs; unfold tokA
    rw [List.length_cons, tokensF]
    rw [if_neg (by rw [hb']; decide), ht]
    dsimp only
    exact tokensF_fuel _ _ _ _ _ (by rw [List.length_drop, List.length_cons]; omega) (Nat.le_refl _)
end
theorem tokensL_A {fl : Bs → Nat → Option Nat} {l : Bs} (h : l.length ≤ 1048576) (hv : spoilt l = none) : tokensL fl l = tokA fl l (1, 1) [] := by
  unfold tokensL
  rw [if_neg (by omega), hv]
  rfl
theorem tokenL_val' {fl : Bs → Nat → Option Nat} {l : Bs} {t : TokB} (h : tokenL fl l = .ok t) (hv : Val l) : Val (l.take t.len) ∧ Val (l.drop t.len) := tokenL_val h hv
end Go.Proofs.YteplbbjmbhgllaaGreatDoor.Lx
