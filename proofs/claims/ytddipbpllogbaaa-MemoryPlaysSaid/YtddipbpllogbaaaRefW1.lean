/-
  The reference's memory: live, Size.
-/
import Derived.Test.YtddipbpllogbaaaRefDefs
namespace Go.Proofs.Ytddipbpllogbaaa
open Go.RowKit
set_option linter.unusedVariables false
set_option linter.unusedSimpArgs false

theorem RB.cells3 (B : RB) : B.cells[3]? = some (.bool B.live) := by unfold RB.cells; cases B.live <;> rfl
theorem RB.cells4 (B : RB) : B.cells[4]? = some (.bool B.fixed) := by unfold RB.cells; cases B.live <;> rfl
theorem RB.cells0 {B : RB} (h : B.live = true) : B.cells[0]? = some (.slice (some ⟨B.g, 0, none⟩) B.kinds.length B.kinds.length) := by unfold RB.cells; rw [if_pos h]; rfl
theorem RB.cells1 {B : RB} (h : B.live = true) : B.cells[1]? = some (.slice (some ⟨B.b, 0, none⟩) B.kinds.length B.kinds.length) := by unfold RB.cells; rw [if_pos h]; rfl
theorem RB.cells2 {B : RB} (h : B.live = true) : B.cells[2]? = some (.map (some B.p)) := by unfold RB.cells; rw [if_pos h]; rfl
theorem RefS.form {w : World} {base rm cap : Nat} {s : Value} {R : List RB} (h : RefS w base rm s cap R) : ∃ A c, s = .slice A R.length c := by
  obtain ⟨_, h2⟩ := h.row
  rcases h2 with ⟨h2, h3⟩ | ⟨g, c, cur, e1, _⟩
  · exact ⟨none, 0, by rw [h2, h3]⟩
  · exact ⟨_, _, e1⟩
theorem blkA_low {R : List RB} {l : Int} (h : ¬ 1 ≤ l) : blkA R l = none := by unfold blkA; rw [if_neg h]
theorem blkA_high {R : List RB} {l : Int} (h : (R.length : Int) < l) : blkA R l = none := by
  unfold blkA
  split
  · rw [List.getElem?_eq_none (by omega)]
  · rfl
theorem blkA_at {R : List RB} {j : Nat} {B : RB} (h : R[j]? = some B) : blkA R ((j : Int) + 1) = if B.live then some B else none := by
  unfold blkA
  rw [if_pos (by omega), show ((j : Int) + 1 - 1).toNat = j by omega, h]

set_option maxRecDepth 100000 in
set_option maxHeartbeats 1000000 in
theorem live_any {w : World} {base rm cap : Nat} {s : Value} {R : List RB} (h : RefS w base rm s cap R) (l : Int) (hl : I64 l) :
    Calls Try.prog 31 #[.pointer (some ⟨rm, 0, none⟩), .int .i64 l] w fun e w' => e = .returned (.bool (blkA R l).isSome) ∧ w = w' := by
  obtain ⟨A, c, rfl⟩ := h.form
  have t0 : w.cell? ⟨rm, 0, none⟩ = some (.slice A R.length c) := by rw [Lib.cell_of_heap h.top]; rfl
  obtain ⟨l1, l2⟩ := hl
  have hR := h.len
  by_cases c1 : 1 ≤ l
  · by_cases c2 : l ≤ R.length
    · obtain ⟨j, hj⟩ : ∃ j : Nat, l = (j : Int) + 1 := ⟨(l - 1).toNat, by omega⟩
      have hw : wrap64 (l - 1) = (j : Int) := by unfold wrap64; omega
      have hj2 : (j : Int) < R.length := by omega
      obtain ⟨B, hB⟩ : ∃ B, R[j]? = some B := ⟨_, List.getElem?_eq_getElem (by omega)⟩
      obtain ⟨g, c', e1, _, hg, hc, hf⟩ := h.read hB
      injection e1 with e1 e2 e3
      subst e1
      have r3 := (hc 3 (by omega)).trans B.cells3
      rw [hj, blkA_at hB]
      obtain ⟨lv, hlv⟩ : ∃ lv, B.live = lv := ⟨_, rfl⟩
      rw [hlv] at r3 ⊢
      have d1 : decide (1 ≤ l) = true := by simpa using c1
      have d2 : decide (l ≤ (R.length : Int)) = true := by simpa using c2
      clear h hc hB hlv hf hj
      cases lv <;> (
        go_enter Try.func31, Try.ntmps31
        go_wp2
        go_returns
        exact ⟨rfl, rfl⟩)
    · have d2 : decide (l ≤ (R.length : Int)) = false := by simp; omega
      have d1 : decide (1 ≤ l) = true := by simpa using c1
      rw [blkA_high (by omega)]
      clear h
      go_enter Try.func31, Try.ntmps31
      go_wp2
      go_returns
      exact ⟨rfl, rfl⟩
  · have d1 : decide (1 ≤ l) = false := by simpa using c1
    rw [blkA_low c1]
    clear h
    go_enter Try.func31, Try.ntmps31
    go_wp2
    go_returns
    exact ⟨rfl, rfl⟩

def sizeR (R : List RB) (l : Int) : Value := match blkA R l with
  | some B => .tuple #[.int .i64 B.kinds.length, .bool true]
  | none => .tuple #[.int .i64 0, .bool false]
set_option maxRecDepth 100000 in
set_option maxHeartbeats 1000000 in
theorem rsize_any {w : World} {base rm cap : Nat} {s : Value} {R : List RB} (h : RefS w base rm s cap R) (l : Int) (hl : I64 l) :
    Calls Try.prog 22 #[.pointer (some ⟨rm, 0, none⟩), .int .i64 l] w fun e w' => e = .returned (sizeR R l) ∧ w = w' := by
  have HL := Lib.hid (live_any h l hl)
  unfold sizeR
  cases hb : blkA R l with
  | none =>
    rw [hb] at HL
    clear h hb
    go_enter Try.func22, Try.ntmps22
    go_wp2_with (go_at_call 31; (with_reducible refine (HL.out).mono ?_); rintro e w' ⟨rfl, rfl⟩)
    go_returns
    exact ⟨rfl, rfl⟩
  | some B =>
    rw [hb] at HL
    obtain ⟨j, rfl, hB, hlv, hjl⟩ := blkA_some hb
    obtain ⟨g, c, rfl, _, hg, hc, hf⟩ := h.read hB
    have t0 : w.cell? ⟨rm, 0, none⟩ = some (.slice (some ⟨g, 0, none⟩) R.length c) := by rw [Lib.cell_of_heap h.top]; rfl
    have r0 := (hc 0 (by omega)).trans (RB.cells0 hlv)
    rw [Nat.add_zero] at r0
    have hR := h.len
    clear h hb hB hc hf
    go_enter Try.func22, Try.ntmps22
    go_wp2_with (go_at_call 31; (with_reducible refine (HL.out).mono ?_); rintro e w' ⟨rfl, rfl⟩)
    go_returns
    exact ⟨rfl, rfl⟩

end Go.Proofs.Ytddipbpllogbaaa
