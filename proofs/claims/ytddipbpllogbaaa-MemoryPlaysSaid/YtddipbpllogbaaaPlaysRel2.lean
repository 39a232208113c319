/-
  MemoryPlays in plain words: both memories, call for call.
-/
import Derived.Test.YtddipbpllogbaaaPlaysRel
import Derived.Test.YtddipbpllogbaaaRefW6
import Derived.Test.YtddipbpllogbaaaRefW14
import Derived.Test.YtddipbpllogbaaaMemW4
namespace Go.Proofs.Ytddipbpllogbaaa
open Go.RowKit
set_option linter.unusedVariables false
set_option linter.unusedSimpArgs false

structure Rel (M : Int → Option Bk) (last : Nat) (R : List RB) : Prop where
  len : R.length = last
  blk : ∀ k, (M k = none ∧ blkA R k = none) ∨ ∃ B C, M k = some B ∧ blkA R k = some C ∧ BlkRel B C

theorem blkA_set {R : List RB} {j : Nat} {C' : RB} (hj : j < R.length) (k : Int) : blkA (R.set j C') k = if k = (j : Int) + 1 then (if C'.live then some C' else none) else blkA R k := by
  unfold blkA
  by_cases c : k = (j : Int) + 1
  · subst c
    rw [if_pos (by omega), if_pos rfl, show ((j : Int) + 1 - 1).toNat = j by omega, List.getElem?_set_self hj]
  · rw [if_neg c]
    split
    · rw [List.getElem?_set_ne (by omega)]
    · rfl
theorem blkA_app {R : List RB} {C : RB} (hC : C.live = true) (k : Int) : blkA (R ++ [C]) k = if k = (R.length : Int) + 1 then some C else blkA R k := by
  unfold blkA
  by_cases c : k = (R.length : Int) + 1
  · subst c
    rw [if_pos (by omega), if_pos rfl, show ((R.length : Int) + 1 - 1).toNat = R.length by omega, List.getElem?_append_right (Nat.le_refl _), Nat.sub_self]
    simp [hC]
  · rw [if_neg c]
    split
    · rename_i h1
      rcases Nat.lt_or_ge (k - 1).toNat R.length with h2 | h2
      · rw [List.getElem?_append_left h2]
      · rw [List.getElem?_eq_none (by rw [List.length_append, List.length_cons, List.length_nil]; omega), List.getElem?_eq_none h2]
    · rfl
theorem mod_nat {x : Int} {off : Nat} (hn : x = 1 ∨ x = 2 ∨ x = 4 ∨ x = 8) (ho : (off : Int) % x = 0) : off % x.toNat = 0 := by
  rcases hn with rfl | rfl | rfl | rfl
  · show off % 1 = 0; omega
  · show off % 2 = 0; omega
  · show off % 4 = 0; omega
  · show off % 8 = 0; omega
section
variable {M : Int → Option Bk} {last : Nat} {R : List RB}
theorem Rel.some_ (h : Rel M last R) {k : Int} {C : RB} (e : blkA R k = some C) : ∃ B, M k = some B ∧ BlkRel B C := by
  rcases h.blk k with ⟨_, h2⟩ | ⟨B, D, h1, h2, h3⟩
  · rw [h2] at e; cases e
  · rw [h2] at e; injection e with e; subst e; exact ⟨B, h1, h3⟩
theorem Rel.none_ (h : Rel M last R) {k : Int} (e : blkA R k = none) : M k = none := by
  rcases h.blk k with ⟨h1, _⟩ | ⟨B, D, _, h2, _⟩
  · exact h1
  · rw [h2] at e; cases e
theorem Rel.isSome (h : Rel M last R) (k : Int) : (M k).isSome = (blkA R k).isSome := by
  rcases h.blk k with ⟨h1, h2⟩ | ⟨B, D, h1, h2, _⟩ <;> rw [h1, h2] <;> rfl
/-- Both find the same place. -/
theorem Rel.find (h : Rel M last R) (chunk : Int) (a : V) :
    (findA M chunk a = none ∧ reachA R chunk a = none) ∨ ∃ B C off, findA M chunk a = some (B, off) ∧ reachA R chunk a = some (C, off) ∧ BlkRel B C ∧ M a.l = some B := by
  unfold findA reachA
  by_cases c : a.k ≠ 4 ∨ sizeV chunk = 0
  · left; rw [if_pos c, if_pos c]; exact ⟨rfl, rfl⟩
  · rw [if_neg c, if_neg c]
    rcases h.blk a.l with ⟨h1, h2⟩ | ⟨B, C, h1, h2, h3⟩
    · left; rw [h1, h2]; exact ⟨rfl, rfl⟩
    · rw [h1, h2]
      dsimp only
      rw [h3.len]
      by_cases d : wrap64 a.b < 0 ∨ wrap64 a.b % sizeV chunk ≠ 0 ∨ wrap64 a.b > (C.kinds.length : Int) - sizeV chunk
      · left; rw [if_pos d, if_pos d]; exact ⟨rfl, rfl⟩
      · right; rw [if_neg d, if_neg d]; exact ⟨B, C, _, rfl, rfl, h3, rfl⟩
theorem Rel.load (h : Rel M last R) (chunk : Int) (a : V) : loadA M chunk a = rloadA R chunk a := by
  unfold loadA rloadA
  rcases h.find chunk a with ⟨h1, h2⟩ | ⟨B, C, off, h1, h2, h3, _⟩
  · rw [h1, h2]
  · rw [h1, h2]
    dsimp only
    obtain ⟨_, _, hn, _, ho, hl⟩ := reachA_some h2
    congr 1
    exact load_agree h3 chunk off (sizeV chunk).toNat (by omega) (mod_nat hn ho) (by omega)
theorem Rel.store (h : Rel M last R) (chunk : Int) (a v : V) : (storeA M chunk a v).isSome = (storeRA R chunk a v).isSome ∧ Rel ((storeA M chunk a v).getD M) last ((storeRA R chunk a v).getD R) := by
  unfold storeA storeRA
  rcases h.find chunk a with ⟨h1, h2⟩ | ⟨B, C, off, h1, h2, h3, hM⟩
  · rw [h1, h2]; exact ⟨rfl, h⟩
  · rw [h1, h2]
    dsimp only
    obtain ⟨_, hb, hn, _, ho, hl⟩ := reachA_some h2
    rw [h3.fixed]
    by_cases c : C.fixed = false ∧ takesA chunk v.k = true
    · rw [if_pos c, if_pos c]
      refine ⟨rfl, ?_⟩
      simp only [Option.getD_some]
      obtain ⟨j, hj, hB, hlv, hjl⟩ := blkA_some hb
      have h4 : v.k = 4 → (sizeV chunk).toNat = 8 := fun e => by
        have ht := c.2
        unfold takesA at ht
        rw [decide_eq_true_eq] at ht
        have hk : kindV chunk ≠ 4 := by unfold kindV; grind
        have h6 : chunk = 6 := by omega
        rw [h6]; decide
      have hs := store_agree h3 chunk off (sizeV chunk).toNat v (by omega) (by omega) (mod_nat hn ho) (by omega) h4
      have hlj : (a.l - 1).toNat = j := by omega
      rw [hlj]
      refine ⟨by rw [List.length_set]; exact h.len, fun k => ?_⟩
      rw [blkA_set hjl]
      unfold setK
      by_cases ck : k = a.l
      · subst ck
        right
        rw [if_pos rfl, if_pos hj, (putRN_same C off v _).2.2.2.1, hlv]
        exact ⟨_, _, rfl, rfl, hs⟩
      · rw [if_neg ck, if_neg (by omega)]
        exact h.blk k
    · rw [if_neg c, if_neg c]; exact ⟨rfl, h⟩
theorem Rel.fix (h : Rel M last R) (k : Int) : Rel (match M k with | some B => setK M k (some { B with fixed := true }) | none => M) last (fixR R k) := by
  unfold fixR
  cases hb : blkA R k with
  | none => rw [h.none_ hb]; exact h
  | some C =>
    obtain ⟨B, hB, hBC⟩ := h.some_ hb
    obtain ⟨j, hj, hC, hlv, hjl⟩ := blkA_some hb
    rw [hB]
    dsimp only
    rw [show (k - 1).toNat = j by omega]
    refine ⟨by rw [List.length_set]; exact h.len, fun i => ?_⟩
    rw [blkA_set hjl]
    unfold setK
    by_cases c : i = k
    · subst c
      right
      rw [if_pos rfl, if_pos hj]
      refine ⟨_, { C with fixed := true }, rfl, by rw [show ({ C with fixed := true } : RB).live = C.live from rfl, hlv, if_pos rfl], ⟨hBC.len, hBC.blen, rfl, hBC.cell, hBC.ptr⟩⟩
    · rw [if_neg c, if_neg (by omega)]
      exact h.blk i
theorem Rel.free (h : Rel M last R) (k : Int) : Rel (setK M k none) last (freeR R k) := by
  unfold freeR
  cases hb : blkA R k with
  | none =>
    refine ⟨h.len, fun i => ?_⟩
    unfold setK
    by_cases c : i = k
    · subst c; left; rw [if_pos rfl]; exact ⟨rfl, hb⟩
    · rw [if_neg c]; exact h.blk i
  | some C =>
    obtain ⟨j, hj, hC, hlv, hjl⟩ := blkA_some hb
    dsimp only
    rw [show (k - 1).toNat = j by omega]
    refine ⟨by rw [List.length_set]; exact h.len, fun i => ?_⟩
    rw [blkA_set hjl]
    unfold setK
    by_cases c : i = k
    · subst c
      left
      rw [if_pos rfl, if_pos hj]
      exact ⟨rfl, rfl⟩
    · rw [if_neg c, if_neg (by omega)]
      exact h.blk i
theorem Rel.alloc (h : Rel M last R) (n : Nat) (b1 g1 p1 g b p : Nat) : Rel (setK M ((last : Int) + 1) (some ⟨b1, g1, p1, 0, List.replicate n 256, fun _ => none, false⟩)) (last + 1) (R ++ [newRB g b p n]) := by
  refine ⟨by rw [List.length_append, h.len]; rfl, fun i => ?_⟩
  rw [blkA_app rfl, h.len]
  unfold setK
  by_cases c : i = (last : Int) + 1
  · right
    rw [if_pos c, if_pos c]
    refine ⟨_, _, rfl, rfl, ⟨by simp [newRB], by simp [newRB], rfl, fun i hi => ?_, fun o ho hl hp => ?_⟩⟩
    · left
      have hi' : i < n := by simpa [newRB] using hi
      simp [newRB, hi']
    · exfalso
      have hl' : o + 8 ≤ n := by simpa [newRB] using hl
      have := hp 0 (by omega)
      simp [show o < n by omega] at this
  · rw [if_neg c, if_neg c]
    exact h.blk i
theorem Rel.at_ (h : Rel M last R) (a : V) (hb : U64 a.b) (hs : ∀ k B, M k = some B → B.cells.length ≤ 16777216) (e : Int) (he : e = 0 ∨ e = 1) : atM M a e = atB R a e := by
  unfold atM atB
  obtain ⟨b0, b1⟩ := hb
  rcases h.blk a.l with ⟨h1, h2⟩ | ⟨B, C, h1, h2, h3⟩
  · rw [h1, h2]
  · have hl := hs _ _ h1
    rw [h1, h2]
    dsimp only
    rw [h3.len] at hl ⊢
    rw [← Bool.decide_and, decide_eq_decide]
    unfold wrap64
    omega
end

end Go.Proofs.Ytddipbpllogbaaa
