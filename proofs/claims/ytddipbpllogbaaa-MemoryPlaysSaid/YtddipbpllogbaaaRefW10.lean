/-
  The reference's memory: what a set leaves of the whole.
-/
import Derived.Test.YtddipbpllogbaaaRefW9
import Derived.Test.YtddipbpllogbaaaRefW2
import Derived.Test.YtddipbpllogbaaaRefW3
namespace Go.Proofs.Ytddipbpllogbaaa
open Go.RowKit
set_option linter.unusedVariables false
set_option linter.unusedSimpArgs false

theorem RefLeft.trans {w w1 w2 : World} {base rm c1 c2 : Nat} {s s1 s2 : Value} {R R1 R2 : List RB} (h : RefLeft w w1 base rm s R c1 s1 R1) (k : RefLeft w1 w2 base rm s1 R1 c2 s2 R2) : RefLeft w w2 base rm s R c2 s2 R2 where
  mem := k.mem
  low := h.low.trans k.low
  foot i hi hn := by
    rw [k.foot i (Nat.lt_of_lt_of_le hi h.low.size) (fun g => by
      rcases h.own i g with g | g
      · exact hn g
      · omega)]
    exact h.foot i hi hn
  own i hi := by
    rcases k.own i hi with g | g
    · exact h.own i g
    · exact .inr (Nat.le_trans h.low.size g)
theorem flat_same {R : List RB} {j : Nat} {B B' : RB} (hj : R[j]? = some B) (e : B'.cells = B.cells) : (R.set j B').flatMap RB.cells = R.flatMap RB.cells := by
  rw [List.flatMap_def, List.flatMap_def, List.map_set, e]
  congr 1
  apply List.ext_getElem?
  intro i
  rw [List.getElem?_set]
  split
  · rename_i hji
    subst hji
    rw [List.length_map, List.getElem?_map, hj]
    have : j < R.length := by
      rcases Nat.lt_or_ge j R.length with h1 | h1
      · exact h1
      · rw [List.getElem?_eq_none h1] at hj; cases hj
    rw [if_pos this]; rfl
  · rfl
/-- A block's cells were turned. -/
theorem RefS.putB {w w' : World} {base rm cap c : Nat} {s : Value} {R : List RB} (h : RefS w base rm s cap R) {j : Nat} {B B' : RB} (hj : R[j]? = some B) (hl : B.live = true) (hp : RPut w w' base B B')
    (e : B'.g = B.g ∧ B'.b = B.b ∧ B'.p = B.p ∧ B'.live = true ∧ B'.fixed = B.fixed ∧ B'.kinds.length = B.kinds.length ∧ B'.bytes.length = B.bytes.length)
    (hkb : (∀ x ∈ B'.kinds, 0 ≤ x ∧ x < 3) ∧ ∀ x ∈ B'.bytes, 0 ≤ x ∧ x < 256) (hn : B'.np ≤ 16 * c) (hc : cap ≤ c ∧ c < 288230376151711744) : RefLeft w w' base rm s R c s (R.set j B') := by
  obtain ⟨e1, e2, e3, e4, e5, e6, e7⟩ := e
  have hB := h.at_ j B hj hl
  obtain ⟨es, cl, ho⟩ := hB.pcs.obj
  have hcells : B'.cells = B.cells := by unfold RB.cells; rw [e4, hl, e1, e2, e3, e5, e6]
  have hjl : j < R.length := by
    rcases Nat.lt_or_ge j R.length with h1 | h1
    · exact h1
    · rw [List.getElem?_eq_none h1] at hj; cases hj
  have hrest : ∀ i, i < w.heap.size → i ≠ B.g → i ≠ B.b → i ≠ B.p → w'.heap[i]? = w.heap[i]? := hp.rest
  have hrow : ∀ i, s.ownBlock = some i → i ≠ B.g ∧ i ≠ B.b ∧ i ≠ B.p ∧ i < w.heap.size := fun i hi => by
    rcases h.row.2 with ⟨h2, _⟩ | ⟨g, cp, cur, f1, _, f3, _⟩
    · rw [h2] at hi; cases hi
    · rw [f1] at hi
      simp only [Value.ownBlock, Option.some.injEq] at hi
      subst hi
      refine ⟨fun e => ?_, fun e => ?_, (map_ne ho f3).symm, lt_of_block f3⟩
      · rw [e, hB.kinds] at f3; simp at f3
      · rw [e, hB.bytes] at f3; simp at f3
  have hrm : rm ≠ B.g ∧ rm ≠ B.b ∧ rm ≠ B.p := by
    refine ⟨fun e => ?_, fun e => ?_, (map_ne ho h.top).symm⟩
    · have h1 := h.top; rw [e, hB.kinds] at h1; simp at h1
    · have h1 := h.top; rw [e, hB.bytes] at h1; simp at h1
  have hget : ∀ (k : Nat) (C : RB), (R.set j B')[k]? = some C → (k = j ∧ C = B') ∨ (k ≠ j ∧ R[k]? = some C) := fun k C hk => by
    rw [List.getElem?_set] at hk
    split at hk
    · rename_i hjk
      first
        | (injection hk with hk; exact .inl ⟨hjk.symm, hk.symm⟩)
        | (split at hk
           · injection hk with hk; exact .inl ⟨hjk.symm, hk.symm⟩
           · cases hk)
    · rename_i hjk; exact .inr ⟨fun e => hjk e.symm, hk⟩
  have hne : ∀ (k : Nat) (C : RB), R[k]? = some C → C.live = true → k ≠ j → C.g ≠ B.g ∧ C.g ≠ B.b ∧ C.b ≠ B.g ∧ C.b ≠ B.b ∧ C.p ≠ B.p := fun k C hk hC hkj => by
    obtain ⟨a1, a2, a3, a4⟩ := h.apart k j C B hk hj hC hl hkj
    obtain ⟨b1, b2, b3, b4⟩ := h.apart j k B C hj hk hl hC (Ne.symm hkj)
    exact ⟨a1, a2, fun e => b2 e.symm, a3, a4⟩
  have hat : ∀ (k : Nat) (C : RB), R[k]? = some C → C.live = true → k ≠ j → RBAt w' C := fun k C hk hC hkj => by
    have hCa := h.at_ k C hk hC
    obtain ⟨es', cl', ho'⟩ := hCa.pcs.obj
    obtain ⟨n1, n2, n3, n4, n5⟩ := hne k C hk hC hkj
    have hlt := hCa.lt
    refine hCa.block fun i hi => ?_
    rcases hi with rfl | rfl | rfl
    · exact hrest _ hlt.1 n1 n2 (map_ne ho hCa.kinds).symm
    · exact hrest _ hlt.2.1 n3 n4 (map_ne ho hCa.bytes).symm
    · exact hrest _ hlt.2.2 (map_ne ho' hB.kinds) (map_ne ho' hB.bytes) n5
  obtain ⟨q1, q2, q3, q4, q5, q6, q7, q8, q9⟩ := h.keys j B hj hl
  refine { mem := { top := (hrest rm (lt_of_block h.top) hrm.1 hrm.2.1 hrm.2.2).trans h.top, row := ?_, lo := h.lo, len := by rw [List.length_set]; exact ⟨Nat.le_trans h.len.1 hc.1, hc.2⟩, keys := fun k C hk hC => ?_, at_ := fun k C hk hC => ?_, apart := fun i k C D hi hk' hC hD hik => ?_ }, low := hp.low, foot := fun i hi hn => ?_, own := fun i hi => .inl ?_ }
  · rw [List.length_set, flat_same hj hcells]
    exact row_keep h.row fun i hi => by
      obtain ⟨n1, n2, n3, n4⟩ := hrow i hi
      exact hrest i n4 n1 n2 n3
  · rcases hget k C hk with ⟨rfl, rfl⟩ | ⟨hkj, hk⟩
    · exact ⟨by rw [e1]; exact q1, by rw [e2]; exact q2, by rw [e3]; exact q3, by rw [e1, e2]; exact q4, by rw [e6, e7]; exact q5, by rw [e6]; exact q6, hn, hkb.1, hkb.2⟩
    · obtain ⟨a1, a2, a3, a4, a5, a6, a7, a8⟩ := h.keys k C hk hC
      exact ⟨a1, a2, a3, a4, a5, a6, by have := hc.1; omega, a8⟩
  · rcases hget k C hk with ⟨rfl, rfl⟩ | ⟨hkj, hk⟩
    · exact hp.at_
    · exact hat k C hk hC hkj
  · rcases hget i C hi with ⟨rfl, rfl⟩ | ⟨hij, hi2⟩
    · rcases hget k D hk' with ⟨rfl, rfl⟩ | ⟨hkj, hk2⟩
      · omega
      · obtain ⟨n1, n2, n3, n4, n5⟩ := hne k D hk2 hD hkj
        rw [e1, e2, e3]
        exact ⟨Ne.symm n1, Ne.symm n3, Ne.symm n4, Ne.symm n5⟩
    · rcases hget k D hk' with ⟨rfl, rfl⟩ | ⟨hkj, hk2⟩
      · obtain ⟨n1, n2, n3, n4, n5⟩ := hne i C hi2 hC hij
        rw [e1, e2, e3]
        exact ⟨n1, n2, n4, n5⟩
      · exact h.apart i k C D hi2 hk2 hC hD hik
  · refine hrest i hi (fun e => hn ?_) (fun e => hn ?_) (fun e => hn ?_)
    · exact .inr (.inr ⟨j, B, hj, hl, .inl e⟩)
    · exact .inr (.inr ⟨j, B, hj, hl, .inr (.inl e)⟩)
    · exact .inr (.inr ⟨j, B, hj, hl, .inr (.inr e)⟩)
  · rcases hi with hi | hi | ⟨k, C, hk, hC, hi⟩
    · exact .inl hi
    · exact .inr (.inl hi)
    · rcases hget k C hk with ⟨rfl, rfl⟩ | ⟨hkj, hk⟩
      · rw [e1, e2, e3] at hi
        exact .inr (.inr ⟨k, B, hj, hl, hi⟩)
      · exact .inr (.inr ⟨k, C, hk, hC, hi⟩)

/-- The cell that a store puts at its place i. -/
def cellOf (v : V) (i : Nat) : PC := if v.k = 0 then pZ else if v.k = 4 then ⟨2, 0, v, i⟩ else ⟨1, (v.b / 2 ^ (8 * i)) % 256, ⟨0, 0, 0⟩, 0⟩
/-- Behind k sets. -/
def putRN (B : RB) (off : Nat) (v : V) : Nat → RB
  | 0 => B
  | k + 1 => rput (putRN B off v k) (off + k) (cellOf v k)
theorem putRN_same (B : RB) (off : Nat) (v : V) : ∀ k : Nat, (putRN B off v k).g = B.g ∧ (putRN B off v k).b = B.b ∧ (putRN B off v k).p = B.p ∧ (putRN B off v k).live = B.live ∧ (putRN B off v k).fixed = B.fixed ∧ (putRN B off v k).kinds.length = B.kinds.length ∧ (putRN B off v k).bytes.length = B.bytes.length ∧ (putRN B off v k).np = B.np + k
  | 0 => ⟨rfl, rfl, rfl, rfl, rfl, rfl, rfl, rfl⟩
  | k + 1 => by
    obtain ⟨h1, h2, h3, h4, h5, h6, h7, h8⟩ := putRN_same B off v k
    exact ⟨h1, h2, h3, h4, h5, by show (List.set _ _ _).length = _; rw [List.length_set]; exact h6, by show (List.set _ _ _).length = _; rw [List.length_set]; exact h7, by show (putRN B off v k).np + 1 = _; omega⟩
theorem cellOf_range (v : V) (i : Nat) : (0 ≤ (cellOf v i).k ∧ (cellOf v i).k < 3) ∧ 0 ≤ (cellOf v i).b ∧ (cellOf v i).b < 256 := by
  unfold cellOf
  split
  · exact ⟨by decide, by decide, by decide⟩
  · split
    · dsimp only; omega
    · dsimp only; omega
theorem putRN_range (B : RB) (off : Nat) (v : V) (h : (∀ x ∈ B.kinds, 0 ≤ x ∧ x < 3) ∧ ∀ x ∈ B.bytes, 0 ≤ x ∧ x < 256) : ∀ k : Nat, (∀ x ∈ (putRN B off v k).kinds, 0 ≤ x ∧ x < 3) ∧ ∀ x ∈ (putRN B off v k).bytes, 0 ≤ x ∧ x < 256
  | 0 => h
  | k + 1 => by
    obtain ⟨h1, h2⟩ := putRN_range B off v h k
    obtain ⟨c1, c2⟩ := cellOf_range v k
    refine ⟨fun x hx => ?_, fun x hx => ?_⟩
    · rcases List.mem_or_eq_of_mem_set hx with g | g
      · exact h1 x g
      · rw [g]; exact c1
    · rcases List.mem_or_eq_of_mem_set hx with g | g
      · exact h2 x g
      · rw [g]; exact c2

end Go.Proofs.Ytddipbpllogbaaa
