/-
  MemoryPlays in plain words: the program's blocks and the reference's say the same; loads and stores keep to it.
-/
import Derived.Test.YtddipbpllogbaaaRefW12
import Derived.Test.YtddipbpllogbaaaRefW13
import Derived.Test.YtddipbpllogbaaaMemKeepsA
namespace Go.Proofs.Ytddipbpllogbaaa
open Go.RowKit
set_option linter.unusedVariables false
set_option linter.unusedSimpArgs false

def CellRel (B : Bk) (C : RB) (i : Nat) : Prop :=
  (B.cells.getD i 0 = 256 ∧ C.kinds.getD i 0 = 0) ∨ (0 ≤ B.cells.getD i 0 ∧ B.cells.getD i 0 < 256 ∧ C.kinds.getD i 0 = 1 ∧ C.bytes.getD i 0 = B.cells.getD i 0)
    ∨ (B.cells.getD i 0 = 512 + ((i % 8 : Nat) : Int) ∧ C.kinds.getD i 0 = 2 ∧ ∃ p, C.pcs (i : Int) = some ⟨2, 0, p, ((i % 8 : Nat) : Int)⟩)
structure BlkRel (B : Bk) (C : RB) : Prop where
  len : B.cells.length = C.kinds.length
  blen : C.bytes.length = C.kinds.length
  fixed : B.fixed = C.fixed
  cell : ∀ i, i < C.kinds.length → CellRel B C i
  ptr : ∀ o, o % 8 = 0 → o + 8 ≤ C.kinds.length → (∀ i : Nat, i < 8 → B.cells.getD (o + i) 0 = 512 + (i : Int)) → ∃ p, B.ptr (o : Int) = some p ∧ ∀ i : Nat, i < 8 → C.pcs ((o + i : Nat) : Int) = some ⟨2, 0, p, (i : Int)⟩

theorem rcell_of {B : Bk} {C : RB} {i : Nat} (h : CellRel B C i) : ((rcell C i).k = 1 ↔ B.cells.getD i 0 < 256) ∧ ((rcell C i).k = 1 → (rcell C i).b = B.cells.getD i 0) ∧ ((rcell C i).k = 2 ↔ B.cells.getD i 0 = 512 + ((i % 8 : Nat) : Int)) ∧ ((rcell C i).k = 2 → (rcell C i).i = ((i % 8 : Nat) : Int)) := by
  unfold rcell
  unfold CellRel at h
  generalize B.cells.getD i 0 = x at *
  generalize C.kinds.getD i 0 = y at *
  generalize C.bytes.getD i 0 = z at *
  rcases h with ⟨h1, h2⟩ | ⟨h1, h2, h3, h4⟩ | ⟨h1, h2, p, h3⟩
  · rw [if_neg (by omega), h1, h2]
    refine ⟨⟨fun g => ?_, fun g => ?_⟩, fun g => ?_, ⟨fun g => ?_, fun g => ?_⟩, fun g => ?_⟩ <;> simp at g ⊢ <;> omega
  · rw [if_neg (by omega), h3, h4]
    refine ⟨⟨fun g => h2, fun g => rfl⟩, fun g => rfl, ⟨fun g => ?_, fun g => ?_⟩, fun g => ?_⟩ <;> simp at g ⊢ <;> omega
  · rw [if_pos h2, h3, h1]
    refine ⟨⟨fun g => ?_, fun g => ?_⟩, fun g => ?_, ⟨fun g => rfl, fun g => rfl⟩, fun g => rfl⟩ <;> simp at g ⊢ <;> omega

theorem acc_bytes {B : Bk} {C : RB} (h : BlkRel B C) (off : Nat) : ∀ k, off + k ≤ C.kinds.length → ((accR C off k).bytes = k ↔ ∀ j, j < k → B.cells.getD (off + j) 0 < 256) ∧ ((∀ j, j < k → B.cells.getD (off + j) 0 < 256) → (accR C off k).bits = bitsN B.cells off k)
  | 0, _ => ⟨⟨fun _ j hj => by omega, fun _ => rfl⟩, fun _ => rfl⟩
  | k + 1, hk => by
    obtain ⟨h1, h2⟩ := acc_bytes h off k (by omega)
    obtain ⟨r1, r2, _⟩ := rcell_of (h.cell (off + k) (by omega))
    have hle := (accR_le C off k).1
    refine ⟨⟨fun g j hj => ?_, fun g => ?_⟩, fun g => ?_⟩
    · simp only [accR] at g
      split at g
      · rename_i c
        rcases Nat.lt_or_ge j k with hjk | hjk
        · exact h1.1 (by omega) j hjk
        · have : j = k := by omega
          subst this; exact r1.1 c
      · omega
    · simp only [accR]
      rw [if_pos (r1.2 (g k (by omega))), h1.2 (fun j hj => g j (by omega))]
    · simp only [accR]
      rw [if_pos (r1.2 (g k (by omega))), h2 (fun j hj => g j (by omega)), r2 (r1.2 (g k (by omega)))]
      rfl
theorem acc_pieces (C : RB) (off : Nat) : ∀ k, (accR C off k).pieces = k ↔ ∀ j : Nat, j < k → (rcell C (off + j)).k = 2 ∧ (rcell C (off + j)).i = j ∧ sameP (rcell C (off + j)).p (rcell C off).p = true
  | 0 => ⟨fun _ j hj => by omega, fun _ => rfl⟩
  | k + 1 => by
    have h1 := acc_pieces C off k
    have hle := (accR_le C off k).2
    refine ⟨fun g j hj => ?_, fun g => ?_⟩
    · simp only [accR] at g
      split at g
      · rename_i c
        rcases Nat.lt_or_ge j k with hjk | hjk
        · exact h1.1 (by omega) j hjk
        · have : j = k := by omega
          subst this; exact c
      · omega
    · simp only [accR]
      rw [if_pos (g k (by omega)), h1.2 (fun j hj => g j (by omega))]
theorem sameP_refl (p : V) : sameP p p = true := by simp [sameP]

theorem load_agree {B : Bk} {C : RB} (h : BlkRel B C) (chunk : Int) (off n : Nat) (hn : sizeV chunk = n) (ho : off % n = 0) (hl : off + n ≤ C.kinds.length) :
    (if chunk = 6 ∧ pieces B.cells off ∧ (B.ptr off).isSome = true then ptrV_ (B.ptr off) else loadB B chunk (sizeV chunk) off) = rloadB C chunk off n := by
  obtain ⟨a1, a2⟩ := acc_bytes h off n hl
  have hle := (accR_le C off n).1
  have hwhole : whole B.cells off (sizeV chunk) ↔ ∀ j, j < n → B.cells.getD (off + j) 0 < 256 := by
    unfold whole
    rw [hn]
    simp
  have hrest : loadB B chunk (sizeV chunk) off = if (accR C off n).bytes < n then ⟨0, 0, 0⟩ else valOf chunk (accR C off n).bits := by
    unfold loadB
    by_cases c : ∀ j, j < n → B.cells.getD (off + j) 0 < 256
    · rw [if_pos (hwhole.2 c), if_neg (by rw [a1.2 c]; omega), a2 c, hn]
      rfl
    · rw [if_neg (fun g => c (hwhole.1 g)), if_pos (by
        rcases Nat.lt_or_ge (accR C off n).bytes n with g | g
        · exact g
        · exact absurd (a1.1 (by omega)) c)]
  unfold rloadB
  by_cases c6 : chunk = 6
  · subst c6
    have hn8 : n = 8 := by have : sizeV 6 = 8 := by decide
                           omega
    subst hn8
    have hp := acc_pieces C off 8
    have hlen := h.len
    have hpc : pieces B.cells off ↔ ∀ i : Nat, i < 8 → B.cells.getD (off + i) 0 = 512 + (i : Int) := by
      unfold pieces
      refine ⟨fun g i hi => ?_, fun g i hi => ?_⟩
      · rw [List.getD_eq_getElem?_getD, g i hi]; rfl
      · have := g i hi
        rw [List.getD_eq_getElem?_getD, List.getElem?_eq_getElem (by omega)] at this
        rw [List.getElem?_eq_getElem (by omega)]
        simpa using this
    by_cases c : pieces B.cells off
    · obtain ⟨p, p1, p2⟩ := h.ptr off ho hl (hpc.1 c)
      have hrc : ∀ i : Nat, i < 8 → rcell C (off + i) = ⟨2, 0, p, i⟩ := fun i hi => by
        obtain ⟨_, _, r3, _⟩ := rcell_of (h.cell (off + i) (by omega))
        have hk : C.kinds.getD (off + i) 0 = 2 := by
          rcases h.cell (off + i) (by omega) with ⟨g1, _⟩ | ⟨_, g1, _⟩ | ⟨_, g1, _⟩
          · have := hpc.1 c i hi; omega
          · have := hpc.1 c i hi; omega
          · exact g1
        unfold rcell
        rw [if_pos hk, p2 i hi]
        rfl
      have h0 : rcell C off = ⟨2, 0, p, 0⟩ := hrc 0 (by omega)
      rw [if_pos ⟨rfl, c, by rw [p1]; rfl⟩, if_pos ⟨rfl, hp.2 fun j hj => by rw [hrc j hj, h0]; exact ⟨rfl, rfl, sameP_refl _⟩⟩, p1, h0]
      rfl
    · rw [if_neg (fun g => c g.2.1), if_neg (fun g => c (hpc.2 fun i hi => by
        obtain ⟨g1, g2, _⟩ := hp.1 g.2 i hi
        obtain ⟨_, _, r3, _⟩ := rcell_of (h.cell (off + i) (by omega))
        rw [r3.1 g1]
        congr 1
        omega)), hrest]
  · rw [if_neg (fun g => c6 g.1), if_neg (fun g => c6 g.1), hrest]

theorem getD_set (l : List Int) (i j : Nat) (x : Int) (hi : i < l.length) : (l.set i x).getD j 0 = if j = i then x else l.getD j 0 := by
  rw [List.getD_eq_getElem?_getD, List.getElem?_set, List.getD_eq_getElem?_getD]
  by_cases c : i = j
  · subst c; rw [if_pos rfl, if_pos rfl, if_pos hi]; rfl
  · rw [if_neg c, if_neg (Ne.symm c)]
theorem putRN_at (C : RB) (off : Nat) (v : V) (hb : C.bytes.length = C.kinds.length) : ∀ k, off + k ≤ C.kinds.length → ∀ i : Nat,
    ((putRN C off v k).kinds.getD i 0 = if off ≤ i ∧ i < off + k then (cellOf v (i - off)).k else C.kinds.getD i 0) ∧
    ((putRN C off v k).bytes.getD i 0 = if off ≤ i ∧ i < off + k then (cellOf v (i - off)).b else C.bytes.getD i 0) ∧
    ((i < off ∨ off + k ≤ i) → (putRN C off v k).pcs (i : Int) = C.pcs (i : Int)) ∧
    (v.k = 4 → off ≤ i → i < off + k → (putRN C off v k).pcs (i : Int) = some ⟨2, 0, v, ((i - off : Nat) : Int)⟩)
  | 0, _, i => ⟨by rw [if_neg (by omega)]; rfl, by rw [if_neg (by omega)]; rfl, fun _ => rfl, fun _ _ _ => by omega⟩
  | k + 1, hk, i => by
    obtain ⟨h1, h2, h3, h4⟩ := putRN_at C off v hb k (by omega) i
    obtain ⟨_, _, _, _, _, l1, l2, _⟩ := putRN_same C off v k
    refine ⟨?_, ?_, fun g => ?_, fun g4 g1 g2 => ?_⟩
    · show ((putRN C off v k).kinds.set (off + k) (cellOf v k).k).getD i 0 = _
      rw [getD_set _ _ _ _ (by omega)]
      by_cases c : i = off + k
      · rw [if_pos c, if_pos (by omega), show i - off = k by omega]
      · rw [if_neg c, h1]
        by_cases c2 : off ≤ i ∧ i < off + k
        · rw [if_pos c2, if_pos (by omega)]
        · rw [if_neg c2, if_neg (by omega)]
    · show ((putRN C off v k).bytes.set (off + k) (cellOf v k).b).getD i 0 = _
      rw [getD_set _ _ _ _ (by omega)]
      by_cases c : i = off + k
      · rw [if_pos c, if_pos (by omega), show i - off = k by omega]
      · rw [if_neg c, h2]
        by_cases c2 : off ≤ i ∧ i < off + k
        · rw [if_pos c2, if_pos (by omega)]
        · rw [if_neg c2, if_neg (by omega)]
    · have hne : ¬ ((i : Int) = ((off + k : Nat) : Int)) := by omega
      rw [← h3 (by omega)]
      show (if (cellOf v k).k = 2 then setK (putRN C off v k).pcs ((off + k : Nat) : Int) (some (cellOf v k)) else if (putRN C off v k).kinds.getD (off + k) 0 = 2 then setK (putRN C off v k).pcs ((off + k : Nat) : Int) none else (putRN C off v k).pcs) (i : Int) = _
      split
      · unfold setK; rw [if_neg hne]
      · split
        · unfold setK; rw [if_neg hne]
        · rfl
    · have hck : cellOf v k = ⟨2, 0, v, k⟩ := by unfold cellOf; rw [if_neg (by omega), if_pos g4]
      show (if (cellOf v k).k = 2 then setK (putRN C off v k).pcs ((off + k : Nat) : Int) (some (cellOf v k)) else _) (i : Int) = _
      rw [hck, if_pos rfl]
      unfold setK
      by_cases c : i = off + k
      · rw [if_pos (by omega), show i - off = k by omega]
      · rw [if_neg (by omega)]
        exact h4 g4 g1 (by omega)

theorem store_agree {B : Bk} {C : RB} (h : BlkRel B C) (chunk : Int) (off n : Nat) (v : V) (hn : sizeV chunk = n) (hn1 : n = 1 ∨ n = 2 ∨ n = 4 ∨ n = 8) (ho : off % n = 0) (hl : off + n ≤ C.kinds.length) (h4 : v.k = 4 → n = 8) : BlkRel (putB B chunk off v) (putRN C off v n) := by
  obtain ⟨e1, e2, e3, e4, e5, e6, e7, e8⟩ := putRN_same C off v n
  have hP := putRN_at C off v h.blen n hl
  have hcells : (putB B chunk off v).cells = setN B.cells off v n := by
    unfold putB
    split
    · rename_i c; rw [h4 c]
    · rw [hn]; rfl
  have hin : ∀ j : Nat, j < n → (setN B.cells off v n).getD (off + j) 0 = pieceOf v j := fun j hj => setN_in _ _ _ _ _ hj (by rw [h.len]; omega)
  have hout : ∀ i : Nat, (i < off ∨ off + n ≤ i) → (setN B.cells off v n).getD i 0 = B.cells.getD i 0 := fun i hi => setN_out _ _ _ _ _ hi
  refine ⟨?_, by rw [e7, e6]; exact h.blen, ?_, fun i hi => ?_, fun o hoo hol hpc => ?_⟩
  · rw [hcells, setN_len, e6]; exact h.len
  · rw [e5, ← h.fixed]; unfold putB; split <;> rfl
  · rw [e6] at hi
    obtain ⟨p1, p2, p3, p4⟩ := hP i
    unfold CellRel
    rw [hcells, p1, p2]
    by_cases c : off ≤ i ∧ i < off + n
    · rw [if_pos c, if_pos c]
      obtain ⟨j, rfl⟩ : ∃ j, i = off + j := ⟨i - off, by omega⟩
      rw [hin j (by omega), show off + j - off = j by omega] 
      by_cases c0 : v.k = 0
      · left
        simp [pieceOf, cellOf, c0, pZ]
      · by_cases c4 : v.k = 4
        · right; right
          have hn8 := h4 c4
          subst hn8
          refine ⟨?_, by simp [cellOf, c4], v, ?_⟩
          · unfold pieceOf
            rw [if_neg c0, if_pos c4]
            omega
          · rw [p4 c4 (by omega) (by omega), show off + j - off = j by omega]
            have : (off + j) % 8 = j := by omega
            rw [this]
        · right; left
          have hb : (cellOf v j).b = (v.b / 2 ^ (8 * j)) % 256 := by unfold cellOf; rw [if_neg c0, if_neg c4]
          have hk : (cellOf v j).k = 1 := by unfold cellOf; rw [if_neg c0, if_neg c4]
          have hp : pieceOf v j = (v.b / 2 ^ (8 * j)) % 256 := by unfold pieceOf; rw [if_neg c0, if_neg c4]
          rw [hb, hk, hp]
          exact ⟨by omega, by omega, rfl, rfl⟩
    · rw [if_neg c, if_neg c, hout i (by omega), p3 (by omega)]
      exact h.cell i hi
  · rw [e6] at hol
    rw [hcells] at hpc
    by_cases c4 : v.k = 4
    · have hn8 := h4 c4
      subst hn8
      by_cases co : o = off
      · subst co
        refine ⟨v, ?_, fun i hi => ?_⟩
        · unfold putB
          rw [if_pos c4]
          simp [setK]
        · rw [(hP (o + i)).2.2.2 c4 (by omega) (by omega), show o + i - o = i by omega]
      · obtain ⟨p, q1, q2⟩ := h.ptr o hoo hol (fun i hi => by rw [← hout (o + i) (by omega)]; exact hpc i hi)
        refine ⟨p, ?_, fun i hi => ?_⟩
        · unfold putB
          rw [if_pos c4]
          show setK B.ptr (off : Int) (some v) (o : Int) = _
          unfold setK
          rw [if_neg (by omega)]
          exact q1
        · rw [(hP (o + i)).2.2.1 (by omega)]
          exact q2 i hi
    · have hdis : off + n ≤ o ∨ o + 8 ≤ off := by
        rcases Nat.lt_or_ge o (off + n) with g1 | g1
        · rcases Nat.lt_or_ge off (o + 8) with g2 | g2
          · exfalso
            have hio : o ≤ off := by
              rcases hn1 with rfl | rfl | rfl | rfl <;> omega
            have h1 := hpc (off - o) (by omega)
            rw [show o + (off - o) = off + 0 by omega, hin 0 (by omega)] at h1
            unfold pieceOf at h1
            rw [if_neg c4] at h1
            split at h1 <;> omega
          · exact .inr g2
        · exact .inl g1
      obtain ⟨p, q1, q2⟩ := h.ptr o hoo hol (fun i hi => by rw [← hout (o + i) (by omega)]; exact hpc i hi)
      refine ⟨p, ?_, fun i hi => ?_⟩
      · unfold putB
        rw [if_neg c4]
        exact q1
      · rw [(hP (o + i)).2.2.1 (by omega)]
        exact q2 i hi

end Go.Proofs.Ytddipbpllogbaaa
