/-
  What stands in quotes, a step of a loop at a time. No program in sight.
  Places and spoilt bytes, a rune at a time. No program in sight.
  The reference's utf8 and moved: over a text's runes.
  The reference's moved: the place behind some runes.
  Slices that read as lists of whatever is laid out in a fixed number of cells. No program in sight.
-/
import Derived.Test.YteplbbjmbhgllaaGreatDoorLexM01
import Derived.Test.YteplbbjmbhgllaaGreatDoorLexM06
import Derived.Lib.MapLaws
import Derived.Lib.TrimUEq
import Derived.Test.YteplbbjmbhgllaaGreatDoorLexM09
import Derived.Lib.OthersKept
import Derived.Laws.RangeString
import Derived.Test.YteplbbjmbhgllaaGreatDoorIf
import Derived.Deep.Slices
import Derived.Laws.OwnMore
import Derived.Below
namespace Go.Proofs.YteplbbjmbhgllaaGreatDoor.Lx
open Go.Lib
set_option linter.unusedVariables false
set_option linter.unusedSimpArgs false

/-- What stands in quotes, from a place on. -/
def quoL (q : Nat) (l data : Bs) (n last : Nat) : Option Quo := quoF q l.length l data n last
theorem quoF_fuel {q : Nat} : ∀ (f g : Nat) (l data : Bs) (n last : Nat), l.length ≤ f → l.length ≤ g → quoF q f l data n last = quoF q g l data n last
  | f, g, [], data, n, last, _, _ => by cases f <;> cases g <;> rfl
  | 0, _, b :: r, _, _, _, h, _ => by simp at h
  | _, 0, b :: r, _, _, _, _, h => by simp at h
  | f + 1, g + 1, b :: r, data, n, last, hf, hg => by
    have k1 := (decodeL_len (l := b :: r) (by simp)).1
    simp only [List.length_cons] at hf hg
    unfold quoF
    dsimp only
    by_cases h1 : b.toNat = q
    · rw [if_pos h1, if_pos h1]
    · rw [if_neg h1, if_neg h1]
      by_cases h2 : b.toNat = 10
      · rw [if_pos h2, if_pos h2]
      · rw [if_neg h2, if_neg h2]
        by_cases h3 : b.toNat = 92
        · rw [if_pos h3, if_pos h3]
          cases he : escL r with
          | none => rfl
          | some ck =>
            dsimp only
            exact quoF_fuel f g _ _ _ _ (by rw [List.length_drop]; omega) (by rw [List.length_drop]; omega)
        · rw [if_neg h3, if_neg h3]
          exact quoF_fuel f g _ _ _ _ (by rw [List.length_drop, List.length_cons]; omega) (by rw [List.length_drop, List.length_cons]; omega)
theorem quoF_L {q f : Nat} {l data : Bs} {n last : Nat} (h : l.length ≤ f) : quoF q f l data n last = quoL q l data n last := quoF_fuel _ _ _ _ _ _ h (Nat.le_refl _)
theorem quoL_nil {q : Nat} {data : Bs} {n last : Nat} : quoL q [] data n last = none := rfl
theorem quoL_cons {q : Nat} {b : UInt8} {r data : Bs} {n last : Nat} : quoL q (b :: r) data n last =
    if b.toNat = q then some ⟨data, n, last, r⟩ else if b.toNat = 10 then none
    else if b.toNat = 92 then (match escL r with
      | none => none
      | some (c, k) => quoL q (r.drop k) (data ++ [UInt8.ofNat c]) (n + 1) c)
    else quoL q ((b :: r).drop (decodeL (b :: r)).2) (data ++ (b :: r).take (decodeL (b :: r)).2) (n + 1) (decodeL (b :: r)).1 := by
  have k1 := (decodeL_len (l := b :: r) (by simp)).1
  unfold quoL
  rw [List.length_cons, quoF]
  by_cases h1 : b.toNat = q
  · rw [if_pos h1, if_pos h1]
  · rw [if_neg h1, if_neg h1]
    by_cases h2 : b.toNat = 10
    · rw [if_pos h2, if_pos h2]
    · rw [if_neg h2, if_neg h2]
      by_cases h3 : b.toNat = 92
      · rw [if_pos h3, if_pos h3]
        cases he : escL r with
        | none => rfl
        | some ck =>
          dsimp only
          exact quoF_fuel _ _ _ _ _ _ (by rw [List.length_drop]; omega) (Nat.le_refl _)
      · rw [if_neg h3, if_neg h3]
        exact quoF_fuel _ _ _ _ _ _ (by rw [List.length_drop, List.length_cons]; omega) (Nat.le_refl _)
section
variable {q i : Nat} {L data : Bs} {n last : Nat}
theorem quo_end (h : L.length ≤ i) : quoL q (L.drop i) data n last = none := by rw [List.drop_of_length_le h]; rfl
theorem quo_quote (h : i < L.length) (hx : byteN L i = q) : quoL q (L.drop i) data n last = some ⟨data, n, last, L.drop (i + 1)⟩ := by
  rw [drop_byte h, quoL_cons, if_pos (by exact hx)]
theorem quo_line (h : i < L.length) (hx : byteN L i = 10) (hq : byteN L i ≠ q) : quoL q (L.drop i) data n last = none := by
  rw [drop_byte h, quoL_cons, if_neg (by exact hq), if_pos (by exact hx)]
theorem quo_esc (h : i < L.length) (hx : byteN L i = 92) (hq : byteN L i ≠ q) : quoL q (L.drop i) data n last = match escL (L.drop (i + 1)) with
      | none => none
      | some (c, k) => quoL q (L.drop (i + 1 + k)) (data ++ [UInt8.ofNat c]) (n + 1) c := by
  rw [drop_byte h, quoL_cons, if_neg (by exact hq), if_neg (by have e : (L.getD i 0).toNat = byteN L i := rfl; omega), if_pos (by exact hx)]
  cases escL (L.drop (i + 1)) with
  | none => rfl
  | some ck => dsimp only; rw [List.drop_drop]
theorem quo_rune (h : i < L.length) (hx : byteN L i ≠ 92) (hq : byteN L i ≠ q) (hn : byteN L i ≠ 10) : quoL q (L.drop i) data n last =
    quoL q (L.drop (i + (decodeL (L.drop i)).2)) (data ++ (L.drop i).take (decodeL (L.drop i)).2) (n + 1) (decodeL (L.drop i)).1 := by
  rw [drop_byte h, quoL_cons, if_neg (by exact hq), if_neg (by exact hn), if_neg (by exact hx), ← drop_byte h, List.drop_drop]
theorem val_esc {c k : Nat} (h : i < L.length) (hx : byteN L i = 92) (hv : Val (L.drop i)) (he : escL (L.drop (i + 1)) = some (c, k)) : Val (L.drop (i + 1 + k)) := by
  rw [drop_byte h] at hv
  have hx' : (L.getD i 0).toNat = 92 := hx
  have hvr := Val.tail (by omega) hv
  rw [← List.take_append_drop k (L.drop (i + 1))] at hvr
  obtain ⟨v1, v2⟩ := Val.asciis (escL_ascii he) hvr
  rwa [List.drop_drop] at v2
theorem val_rune (h : i < L.length) (hv : Val (L.drop i)) : Val (L.drop (i + (decodeL (L.drop i)).2)) := by
  have := (Val.split (by intro e; have := congrArg List.length e; rw [List.length_drop] at this; simp at this; omega) hv).2
  rwa [List.drop_drop] at this
end
end Go.Proofs.YteplbbjmbhgllaaGreatDoor.Lx

namespace Go.Proofs.YteplbbjmbhgllaaGreatDoor.Lx
open Go.Lib
set_option linter.unusedVariables false
set_option linter.unusedSimpArgs false

theorem drop_ne {L : Bs} {i : Nat} (h : i < L.length) : L.drop i ≠ [] := fun e => by have := congrArg List.length e; rw [List.length_drop] at this; simp at this; omega
theorem moved_end {L : Bs} {i : Nat} {p : Pl} (h : L.length ≤ i) : moved p (L.drop i) = p := by rw [List.drop_of_length_le h]; rfl
theorem moved_step {L : Bs} {i : Nat} {p : Pl} (h : i < L.length) : moved p (L.drop i) = moved (stepP p (decodeL (L.drop i)).1) (L.drop (i + (decodeL (L.drop i)).2)) := by
  have hl := drop_ne h
  have hk := decodeL_len hl
  have hlen : (L.drop i).length = L.length - i := List.length_drop ..
  obtain ⟨j, hj⟩ : ∃ j, (L.drop i).length = j + 1 := ⟨(L.drop i).length - 1, by omega⟩
  conv => lhs; unfold moved
  rw [hj]
  unfold movedF
  rw [if_neg hl, List.drop_drop]
  exact movedF_fuel _ _ _ _ (by rw [List.length_drop]; omega) (Nat.le_refl _)
theorem spoiltF_fuel : ∀ (m n : Nat) (l : Bs) (k : Nat), l.length ≤ m → l.length ≤ n → spoiltF m l k = spoiltF n l k := by
  intro m
  induction m with
  | zero =>
    intro n l p h1 h2
    obtain rfl : l = [] := List.eq_nil_of_length_eq_zero (by omega)
    cases n <;> simp [spoiltF]
  | succ m ih =>
    intro n l p h1 h2
    by_cases hl : l = []
    · subst hl; cases n <;> simp [spoiltF]
    · have hlp := List.length_pos_iff.2 hl
      cases n with
      | zero => omega
      | succ n =>
        unfold spoiltF
        rw [if_neg hl, if_neg hl]
        have := decodeL_len hl
        split
        · rfl
        · exact ih n _ _ (by rw [List.length_drop]; omega) (by rw [List.length_drop]; omega)
/-- Spoilt from a place on. -/
def spoA (L : Bs) (i : Nat) : Option Nat := spoiltF (L.drop i).length (L.drop i) i
theorem spoA_zero (L : Bs) : spoilt L = spoA L 0 := rfl
theorem spoA_end {L : Bs} {i : Nat} (h : L.length ≤ i) : spoA L i = none := by unfold spoA; rw [List.drop_of_length_le h]; rfl
theorem spoA_step {L : Bs} {i : Nat} (h : i < L.length) : spoA L i = if (decodeL (L.drop i)).1 = 65533 ∧ (decodeL (L.drop i)).2 = 1 then some i else spoA L (i + (decodeL (L.drop i)).2) := by
  have hl := drop_ne h
  have hk := decodeL_len hl
  have hlen : (L.drop i).length = L.length - i := List.length_drop ..
  obtain ⟨j, hj⟩ : ∃ j, (L.drop i).length = j + 1 := ⟨(L.drop i).length - 1, by omega⟩
  conv => lhs; unfold spoA
  rw [hj]
  unfold spoiltF
  rw [if_neg hl, List.drop_drop]
  split
  · rfl
  · exact spoiltF_fuel _ _ _ _ (by rw [List.length_drop]; omega) (Nat.le_refl _)
/-- The rune of what is no rune, and the one that is written. -/
theorem spoilt_iff {l : Bs} (hl : l ≠ []) (hr : (decodeL l).1 = 65533) : (decodeL l).2 = 1 ↔ ¬ l.take 3 = [239, 191, 189] := by
  constructor
  · intro h1 h2
    have e : l = 239 :: 191 :: 189 :: l.drop 3 := by
      have := List.take_append_drop 3 l
      rw [h2] at this
      exact this.symm
    rw [e, decodeL_N] at h1
    unfold decodeN at h1
    simp at h1
  · intro h1
    refine Classical.byContradiction fun h2 => h1 ?_
    have h3 := encode_decode l hl (fun h => h2 h.2)
    have hk := decodeL_len hl
    rw [hr, show encodeRune ((65533 : Nat) : Int) = [239, 191, 189] from by decide] at h3
    have h4 := congrArg List.length h3
    rw [List.length_take] at h4
    have h5 : (decodeL l).2 = 3 := by simp at h4; omega
    rw [h5] at h3
    exact h3.symm
/-- The length of what a rune is written with, in a text of runes. -/
theorem encode_len {l : Bs} (hl : l ≠ []) (hv : Val l) : (encodeRune ((decodeL l).1 : Int)).length = (decodeL l).2 := by
  have hk := decodeL_len hl
  have h : ¬ ((decodeL l).1 = 65533 ∧ (decodeL l).2 = 1) := by
    cases hv with
    | nil => exact absurd rfl hl
    | @rune x l' r hx hr hd h => rw [hd l']; exact hr
  rw [encode_decode l hl h, List.length_take]
  omega
end Go.Proofs.YteplbbjmbhgllaaGreatDoor.Lx

namespace Go.Proofs.YteplbbjmbhgllaaGreatDoor
open Go.RowKit
set_option linter.unusedVariables false
set_option linter.unusedSimpArgs false

/-- What utf8 answers. -/
def spoI : Option Nat → Int
  | some k => (k : Int)
  | none => -1
theorem dec_drop (s : ByteArray) (k : Nat) : Lib.decodeL (s.data.toList.drop k) = Utf8.decode s k := Lib.decodeL_drop s k
theorem dec_len {s : ByteArray} {k : Nat} (h : k < s.size) : 1 ≤ (Utf8.decode s k).2 ∧ k + (Utf8.decode s k).2 ≤ s.size := by
  have h1 := Lx.decodeL_len (Lx.drop_ne (L := s.data.toList) (i := k) (by rw [szl]; exact h))
  rw [dec_drop, List.length_drop, szl] at h1
  omega
theorem cut3_eq (s : ByteArray) (k : Nat) : ((s.extract k (k + 3)).toList == [239, 191, 189]) = decide ((s.data.toList.drop k).take 3 = [239, 191, 189]) := by
  rw [Lib.toList_data, Lib.extract_data, show k + 3 - k = 3 from by omega, Bool.eq_iff_iff]
  simp
set_option maxRecDepth 100000 in
set_option maxHeartbeats 4000000 in
theorem rutf8_any (s : ByteArray) (hs : s.size ≤ 1048576) (w : World) : Calls Tryz.prog 20 #[.string s] w fun e w' => e = .returned (.int .i64 (spoI (Lx.spoilt s.data.toList))) ∧ Below w.heap.size w w' := by
  go_enter Tryz.func20, Tryz.ntmps20
  go_wp2
  go_loopw [] (fun wr => ∃ (pos : Nat), wr.heap[w.heap.size]? = some (.stringIter s pos) ∧ Below w.heap.size w wr ∧ pos ≤ s.size ∧ Hid (Lx.spoilt s.data.toList = Lx.spoA s.data.toList pos)) (fun wr => s.size - wr.iterPos w.heap.size)
  case atStart =>
    refine ⟨0, ?_, (Below.refl _ w).alloc (Nat.le_refl _) _, by omega, Lib.hid (Lx.spoA_zero _)⟩
    exact World.iter_heap w s 0
  case round =>
    obtain ⟨pos, hit, hbw, hpos, HS⟩ := hrel
    by_cases hp : pos < s.size
    · have hnx : ∀ ty, (Instr.next (.pointer (some ⟨w.heap.size, 0, none⟩)) true ty).run Tryz.prog wr = _ := fun ty => Lib.run_next_any_at wr w.heap.size s pos ty hit hp
      have hd := dec_len hp
      have hst := Lx.spoA_step (L := s.data.toList) (i := pos) (by rw [szl]; exact hp)
      have hne := Lx.drop_ne (L := s.data.toList) (i := pos) (by rw [szl]; exact hp)
      have hff := Lx.spoilt_iff hne
      rw [dec_drop] at hst hff
      have hit2 := Lib.iterAt_heap wr w.heap.size s pos (pos + (Utf8.decode s pos).2) hit
      have hbw2 := Lib.below_iterAt hbw (k := w.heap.size) (by omega) s (pos + (Utf8.decode s pos).2)
      have HH := Lib.hid (And.intro hst hff)
      clear hst hff
      obtain ⟨g, hg⟩ : ∃ g, g = ((s.extract pos (pos + 3)).toList == [239, 191, 189]) := ⟨_, rfl⟩
      replace hg := hg.symm
      have HG := Lib.hid (hg.symm.trans (cut3_eq s pos))
      obtain ⟨r, er⟩ : ∃ r, (Utf8.decode s pos).1 = r := ⟨_, rfl⟩
      obtain ⟨d, ed⟩ : ∃ d, (Utf8.decode s pos).2 = d := ⟨_, rfl⟩
      rw [er] at hnx HH
      rw [ed] at hnx HH hd hit2 hbw2
      clear er ed
      by_cases hr : r = 65533
      · subst hr
        by_cases hc : pos + 3 ≤ s.size
        · cases g
          · have HN : Hid (Lx.spoilt s.data.toList = some pos) := Lib.hid (by
              have h3 : ¬ (s.data.toList.drop pos).take 3 = [239, 191, 189] := of_decide_eq_false HG.out.symm
              rw [HS.out, HH.out.1, if_pos ⟨rfl, (HH.out.2 rfl).2 h3⟩])
            clear HS HH HG
            go_wp2
            go_returns
            exact ⟨by rw [HN.out]; rfl, hbw2⟩
          · have HN : Hid (Lx.spoilt s.data.toList = Lx.spoA s.data.toList (pos + d)) := Lib.hid (by
              have h3 : (s.data.toList.drop pos).take 3 = [239, 191, 189] := of_decide_eq_true HG.out.symm
              rw [HS.out, HH.out.1, if_neg]
              rintro ⟨_, h4⟩
              exact (HH.out.2 rfl).1 h4 h3)
            clear HS HH HG
            go_wp2
            go_roundw
            case rel => exact ⟨pos + d, hit2, hbw2, by omega, HN⟩
            case measure => simp only [World.iterPos, hit, hit2]; omega
        · have HN : Hid (Lx.spoilt s.data.toList = some pos) := Lib.hid (by
              have h3 : ¬ (s.data.toList.drop pos).take 3 = [239, 191, 189] := fun h => by
                have := congrArg List.length h
                rw [List.length_take, List.length_drop, szl] at this
                simp at this
                omega
              rw [HS.out, HH.out.1, if_pos ⟨rfl, (HH.out.2 rfl).2 h3⟩])
          clear HS HH HG hg
          go_wp2
          go_returns
          exact ⟨by rw [HN.out]; rfl, hbw2⟩
      · have hrb : ((r : Int) == 65533) = false := by simp; omega
        have HN : Hid (Lx.spoilt s.data.toList = Lx.spoA s.data.toList (pos + d)) := Lib.hid (by
          rw [HS.out, HH.out.1, if_neg (fun h => hr h.1)])
        clear HS HH HG hg
        go_wp2
        go_roundw
        case rel => exact ⟨pos + d, hit2, hbw2, by omega, HN⟩
        case measure => simp only [World.iterPos, hit, hit2]; omega
    · have hnx : ∀ ty, (Instr.next (.pointer (some ⟨w.heap.size, 0, none⟩)) true ty).run Tryz.prog wr = _ := fun ty => Lib.run_next_end_at wr w.heap.size s pos ty hit hp
      have HN : Hid (Lx.spoilt s.data.toList = none) := Lib.hid (by rw [HS.out, Lx.spoA_end (by rw [szl]; omega)])
      clear HS
      go_wp2
      go_returns
      exact ⟨by rw [HN.out]; rfl, hbw⟩
end Go.Proofs.YteplbbjmbhgllaaGreatDoor

namespace Go.Proofs.YteplbbjmbhgllaaGreatDoor
open Go.RowKit
set_option linter.unusedVariables false
set_option linter.unusedSimpArgs false

theorem setC_other (w : World) (b o : Nat) (v : Value) {q : Nat} (hq : q ≠ b) : (w.setCell ⟨b, o, none⟩ v).heap[q]? = w.heap[q]? := by
  simp only [World.setCell, Array.getElem?_modify]
  rw [if_neg (Ne.symm hq)]
theorem setC_at {w : World} {b : Nat} {c : Array Value} {T : TypeId} (h : w.heap[b]? = some (.cells c T (0, 0))) (o : Nat) (v : Value) : (w.setCell ⟨b, o, none⟩ v).heap[b]? = some (.cells (c.setIfInBounds o v) T (0, 0)) := by
  simp [World.setCell, Array.getElem?_modify, h]
def PlaceOk (n : Nat) (p : Lx.Pl) : Prop := 0 ≤ p.1 ∧ p.1 ≤ n ∧ 0 ≤ p.2 ∧ p.2 ≤ n
def plV (p : Lx.Pl) : Value := .agg #[.int .i64 p.1, .int .i64 p.2]
def plC (p : Lx.Pl) : Array Value := #[.int .i64 p.1, .int .i64 p.2]
theorem moved_ok {n : Nat} : ∀ (m : Nat) (l : Lx.Bs) (p : Lx.Pl), l.length ≤ m → PlaceOk n p → 1 ≤ n → PlaceOk (n + l.length) (Lx.moved p l)
  | m, [], p, _, h, _ => h
  | 0, b :: r, _, h, _, _ => by simp at h
  | m + 1, b :: r, p, hm, h, hn => by
    have hk := Lx.decodeL_len (l := b :: r) (by simp)
    have e := Lx.moved_step (L := b :: r) (i := 0) (p := p) (by simp)
    rw [List.drop_zero, Nat.zero_add] at e
    rw [e]
    have hs : PlaceOk (n + 1) (Lx.stepP p (Lib.decodeL (b :: r)).1) := by
      obtain ⟨h1, h2, h3, h4⟩ := h
      unfold Lx.stepP
      split
      · exact ⟨by dsimp only; omega, by dsimp only; omega, by dsimp only; omega, by dsimp only; omega⟩
      · exact ⟨by dsimp only; omega, by dsimp only; omega, by dsimp only; omega, by dsimp only; omega⟩
    have h2 := moved_ok (n := n + 1) m ((b :: r).drop (Lib.decodeL (b :: r)).2) _ (by rw [List.length_drop]; simp only [List.length_cons] at hm hk ⊢; omega) hs (by omega)
    obtain ⟨a1, a2, a3, a4⟩ := h2
    rw [List.length_drop] at a2 a4
    exact ⟨a1, by omega, a3, by omega⟩
set_option maxRecDepth 100000 in
set_option maxHeartbeats 4000000 in
theorem rmoved_any (p : Lx.Pl) (s : ByteArray) (hs : s.size ≤ 1048576) (hp : PlaceOk 8388608 p) (w : World) : Calls Tryz.prog 21 #[plV p, .string s] w fun e w' => e = .returned (plV (Lx.moved p s.data.toList)) ∧ Below w.heap.size w w' := by
  obtain ⟨p1, p2⟩ := p
  obtain ⟨hp1, hp2, hp3, hp4⟩ := hp
  dsimp only at hp1 hp2 hp3 hp4
  have hA1 := cell_alloc_if
  have hA2 := frozen_alloc_if
  have hA3 := cell_set_if
  unfold plV
  dsimp only
  go_enter Tryz.func21, Tryz.ntmps21
  go_wp2
  go_loopw [] (fun wr => ∃ (pos : Nat) (q1 q2 : Int), wr.heap[w.heap.size + 2]? = some (.stringIter s pos) ∧ wr.heap[w.heap.size]? = some (.cells #[.int .i64 q1, .int .i64 q2] 25 (0, 0)) ∧ wr.heap[w.heap.size + 1]? = some (.cells #[.int .i64 0, .int .i64 0] 25 (0, 0)) ∧ Below w.heap.size w wr ∧ pos ≤ s.size ∧ 0 ≤ q1 ∧ 0 ≤ q2 ∧ q1 ≤ 8388608 + pos ∧ q2 ≤ 8388608 + pos ∧ Hid (Lx.moved (p1, p2) s.data.toList = Lx.moved (q1, q2) (s.data.toList.drop pos))) (fun wr => s.size - wr.iterPos (w.heap.size + 2))
  case atStart => 
    refine ⟨0, p1, p2, ?_, ?_, ?_, ?_, by omega, by omega, by omega, by omega, by omega, Lib.hid (by rw [List.drop_zero])⟩
    · have := World.iter_heap ((w.alloc (Obj.cells #[Value.int IntKind.i64 p1, Value.int IntKind.i64 p2] 25)).alloc (Obj.cells #[Value.int IntKind.i64 0, Value.int IntKind.i64 0] 25)) s 0
      simpa using this
    · rw [World.iter, heap_alloc_old _ _ (by simp only [World.size_alloc]; omega), heap_alloc_old _ _ (by simp only [World.size_alloc]; omega), heap_alloc_new]
    · rw [World.iter, heap_alloc_old _ _ (by simp only [World.size_alloc]; omega)]
      have := heap_alloc_new (w.alloc (Obj.cells #[Value.int IntKind.i64 p1, Value.int IntKind.i64 p2] 25)) (Obj.cells #[Value.int IntKind.i64 0, Value.int IntKind.i64 0] 25)
      simpa using this
    · exact (((Below.refl _ w).alloc (Nat.le_refl _) _).alloc (by simp) _).alloc (by simp; omega) _
  case round =>
    obtain ⟨pos, q1, q2, hit, hbx, hrs, hbw, hpos, hq1, hq2, hq3, hq4, HS⟩ := hrel
    have hsz : w.heap.size + 2 < wr.heap.size := (Array.getElem?_eq_some_iff.1 hit).1
    by_cases hlt : pos < s.size
    · have hnx : ∀ ty, (Instr.next (.pointer (some ⟨w.heap.size + 2, 0, none⟩)) true ty).run Tryz.prog wr = _ := fun ty => Lib.run_next_any_at wr (w.heap.size + 2) s pos ty hit hlt
      have hd := dec_len hlt
      have hst := Lx.moved_step (L := s.data.toList) (i := pos) (p := (q1, q2)) (by rw [szl]; exact hlt)
      rw [dec_drop] at hst
      obtain ⟨r, er⟩ : ∃ r, (Utf8.decode s pos).1 = r := ⟨_, rfl⟩
      obtain ⟨d, ed⟩ : ∃ d, (Utf8.decode s pos).2 = d := ⟨_, rfl⟩
      rw [er] at hnx hst
      rw [ed] at hnx hst hd
      have HT := Lib.hid hst
      clear er ed hst
      have hit2 := Lib.iterAt_heap wr (w.heap.size + 2) s pos (pos + d) hit
      have hbx2 := (Lib.iterAt_other wr (w.heap.size + 2) w.heap.size s (pos + d) (by omega)).trans hbx
      have hrs2 := (Lib.iterAt_other wr (w.heap.size + 2) (w.heap.size + 1) s (pos + d) (by omega)).trans hrs
      have hbw2 := Lib.below_iterAt hbw (k := w.heap.size + 2) (by omega) s (pos + d)
      have hcs := cells_of_block hbx2
      have hc0 := hcs.1 0
      have hc1 := hcs.1 1
      have hcf := hcs.2
      simp at hc0 hc1
      have HB := Lib.hid (And.intro hit2 (And.intro hbx2 (And.intro hrs2 hbw2)))
      clear hit2 hbx2 hrs2 hbw2 hcs hbx hrs hbw
      by_cases hr : r = 10
      · subst hr
        have HN : Hid (Lx.moved (p1, p2) s.data.toList = Lx.moved (q1 + 1, 1) (s.data.toList.drop (pos + d))) := Lib.hid (by rw [HS.out, HT.out]; rfl)
        clear HS HT
        go_wp2
        go_roundw
        case rel =>
          obtain ⟨hit2, hbx2, hrs2, hbw2⟩ := HB.out
          refine ⟨pos + d, q1 + 1, 1, ?_, ?_, ?_, ?_, by omega, by omega, by omega, by omega, by omega, HN⟩
          · exact (setC_other _ _ _ _ (by omega)).trans ((setC_other _ _ _ _ (by omega)).trans ((setC_other _ _ _ _ (by omega)).trans hit2))
          · exact setC_at (setC_at (setC_at hbx2 1 _) 0 _) 1 _
          · exact (setC_other _ _ _ _ (by omega)).trans ((setC_other _ _ _ _ (by omega)).trans ((setC_other _ _ _ _ (by omega)).trans hrs2))
          · (repeat' (first | (with_reducible exact Below.refl _ _) | (with_reducible assumption) | (with_reducible refine Below.setCell ?_ ?_ _) | (with_reducible refine Below.alloc ?_ ?_ _) | (with_reducible refine Below.drew ?_) | (with_reducible refine below_drewN ?_ _) | (with_reducible refine below_next ?_ (by with_reducible assumption)) | omega | (dsimp only; omega) | (simp only [World.size_alloc, World.size_setCell, World.size_drew, World.heap_drewN]; omega)))
        case measure =>
          have hm : ((((wr.iterAt (w.heap.size + 2) s (pos + d)).setCell ⟨w.heap.size, 1, none⟩ (.int .i64 (q2 + 1))).setCell ⟨w.heap.size, 0, none⟩ (.int .i64 (q1 + 1))).setCell ⟨w.heap.size, 1, none⟩ (.int .i64 1)).heap[w.heap.size + 2]? = some (.stringIter s (pos + d)) := (setC_other _ _ _ _ (by omega)).trans ((setC_other _ _ _ _ (by omega)).trans ((setC_other _ _ _ _ (by omega)).trans HB.out.1))
          simp only [World.iterPos, hit, hm]
          omega
      · have hrb : ((r : Int) == 10) = false := by simp; omega
        have HN : Hid (Lx.moved (p1, p2) s.data.toList = Lx.moved (q1, q2 + 1) (s.data.toList.drop (pos + d))) := Lib.hid (by rw [HS.out, HT.out]; unfold Lx.stepP; rw [if_neg hr])
        clear HS HT
        go_wp2
        go_roundw
        case rel =>
          obtain ⟨hit2, hbx2, hrs2, hbw2⟩ := HB.out
          refine ⟨pos + d, q1, q2 + 1, ?_, ?_, ?_, ?_, by omega, by omega, by omega, by omega, by omega, HN⟩
          · exact (setC_other _ _ _ _ (by omega)).trans hit2
          · exact setC_at hbx2 1 _
          · exact (setC_other _ _ _ _ (by omega)).trans hrs2
          · (repeat' (first | (with_reducible exact Below.refl _ _) | (with_reducible assumption) | (with_reducible refine Below.setCell ?_ ?_ _) | (with_reducible refine Below.alloc ?_ ?_ _) | (with_reducible refine Below.drew ?_) | (with_reducible refine below_drewN ?_ _) | (with_reducible refine below_next ?_ (by with_reducible assumption)) | omega | (dsimp only; omega) | (simp only [World.size_alloc, World.size_setCell, World.size_drew, World.heap_drewN]; omega)))
        case measure =>
          have hm : ((wr.iterAt (w.heap.size + 2) s (pos + d)).setCell ⟨w.heap.size, 1, none⟩ (.int .i64 (q2 + 1))).heap[w.heap.size + 2]? = some (.stringIter s (pos + d)) := (setC_other _ _ _ _ (by omega)).trans HB.out.1
          simp only [World.iterPos, hit, hm]
          omega
    · have hnx : ∀ ty, (Instr.next (.pointer (some ⟨w.heap.size + 2, 0, none⟩)) true ty).run Tryz.prog wr = _ := fun ty => Lib.run_next_end_at wr (w.heap.size + 2) s pos ty hit hlt
      have HN : Hid (Lx.moved (p1, p2) s.data.toList = (q1, q2)) := Lib.hid (by rw [HS.out, Lx.moved_end (by rw [szl]; omega)])
      have hcs := cells_of_block hbx
      have hc0 := hcs.1 0
      have hc1 := hcs.1 1
      have hcf := hcs.2
      have hcr := cells_of_block hrs
      have hr0 := hcr.1 0
      have hr1 := hcr.1 1
      have hrf := hcr.2
      simp at hc0 hc1 hr0 hr1
      have HB := Lib.hid hbw
      clear HS hcs hcr hbx hrs hbw
      go_wp2
      ((try simp only [Exit.inBlock, Exit.then]); go_light; refine bodyPost_ret (by simp [results, Tryz.results21, go_sem, *, ↓IntWalk.iteOmega]; try rfl) rfl ?_)
      exact ⟨by rw [HN.out], by (have := HB.out); (repeat' (first | (with_reducible exact Below.refl _ _) | (with_reducible assumption) | (with_reducible refine Below.setCell ?_ ?_ _) | (with_reducible refine Below.alloc ?_ ?_ _) | (with_reducible refine Below.drew ?_) | (with_reducible refine below_drewN ?_ _) | (with_reducible refine below_next ?_ (by with_reducible assumption)) | omega | (dsimp only; omega) | (simp only [World.size_alloc, World.size_setCell, World.size_drew, World.heap_drewN]; omega)))⟩
end Go.Proofs.YteplbbjmbhgllaaGreatDoor

namespace Go.Proofs.YteplbbjmbhgllaaGreatDoor
open Go.RowKit Go.WideShapes Go.ChangeShapes Go.Deep
set_option linter.unusedVariables false
set_option linter.unusedSimpArgs false

/-- The slice value s reads as the list l: element a lies in the sz cells f a. -/
def RdL {α : Type} (f : α → List Value) (sz : Nat) (w : World) (s : Value) (l : List α) : Prop :=
  ∃ A c, s = .slice A l.length c ∧ l.length ≤ c ∧ c ≤ maxLen ∧ (0 < l.length → ∃ b off, A = some ⟨b, off, none⟩ ∧ b < w.heap.size ∧
    ∀ (k : Nat) (a : α), l[k]? = some a → ∀ (j : Nat) (v : Value), (f a)[j]? = some v → w.cell? ⟨b, off + k * sz + j, none⟩ = some v)

theorem add_at (b off n : Nat) : (⟨b, off, none⟩ : Addr).add n = ⟨b, off + n, none⟩ := by
  unfold Addr.add
  by_cases h0 : n = 0
  · rw [if_pos h0, h0]; rfl
  · rw [if_neg h0]

section
variable {α : Type} {f : α → List Value} {sz : Nat} {w w' : World} {s : Value} {l : List α}

theorem RdL.next (h : RdL f sz w s l) (hb : Below w.heap.size w w') : RdL f sz w' s l := by
  obtain ⟨A, c, e, h1, h2, h3⟩ := h
  refine ⟨A, c, e, h1, h2, fun hn => ?_⟩
  obtain ⟨b, off, e2, hlt, hc⟩ := h3 hn
  exact ⟨b, off, e2, Nat.lt_of_lt_of_le hlt hb.size, fun k a ha j v hv => (hb.cell (p := ⟨b, _, none⟩) hlt).trans (hc k a ha j v hv)⟩
/-- Its block reads as before. -/
theorem RdL.keepB (h : RdL f sz w s l) (hk : ∀ b, s.ownBlock = some b → b < w.heap.size → b < w'.heap.size ∧ ∀ o, w'.cell? ⟨b, o, none⟩ = w.cell? ⟨b, o, none⟩) : RdL f sz w' s l := by
  obtain ⟨A, c, e, h1, h2, h3⟩ := h
  refine ⟨A, c, e, h1, h2, fun hn => ?_⟩
  obtain ⟨b, off, e2, hlt, hc⟩ := h3 hn
  obtain ⟨k1, k2⟩ := hk b (by rw [e, e2]; rfl) hlt
  exact ⟨b, off, e2, k1, fun k a ha j v hv => (k2 _).trans (hc k a ha j v hv)⟩
theorem RdL.nil (f : α → List Value) (sz : Nat) (w : World) : RdL f sz w (.slice none 0 0) [] := ⟨none, 0, rfl, Nat.le_refl _, by decide, fun h => absurd h (by simp)⟩
/-- Where there is an element, there is an address. -/
theorem RdL.some_ (h : RdL f sz w s l) (hn : 0 < l.length) : ∃ b off c, s = .slice (some ⟨b, off, none⟩) l.length c ∧ l.length ≤ c ∧ c ≤ maxLen ∧ b < w.heap.size ∧
    ∀ (k : Nat) (a : α), l[k]? = some a → ∀ (j : Nat) (v : Value), (f a)[j]? = some v → w.cell? ⟨b, off + k * sz + j, none⟩ = some v := by
  obtain ⟨A, c, e, h1, h2, h3⟩ := h
  obtain ⟨b, off, e2, hlt, hc⟩ := h3 hn
  exact ⟨b, off, c, by rw [e, e2], h1, h2, hlt, hc⟩
theorem RdL.form (h : RdL f sz w s l) : ∃ A c, s = .slice A l.length c := by obtain ⟨A, c, e, h1, h2, h3⟩ := h; exact ⟨A, c, e⟩
theorem RdL.len (h : RdL f sz w s l) : l.length ≤ maxLen := by obtain ⟨A, c, e, h1, h2, h3⟩ := h; omega
/-- Cut behind its first elements. -/
theorem RdL.take {A : Option Addr} {n c : Nat} (h : RdL f sz w (.slice A n c) l) (k : Nat) (hk : k ≤ l.length) : RdL f sz w (.slice A k c) (l.take k) := by
  obtain ⟨A', c', e, h1, h2, h3⟩ := h
  injection e with e1 e2 e3
  subst e1 e3
  have hl : (l.take k).length = k := by rw [List.length_take]; omega
  refine ⟨A, c, by rw [hl], by omega, h2, fun hn => ?_⟩
  obtain ⟨b, off, e4, hlt, hc⟩ := h3 (by omega)
  refine ⟨b, off, e4, hlt, fun i a ha j v hv => hc i a ?_ j v hv⟩
  rw [List.getElem?_take] at ha
  split at ha
  · exact ha
  · cases ha
theorem RdL.empty (h : RdL f sz w s l) (hn : l.length = 0) : ∃ A c, s = .slice A 0 c ∧ c ≤ maxLen := by obtain ⟨A, c, e, h1, h2, h3⟩ := h; rw [hn] at e; exact ⟨A, c, e, h2⟩

/-- A slice of the call's own, read. -/
theorem RdL.of_own {base : Nat} {e : TypeId} {c n : Nat} {A : Option Addr} {xs : List Value} (h : w.ownsRow base e sz (.slice A n c) n xs) (hl : l.length = n) (hx : ∀ (k : Nat) (a : α), l[k]? = some a → ∀ (j : Nat) (v : Value), (f a)[j]? = some v → xs[k * sz + j]? = some v) :
    RdL f sz w (.slice A n c) l := by
  have hc : n ≤ c ∧ c ≤ maxLen := by
    rcases h.2 with ⟨h', _⟩ | ⟨g, cap, cur, h', _, _, h1, h2, _⟩
    · injection h' with h1 h2 h3; subst h2; subst h3; exact ⟨Nat.le_refl _, by decide⟩
    · injection h' with h3 h4 h5; subst h5; exact ⟨h1, h2⟩
  refine ⟨A, c, by rw [hl], by omega, hc.2, fun hn => ?_⟩
  rcases h.2 with ⟨h', h0, _⟩ | ⟨g, cap, cur, hv, _, hg, _⟩
  · omega
  have hA : A = some ⟨g, 0, none⟩ := by injection hv
  subst hA
  have hlt : g < w.heap.size := by
    rcases Nat.lt_or_ge g w.heap.size with h1 | h1
    · exact h1
    · rw [Array.getElem?_eq_none h1] at hg; cases hg
  refine ⟨g, 0, rfl, hlt, fun k a ha j v hv => ?_⟩
  have h1 := World.ownsRow.cells h (g := g) rfl (k * sz + j) v (hx k a ha j v hv)
  rw [add_at] at h1
  rw [Nat.add_assoc]
  exact h1
end

section
variable {H : Type} {enc : TypeId × Value → H} {P : Program} {w : World} {base : Nat} {spare : Nat → Bool} {held : Bool}

theorem cell_spot {w : World} {a : Addr} {v : Value} (h : w.cell? a = some v) : a.spot = none := by
  unfold World.cell? at h
  split at h
  · split at h
    · cases h
    · rename_i h1; cases hs : a.spot with
      | none => rfl
      | some x => rw [hs] at h1; simp at h1
  · cases h

theorem cell_block {w : World} {a : Addr} {v : Value} (h : w.cell? a = some v) : a.block < w.heap.size := by
  unfold World.cell? at h
  split at h
  · rename_i h1
    rcases Nat.lt_or_ge a.block w.heap.size with hlt | hge
    · exact hlt
    · rw [Array.getElem?_eq_none hge] at h1; cases h1
  · cases h

theorem list_of {α : Type} {p : Nat → α → Prop} : ∀ (n : Nat), (∀ i, i < n → ∃ a, p i a) → ∃ l : List α, l.length = n ∧ ∀ i a, l[i]? = some a → p i a
  | 0, _ => ⟨[], rfl, fun i a h => by simp at h⟩
  | n + 1, h => by
    obtain ⟨l, hl, hp⟩ := list_of n (fun i hi => h i (by omega))
    obtain ⟨a, ha⟩ := h n (by omega)
    refine ⟨l ++ [a], by simp [hl], fun i b hb => ?_⟩
    by_cases c : i < n
    · rw [List.getElem?_append_left (by omega)] at hb; exact hp i b hb
    · rw [List.getElem?_append_right (by omega)] at hb
      have h0 : i - l.length = 0 := by
        rcases Nat.eq_zero_or_pos (i - l.length) with h0 | h0
        · exact h0
        · rw [List.getElem?_eq_none (by show 1 ≤ _; omega)] at hb; cases hb
      rw [h0] at hb
      injection hb with hb
      subst hb
      have : i = n := by omega
      rw [this]; exact ha

/-- A slice that came in, opened: by what one element is opened to. -/
theorem open_rdl {α : Type} (f : α → List Value) (Ok : α → Prop) {t e : TypeId} {fuel : Nat} {cs : List Value} {x : DataW H × List MemPlace} (ht : P.underlying t = some (.slice e)) (hsz : 0 < P.cellsOf e)
    (hel : ∀ (n : Nat) (cs : List Value) (y : DataW H × List MemPlace), DataW.trod enc P w base spare held n e cs = some y → ∃ a : α, cs = f a ∧ Ok a)
    (h : DataW.trod enc P w base spare held fuel t cs = some x) : ∃ (s : Value) (l : List α), cs = [s] ∧ RdL f (P.cellsOf e) w s l ∧ ∀ a ∈ l, Ok a := by
  rcases open_slice ht h with ⟨h0, _⟩ | ⟨a, len, cap, m, n, D, Pl, hcs, hb, hl, hm, hmm, hx, hi⟩
  · exact ⟨_, [], h0, RdL.nil _ _ _, fun a ha => by simp at ha⟩
  · have hlm : len ≤ m := by rw [hmm]; split <;> omega
    obtain ⟨l, hll, hp⟩ := list_of (p := fun i (b : α) => w.cells? base (a.add (i * P.cellsOf e)) (P.cellsOf e) = some (f b) ∧ Ok b) len (fun i hil => by
      obtain ⟨cs', h1, h2⟩ := hi i (by omega)
      obtain ⟨b, rfl, hok⟩ := hel n cs' _ h2
      exact ⟨b, h1, hok⟩)
    refine ⟨_, l, hcs, ⟨some a, cap, by rw [hll], by omega, hm, fun hn => ?_⟩, fun b hb' => ?_⟩
    · have h0 : l[0]? = some l[0] := List.getElem?_eq_getElem hn
      obtain ⟨hc0, _⟩ := hp 0 _ h0
      obtain ⟨_, hc1, hc2⟩ := World.cells?_some hc0
      have hz := hc2 0 hsz
      have hf0 : 0 < (f l[0]).length := by omega
      rw [List.getElem?_eq_getElem hf0] at hz
      have hz1 : (a.add (0 * P.cellsOf e)).add 0 = a := by simp [Addr.add]
      rw [hz1] at hz
      have hspot := cell_spot hz
      have hblk := cell_block hz
      obtain ⟨b, off, sp⟩ := a
      dsimp only at hspot hblk
      subst hspot
      refine ⟨b, off, rfl, hblk, fun k c hk j v hv => ?_⟩
      obtain ⟨hck, _⟩ := hp k c hk
      obtain ⟨_, hck1, hck2⟩ := World.cells?_some hck
      have hj : j < (f c).length := by
        rcases Nat.lt_or_ge j (f c).length with h1 | h1
        · exact h1
        · rw [List.getElem?_eq_none h1] at hv; cases hv
      have hkj := hck2 j (by omega)
      rw [hv, add_add] at hkj
      rw [add_at, ← Nat.add_assoc] at hkj
      exact hkj
    · obtain ⟨i, hib⟩ := List.getElem?_of_mem hb'
      exact (hp i b hib).2
end

end Go.Proofs.YteplbbjmbhgllaaGreatDoor
