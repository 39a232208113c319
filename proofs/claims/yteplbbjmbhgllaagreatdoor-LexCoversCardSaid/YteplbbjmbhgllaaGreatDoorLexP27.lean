/-
  The program's quoted, a step at a time: what holds ahead of each rune.
-/
import Derived.Test.YteplbbjmbhgllaaGreatDoorLexM24
namespace Go.Proofs.YteplbbjmbhgllaaGreatDoor
open Go.RowKit
set_option linter.unusedVariables false
set_option linter.unusedSimpArgs false

theorem StepB.above {b B : Nat} {w0 w1 w2 : World} (h : StepB b w0 w1) (hk : Below B w1 w2) (h1 : w0.heap.size ≤ B) (h2 : b ≤ B) : StepB b w0 w2 :=
  ⟨h.1.trans (hk.mono h2), fun k hk1 hk2 => (hk.block k (by omega)).trans (h.2 k hk1 hk2)⟩
theorem CurAt.low {b B : Nat} {r : ByteArray} {p : Lx.Pl} {w w' : World} (h : CurAt b r p w) (hk : Below B w w') (hb : b < B) : CurAt b r p w' := (hk.block _ hb).trans h
theorem Bld.step {b B : Nat} {D : List UInt8} {w w' : World} (h : Bld B D w) (hs : StepB b w w') (hb : b < B) : Bld B D w' := h.keep fun k hk hl => hs.2 k (by omega) hl
theorem val_notbad {l : List UInt8} (hl : l ≠ []) (hv : Lx.Val l) : ¬ ((Lib.decodeL l).1 = 65533 ∧ (Lib.decodeL l).2 = 1) := by
  cases hv with
  | nil => exact absurd rfl hl
  | @rune x l' r hx hr hd h => rw [hd l']; exact hr
theorem dec0_L {r : ByteArray} (h0 : 0 < r.size) : dec0 r = Lib.decodeL r.data.toList := by
  unfold dec0
  rw [if_neg (by omega)]
  have := Lib.decodeL_drop r 0
  rw [List.drop_zero] at this
  exact this.symm
theorem Bld.lt {B : Nat} {D : List UInt8} {w : World} (h : Bld B D w) : B < w.heap.size := by
  rcases h with h | h
  · obtain ⟨_, v, h2, _⟩ := h; exact (Array.getElem?_eq_some_iff.1 h2).1
  · obtain ⟨_, v, h2, _⟩ := h; exact (Array.getElem?_eq_some_iff.1 h2).1
/-- What holds ahead of each rune. -/
structure PQuoS (b : Nat) (w0 : World) (q : Nat) (L : List UInt8) (p : Lx.Pl) (rk : ByteArray) (pq : Lx.Pl) (D : List UInt8) (n last i : Nat) (w : World) : Prop where
  cur : CurAt b rk pq w
  bld : Bld w0.heap.size D w
  step : StepB b w0 w
  law : Lx.quoL q (L.drop 1) [] 0 0 = Lx.quoL q (L.drop i) D n last
  val : Lx.Val (L.drop i)
  valT : Lx.Val (L.take i)
  len : D.length ≤ 4 * i
  rest : rk.data.toList = L.drop i
  pl : pq = Lx.moved p (L.take i)
section
variable {b : Nat} {w0 w w2 w3 : World} {q : Nat} {L : List UInt8} {p : Lx.Pl} {rk : ByteArray} {pq : Lx.Pl} {D : List UInt8} {n last i : Nat}
theorem PQuoS.start {r : ByteArray} (hb : b < w0.heap.size) (h0 : 0 < r.size) (hv : Lx.Val (r.data.toList.drop 1)) (h128 : byteN r.data.toList 0 < 128) (hB : Bld w0.heap.size [] w) (hst : StepB b w0 w)
    (hst2 : StepB b w w2) (hc : CurAt b (r.extract 1 r.size) (Lx.stepP p (byteN r.data.toList 0)) w2) : PQuoS b w0 q r.data.toList p (r.extract 1 r.size) (Lx.stepP p (byteN r.data.toList 0)) [] 0 0 1 w2 := by
  have hl : 0 < r.data.toList.length := by rw [szl]; exact h0
  refine ⟨hc, hB.step hst2 hb, hst.trans hst2, rfl, hv, ?_, by simp, drop_data _ _, (moved_take1 hl h128 p).symm⟩
  rw [take_one hl]
  exact .ascii h128 .nil
/-- A rune that stands for itself. -/
theorem PQuoS.rune (h : PQuoS b w0 q L p rk pq D n last i w) (hi : i < L.length) (h1 : byteN L i ≠ 92) (h2 : byteN L i ≠ q) (h3 : byteN L i ≠ 10) (hb : b < w0.heap.size) (hst : StepB b w w2)
    (hc : CurAt b (rk.extract (Lib.decodeL (L.drop i)).2 rk.size) (Lx.stepP pq (Lib.decodeL (L.drop i)).1) w2) (hB : Bld w0.heap.size (D ++ Lib.encodeRune ((Lib.decodeL (L.drop i)).1 : Int)) w3) (hl : Below w0.heap.size w2 w3) :
    PQuoS b w0 q L p (rk.extract (Lib.decodeL (L.drop i)).2 rk.size) (Lx.stepP pq (Lib.decodeL (L.drop i)).1) (D ++ Lib.encodeRune ((Lib.decodeL (L.drop i)).1 : Int)) (n + 1) (Lib.decodeL (L.drop i)).1 (i + (Lib.decodeL (L.drop i)).2) w3 := by
  have hne := Lx.drop_ne hi
  have hnb := val_notbad hne h.val
  have hm := moved_take hi h.valT hnb p
  have hk := Lx.decodeL_len hne
  have he := Lib.encode_decode _ hne hnb
  have hlaw := h.law.trans (Lx.quo_rune (data := D) (n := n) (last := last) hi h1 h2 h3)
  refine ⟨hc.low hl hb, hB, (h.step.trans hst).above hl (Nat.le_refl _) (by omega), by rw [hlaw, he], Lx.val_rune hi h.val, hm.1, ?_, ?_, ?_⟩
  · have := h.len
    rw [he, List.length_append, List.length_take]
    omega
  · rw [drop_data, h.rest, List.drop_drop]
  · rw [hm.2, h.pl]
/-- An escape. -/
theorem PQuoS.esc (h : PQuoS b w0 q L p rk pq D n last i w) (hi : i < L.length) (h1 : byteN L i = 92) (h2 : 92 ≠ q) (hb : b < w0.heap.size) {c k : Nat} (hesc : Lx.escL (L.drop (i + 1)) = some (c, k)) (hst : StepB b w w2)
    (hc : CurAt b ((rk.extract 1 rk.size).extract k (rk.extract 1 rk.size).size) (Lx.moved (Lx.stepP pq 92) ((L.drop (i + 1)).take k)) w2) (hB : Bld w0.heap.size (D ++ [UInt8.ofNat c]) w3) (hl : Below w0.heap.size w2 w3) :
    PQuoS b w0 q L p (rk.extract (1 + k) rk.size) (Lx.moved (Lx.stepP pq 92) ((L.drop (i + 1)).take k)) (D ++ [UInt8.ofNat c]) (n + 1) c (i + 1 + k) w3 := by
  have hlaw := h.law.trans (Lx.quo_esc (data := D) (n := n) (last := last) hi h1 (by rw [h1]; exact h2))
  rw [hesc] at hlaw
  have hkk := escL_byte hesc
  have hv1 : Lx.Val (L.take (i + 1)) := by rw [take_step hi]; exact h.valT.app (.ascii (by show byteN L i < 128; omega) .nil)
  have hm1 : Lx.moved p (L.take (i + 1)) = Lx.stepP pq 92 := by
    rw [take_step hi, Lx.moved_app h.valT, Lx.moved_one (by show byteN L i < 128; omega), ← h.pl]
    show Lx.stepP pq (byteN L i) = _
    rw [h1]
  have hva : Lx.Val ((L.drop (i + 1)).take k) := by
    have hd : Lx.Val (L.drop (i + 1)) := by
      have := h.val
      rw [drop_byte hi] at this
      exact Lx.Val.tail (by show byteN L i < 128; omega) this
    have := hd
    rw [← List.take_append_drop k (L.drop (i + 1))] at this
    exact (Lx.Val.asciis (Lx.escL_ascii hesc) this).1
  refine ⟨?_, hB, (h.step.trans hst).above hl (Nat.le_refl _) (by omega), hlaw, Lx.val_esc hi h1 h.val hesc, ?_, ?_, ?_, ?_⟩
  · rw [ext_ext] at hc
    exact hc.low hl hb
  · rw [List.take_add]; exact hv1.app hva
  · have := h.len
    rw [List.length_append]; simp; omega
  · rw [drop_data, h.rest, List.drop_drop]; congr 1; omega
  · rw [List.take_add, Lx.moved_app hv1, hm1]
/-- The last quote. -/
theorem PQuoS.quote {r : ByteArray} {W : World} (h : PQuoS b w0 q r.data.toList p rk pq D n last i w) (hi : i < r.data.toList.length) (h1 : byteN r.data.toList i = q) (hq : q < 128)
    (hc : CurAt b (rk.extract 1 rk.size) (Lx.stepP pq q) W) : CurAt b (r.extract (i + 1) r.size) (Lx.moved p (r.data.toList.take (i + 1))) W := by
  have e1 : r.extract (i + 1) r.size = rk.extract 1 rk.size := ba_eq (by rw [drop_data, drop_data, h.rest, List.drop_drop])
  have e2 : Lx.moved p (r.data.toList.take (i + 1)) = Lx.stepP pq q := by
    rw [take_step hi, Lx.moved_app h.valT, Lx.moved_one (by show byteN r.data.toList i < 128; omega), ← h.pl]
    show Lx.stepP pq (byteN r.data.toList i) = _
    rw [h1]
  rw [e1, e2]
  exact hc
end
/-- What quoted answers. -/
def PQuo (q b : Nat) (r : ByteArray) (p : Lx.Pl) (e : Ending) (w' : World) : Prop := match Lx.quoL q (r.data.toList.drop 1) [] 0 0 with
  | some o => e = .returned (.tuple #[.string ⟨o.data.toArray⟩, .int .i64 (o.n : Int), .int .u64 (o.last : Int), .bool true]) ∧ CurAt b (r.extract (r.size - o.rest.length) r.size) (Lx.moved p (r.data.toList.take (r.size - o.rest.length))) w'
  | none => e = .returned (.tuple #[.string ⟨#[]⟩, .int .i64 0, .int .u64 0, .bool false])
theorem pquo_none {q b : Nat} {r : ByteArray} {p : Lx.Pl} {e : Ending} {w' : World} (h : Lx.quoL q (r.data.toList.drop 1) [] 0 0 = none) (he : e = .returned (.tuple #[.string ⟨#[]⟩, .int .i64 0, .int .u64 0, .bool false])) : PQuo q b r p e w' := by
  unfold PQuo; rw [h]; exact he
theorem pquo_some {q b i n last : Nat} {D : List UInt8} {r : ByteArray} {p : Lx.Pl} {e : Ending} {w' : World} (hi : i < r.size) (h : Lx.quoL q (r.data.toList.drop 1) [] 0 0 = some ⟨D, n, last, r.data.toList.drop (i + 1)⟩)
    (he : e = .returned (.tuple #[.string ⟨D.toArray⟩, .int .i64 (n : Int), .int .u64 (last : Int), .bool true])) (hc : CurAt b (r.extract (i + 1) r.size) (Lx.moved p (r.data.toList.take (i + 1))) w') : PQuo q b r p e w' := by
  unfold PQuo; rw [h]; dsimp only
  rw [List.length_drop, szl, show r.size - (r.size - (i + 1)) = i + 1 from by omega]
  exact ⟨he, hc⟩
end Go.Proofs.YteplbbjmbhgllaaGreatDoor
