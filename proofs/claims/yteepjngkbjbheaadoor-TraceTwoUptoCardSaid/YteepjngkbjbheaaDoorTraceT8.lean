/-
  A slice of bytes of the call's own: what is appended to it, and the string that is made of it.
-/
import Derived.Test.YteepjngkbjbheaaDoorTraceT5
import Derived.Test.YteepjngkbjbheaaDoorOwn
import Derived.Test.YteepjngkbjbheaaDoorStep
import Derived.Deep.RegionHeld3
import Derived.Lib.AppendStr
import Derived.Laws.BytesArg
import Derived.Laws.IdiomStrings
namespace Go.Proofs.YteepjngkbjbheaaDoor
open Go.RowKit
set_option linter.unusedVariables false
set_option linter.unusedSimpArgs false

theorem szl (s : ByteArray) : s.data.toList.length = s.size := by rw [Array.length_toList]; rfl
def byC (b : UInt8) : List Value := [.int .u8 (b.toNat : Int)]
abbrev OwnB (base : Nat) (w : World) (v : Value) (D : List UInt8) : Prop := OwnL 5 byC 1 base w v D
theorem byC_flat (D : List UInt8) : D.flatMap byC = D.map fun b => Value.int .u8 (b.toNat : Int) := by
  induction D with
  | nil => rfl
  | cons b D ih => rw [List.flatMap_cons, ih]; rfl
theorem byteI0 : (Tryd.prog.info? 5).map (fun i => (i.zero, i.size, i.bytes)) = some (some (.int .u8 0), 1, 1) := by kernel_rfl
theorem byteI : ∃ i : TypeInfo, (Tryd.prog).info? 5 = some i ∧ i.zero = some (.int .u8 0) ∧ i.size = 1 ∧ i.bytes = 1 := by
  have h := byteI0
  cases hi : Tryd.prog.info? 5 with
  | none => rw [hi] at h; cases h
  | some i =>
    rw [hi] at h
    simp only [Option.map_some, Option.some.injEq, Prod.mk.injEq] at h
    exact ⟨i, rfl, h.1, h.2.1, h.2.2⟩
theorem RdL.oneB {w : World} {b : Nat} {c : Nat} {T : TypeId} (hc : c < 256) (h : w.heap[b]? = some (.cells #[.int .u8 (c : Int)] T (0, 0))) : RdL byC 1 w (.slice (some ⟨b, 0, none⟩) 1 1) [UInt8.ofNat c] := by
  have hx := (cells_of_block h).1
  have e : (UInt8.ofNat c).toNat = c := by simp [UInt8.toNat_ofNat']; omega
  refine ⟨_, _, rfl, Nat.le_refl _, by decide, fun _ => ⟨b, 0, rfl, (Array.getElem?_eq_some_iff.1 h).1, fun i a ha j v hv => ?_⟩⟩
  cases i with
  | succ i => simp at ha
  | zero =>
    simp at ha; subst ha
    rw [Nat.zero_mul, Nat.zero_add, hx]
    unfold byC at hv
    rw [e] at hv
    simpa using hv
set_option maxRecDepth 100000 in
/-- The string of an own slice of bytes. -/
theorem OwnB.conv {base : Nat} {w : World} {v : Value} {D : List UInt8} (h : OwnB base w v D) : (convert 57 9 v).run Tryd.prog w = .ok (.string ⟨D.toArray⟩) w := by
  obtain ⟨A, c, rfl, h1, h2⟩ := h
  rcases h2 with ⟨h3, h4⟩ | ⟨g, cap, cur, h3, hb, hg, hn, hm, hs, ht⟩
  · obtain rfl : D = [] := List.eq_nil_of_length_eq_zero h4
    rw [h3]
    have := run_convert_bytes_nil (P := Tryd.prog) w 57 5 Tryd.underlying57 Tryd.underlying5 0 0 9 Tryd.underlying9
    have e : (⟨([] : List UInt8).toArray⟩ : ByteArray) = ByteArray.empty := ByteArray.ext rfl
    rw [e]
    exact this
  · injection h3 with h3 h4 h5
    subst h3 h5
    refine run_convert_bytes_back w _ _ 5 _ _ D Tryd.underlying57 Tryd.underlying5 Tryd.underlying9 fun j hj => ?_
    have hx := (cells_of_block hg).1
    rw [add_at, Nat.zero_add, hx]
    rw [byC_flat, Nat.mul_one] at ht
    have h6 := congrArg (fun l => l[j]?) ht
    simp only [List.getElem?_take, if_pos hj, List.getElem?_map, List.getElem?_eq_getElem hj] at h6
    rw [← Array.getElem?_toList]
    exact h6
/-- A string is appended. -/
theorem wpList_appS {ops : Array Oper} {rest : List Oper} {o : Oper} {a : Act} {Q : Exit → Act → World → Prop} {w : World} (hgd : o.guard = none) (sl x : Operand)
    (ho : o.op = .call { callee := .builtin .append, args := #[sl, x], argTypes := #[57, 9] })
    (base : Nat) (v : Value) (D : List UInt8) (hs : a.eval sl = v) (hown : OwnB base w v D) (s : ByteArray) (hx : a.eval x = .string s)
    (hbytes : D.length + s.size ≤ 140737488355328) (hbase : base ≤ w.heap.size)
    (h : ∀ v' w', OwnB base w' v' (D ++ s.data.toList) → w.grownBy w' v.ownBlock → Below base w w' → wpList Tryd.prog ops Q rest (a.put o.dst v') w') : wpList Tryd.prog ops Q (o :: rest) a w := by
  obtain ⟨i, hi, hz, hs1, hs2⟩ := byteI
  obtain ⟨A0, c0, rfl, h2⟩ := hown
  refine Lib.wpList_append_own_string (P := Tryd.prog) w hgd sl x 57 9 ho base 5 i Tryd.underlying57 Tryd.underlying9 hi hz hs1 hs2 _ D.length _ hs h2 s hx (by unfold maxLen; omega) hbytes hbase ?_
  intro v' w' k1 k2 k3
  have hB : Below base w w' := (Below.refl _ _).grown k2 hbase (fun k hk => (World.ownsRow.lt h2 k hk).1)
  refine h v' w' ?_ k2 hB
  have e : D.flatMap byC ++ Lib.strCells s = (D ++ s.data.toList).flatMap byC := by
    rw [List.flatMap_append, byC_flat s.data.toList]; rfl
  rw [e] at k1
  have el : (D ++ s.data.toList).length = D.length + s.size := by rw [List.length_append, szl]
  rcases k1.2 with ⟨hv, h0⟩ | ⟨g, cap, cur, hv, _⟩
  · exact ⟨none, 0, by rw [hv, el, h0], by rw [el]; exact k1⟩
  · exact ⟨_, _, by rw [hv, el], by rw [el]; exact k1⟩
/-- A row of bytes that was laid as a literal. -/
theorem RdL.litB {w : World} {b : Nat} {T : TypeId} (bs : List UInt8) (n : Nat) (hn : n = bs.length) (hm : bs.length ≤ maxLen) (h : w.heap[b]? = some (.cells (bs.map fun b => Value.int .u8 (b.toNat : Int)).toArray T (0, 0))) : RdL byC 1 w (.slice (some ⟨b, 0, none⟩) n n) bs := by
  subst hn
  have hx := (cells_of_block h).1
  refine ⟨_, _, rfl, Nat.le_refl _, hm, fun _ => ⟨b, 0, rfl, (Array.getElem?_eq_some_iff.1 h).1, fun i a ha j v hv => ?_⟩⟩
  unfold byC at hv
  match j, hv with
  | 0, hv =>
    simp at hv
    rw [Nat.zero_add, Nat.mul_one, Nat.add_zero, hx]
    simp [ha, hv]
theorem byC_one (bs : List UInt8) : ∀ a ∈ bs, ∀ u ∈ byC a, u.oneCell' = true := by
  intro a _ u hu
  unfold byC at hu
  simp at hu; subst hu; rfl
/-- A row of bytes is appended. -/
theorem wpList_appL {ops : Array Oper} {rest : List Oper} {o : Oper} {a : Act} {Q : Exit → Act → World → Prop} {w : World} (hgd : o.guard = none) (sl x : Operand)
    (ho : o.op = .call { callee := .builtin .append, args := #[sl, x], argTypes := #[57, 57] })
    (base : Nat) (v : Value) (D : List UInt8) (hs : a.eval sl = v) (hown : OwnB base w v D) (A : Option Addr) (m c : Nat) (bs : List UInt8) (hx : a.eval x = .slice A m c) (hr : RdL byC 1 w (.slice A m c) bs)
    (hbytes : D.length + bs.length ≤ 140737488355328) (hbase : base ≤ w.heap.size)
    (h : ∀ v' w', OwnB base w' v' (D ++ bs) → w.grownBy w' v.ownBlock → Below base w w' → wpList Tryd.prog ops Q rest (a.put o.dst v') w') : wpList Tryd.prog ops Q (o :: rest) a w := by
  obtain ⟨i, hi, hz, hs1, hs2⟩ := byteI
  exact wpList_app (e := 5) (f := byC) hgd sl x 57 ho base i _ 1 Tryd.underlying57 hi hz hs1 hs2 rfl (by decide) (fun _ => rfl) v D hs hown A m c bs hx hr (byC_one _) (by decide) (by omega) hbase
    (fun A' c' w' k1 k2 k3 _ => h _ _ k1 k2 k3)
/-- The same, as a step of a region. -/
theorem stepL {ops : Array Oper} {o : Oper} {a : Act} {w : World} {K : Act → World → Prop} {Q : Exit → Act → World → Prop} {E : Prop} (hgd : o.guard = none) (sl x : Operand)
    (ho : o.op = .call { callee := .builtin .append, args := #[sl, x], argTypes := #[57, 57] })
    (base : Nat) (v : Value) (D : List UInt8) (hs : a.eval sl = v) (hown : OwnB base w v D) (A : Option Addr) (m c : Nat) (bs : List UInt8) (hx : a.eval x = .slice A m c) (hr : RdL byC 1 w (.slice A m c) bs)
    (hbytes : D.length + bs.length ≤ 140737488355328) (hbase : base ≤ w.heap.size)
    (h : ∀ v' w', OwnB base w' v' (D ++ bs) → w.grownBy w' v.ownBlock → Below base w w' → K (a.put o.dst v') w') :
    if Region.wanted o (yielded ops a.tmps) = true then Oper.wp Tryd.prog o a w K Q else E := by
  obtain ⟨i, hi, hz, hs1, hs2⟩ := byteI
  obtain ⟨A0, c0, rfl, hrow⟩ := hown
  obtain ⟨rfl, hrr⟩ := hr.reads (f := byC) (fun _ => rfl)
  refine step_append_any w hgd sl x 57 ho base 5 i _ 1 1 Tryd.underlying57 hi hz hs1 hs2 rfl (by decide) _ D.length _ hs hrow w.heap.size A _ c (bs.flatMap byC) hx hrr (fun u hu => ?_) (by unfold maxLen; omega) (by omega) hbase fun v' w' k1 k2 k3 => ?_
  · rw [List.mem_flatMap] at hu
    obtain ⟨y, hy, hu⟩ := hu
    exact byC_one bs y hy u hu
  · have hB : Below base w w' := (Below.refl _ _).grown k2 hbase (fun k hk => (World.ownsRow.lt hrow k hk).1)
    refine h v' w' ?_ k2 hB
    rw [← List.flatMap_append] at k1
    have el : (D ++ bs).length = D.length + bs.length := by rw [List.length_append]
    rcases k1.2 with ⟨hv, h0⟩ | ⟨g, cap, cur, hv, _⟩
    · exact ⟨none, 0, by rw [hv, el, h0], by rw [el]; exact k1⟩
    · exact ⟨_, _, by rw [hv, el], by rw [el]; exact k1⟩
theorem stepS {ops : Array Oper} {o : Oper} {a : Act} {w : World} {K : Act → World → Prop} {Q : Exit → Act → World → Prop} {E : Prop} (hgd : o.guard = none) (sl x : Operand)
    (ho : o.op = .call { callee := .builtin .append, args := #[sl, x], argTypes := #[57, 9] })
    (base : Nat) (v : Value) (D : List UInt8) (hs : a.eval sl = v) (hown : OwnB base w v D) (s : ByteArray) (hx : a.eval x = .string s)
    (hbytes : D.length + s.size ≤ 140737488355328) (hbase : base ≤ w.heap.size)
    (h : ∀ v' w', OwnB base w' v' (D ++ s.data.toList) → w.grownBy w' v.ownBlock → Below base w w' → K (a.put o.dst v') w') :
    if Region.wanted o (yielded ops a.tmps) = true then Oper.wp Tryd.prog o a w K Q else E := by
  obtain ⟨i, hi, hz, hs1, hs2⟩ := byteI
  obtain ⟨A0, c0, rfl, h2⟩ := hown
  have hw : Region.wanted o (yielded ops a.tmps) = true := by simp [Region.wanted, hgd]
  rw [if_pos hw]
  obtain ⟨v', w', hr, k1, k2, _⟩ := Lib.run_append_own_string (P := Tryd.prog) w base 57 9 o.type 5 i Tryd.underlying57 Tryd.underlying9 hi hz hs1 hs2 _ D.length _ h2 s (by unfold maxLen; omega) hbytes hbase
  have hB : Below base w w' := (Below.refl _ _).grown k2 hbase (fun k hk => (World.ownsRow.lt h2 k hk).1)
  unfold Oper.wp execOp
  simp only [ho, resolve, invoke, builtin, Sem.run_bind, Sem.run_pure, Result.andThen_ok, List.map_toArray, List.map_cons, List.map_nil, hs, hx, hr]
  refine h v' w' ?_ k2 hB
  have e : D.flatMap byC ++ Lib.strCells s = (D ++ s.data.toList).flatMap byC := by
    rw [List.flatMap_append, byC_flat s.data.toList]; rfl
  rw [e] at k1
  have el : (D ++ s.data.toList).length = D.length + s.size := by rw [List.length_append, szl]
  rcases k1.2 with ⟨hv, h0⟩ | ⟨g, cap, cur, hv, _⟩
  · exact ⟨none, 0, by rw [hv, el, h0], by rw [el]; exact k1⟩
  · exact ⟨_, _, by rw [hv, el], by rw [el]; exact k1⟩
theorem OwnB.form {base : Nat} {w : World} {v : Value} {D : List UInt8} (h : OwnB base w v D) : ∃ A c, v = .slice A D.length c := OwnL.form h
end Go.Proofs.YteepjngkbjbheaaDoor
