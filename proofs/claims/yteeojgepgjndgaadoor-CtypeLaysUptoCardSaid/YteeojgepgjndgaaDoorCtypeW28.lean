/-
  Two rows of layouts that grow side by side.
-/
import Derived.Test.YteeojgepgjndgaaDoorCtypeW27
import Derived.Test.YteeojgepgjndgaaDoorStep
namespace Go.Proofs.YteeojgepgjndgaaDoor
open Go.RowKit Go.WideShapes Go.ChangeShapes Go.Deep
set_option linter.unusedVariables false
set_option linter.unusedSimpArgs false

/-- append to an own slice, as one step of a region; where the new one lies. -/
theorem step_app2 {α : Type} {P : Program} {ops : Array Oper} {o : Oper} {a : Act} {w : World} {K : Act → World → Prop} {Q : Exit → Act → World → Prop} {E : Prop} {e : TypeId} {f : α → List Value} {size : Nat} (base : Nat)
    (hg : o.guard = none) (s x : Operand) (t : TypeId) (hop : o.op = Op.call { callee := Callee.builtin Builtin.append, args := #[s, x], argTypes := #[t, t] })
    (i : TypeInfo) (z : Value) (bytes : Nat) (h1 : P.underlying t = some (.slice e)) (h2 : P.info? e = some i) (h3 : i.zero = some z) (h4 : i.size = size) (h5 : i.bytes = bytes) (h6 : z.cells.size = size) (h7 : 0 < size)
    (v : Value) (l : List α) (hs : a.eval s = v) (hown : OwnL e f size base w v l)
    (ad : Addr) (c : Nat) (y : α) (hx : a.eval x = .slice (some ad) 1 c) (hn : (f y).length = size) (hc : ∀ j u, (f y)[j]? = some u → w.cell? (ad.add j) = some u) (h1c : ∀ u ∈ f y, u.oneCell' = true)
    (b1 : l.length + 1 ≤ maxLen) (b2 : (l.length + 1) * bytes ≤ 140737488355328) (hb : base ≤ w.heap.size)
    (hK : ∀ A' c' w', OwnL e f size base w' (.slice A' (l.length + 1) c') (l ++ [y]) → w.grownBy w' v.ownBlock → Below base w w' → (∀ q, (Value.slice A' (l.length + 1) c').ownBlock = some q → v.ownBlock = some q ∨ w.heap.size ≤ q) → K (a.put o.dst (.slice A' (l.length + 1) c')) w') :
    if Region.wanted o (yielded ops a.tmps) = true then Oper.wp P o a w K Q else E := by
  obtain ⟨A0, c0, rfl, hrow⟩ := hown
  refine step_append_one base hg s x t hop e i z size bytes h1 h2 h3 h4 h5 h6 h7 _ l.length (l.flatMap f) hs hrow ad 1 c (f y) hx (by omega) hc h1c b1 b2 hb ?_
  intro v' w' r1 r2 r3
  have hB : Below base w w' := (Below.refl _ _).grown r2 hb (fun k hk => (World.ownsRow.lt hrow k hk).1)
  obtain ⟨A', c', rfl⟩ : ∃ A' c', v' = .slice A' (l.length + 1) c' := by
    rcases r1.2 with ⟨hv, h0⟩ | ⟨g, cap, cur, hv, _⟩
    · exact absurd h0 (by omega)
    · exact ⟨_, _, hv⟩
  refine hK A' c' w' ⟨A', c', by rw [List.length_append]; rfl, ?_⟩ r2 hB r3
  rw [List.length_append, List.flatMap_append]
  simpa using r1

theorem lyC_len (y : Ly) : (lyC y).length = 5 := rfl
theorem ly_info : (Tryd.prog.info? 36).map (fun i => (i.zero, i.size, i.bytes)) = some (some (.agg #[.string ⟨#[]⟩, .bool false, .slice none 0 0, .int .i64 0, .int .i64 0]), 5, 64) := by kernel_rfl
/-- Two own rows, as they grow from a world on. -/
structure Kn2 (base : Nat) (w8 W : World) (o1 o2 : Option Nat) (s1 s2 : Value) (K1 K2 : List Ly) : Prop where
  low : Below base w8 W
  old : ∀ b, b < w8.heap.size → some b ≠ o1 → some b ≠ o2 → W.heap[b]? = w8.heap[b]?
  own1 : OwnL 36 lyC 5 base W s1 K1
  own2 : OwnL 36 lyC 5 base W s2 K2
  or1 : ∀ q, s1.ownBlock = some q → o1 = some q ∨ w8.heap.size ≤ q
  or2 : ∀ q, s2.ownBlock = some q → o2 = some q ∨ w8.heap.size ≤ q
  ne : ∀ q, s1.ownBlock = some q → s2.ownBlock ≠ some q
section
variable {base : Nat} {w8 W W' : World} {o1 o2 : Option Nat} {s1 s2 s1' s2' : Value} {K1 K2 : List Ly} {y : Ly}
theorem Kn2.alloc (h : Kn2 base w8 W o1 o2 s1 s2 K1 K2) (hb : base ≤ w8.heap.size) (o : Obj) : Kn2 base w8 (W.alloc o) o1 o2 s1 s2 K1 K2 := by
  have hz := h.low.size
  exact ⟨h.low.alloc (by omega) _, fun b h1 h2 h3 => by rw [heap_alloc_old _ _ (by omega)]; exact h.old b h1 h2 h3, h.own1.alloc _, h.own2.alloc _, h.or1, h.or2, h.ne⟩
theorem Kn2.drew (h : Kn2 base w8 W o1 o2 s1 s2 K1 K2) : Kn2 base w8 W.drew o1 o2 s1 s2 K1 K2 := ⟨h.low.drew, h.old, h.own1, h.own2, h.or1, h.or2, h.ne⟩
theorem ne_some {a : Nat} {o : Option Nat} (h : ∀ q, o = some q → a ≠ q) : some a ≠ o := fun e => h a e.symm rfl
theorem Kn2.app1 (h : Kn2 base w8 W o1 o2 s1 s2 K1 K2) (ho2 : ∀ q, o2 = some q → q < w8.heap.size) (hown : OwnL 36 lyC 5 base W' s1' (K1 ++ [y])) (hg : W.grownBy W' s1.ownBlock) (hB : Below base W W') (hor : ∀ q, s1'.ownBlock = some q → s1.ownBlock = some q ∨ W.heap.size ≤ q) :
    Kn2 base w8 W' o1 o2 s1' s2 (K1 ++ [y]) K2 := by
  have hz := h.low.size
  refine ⟨h.low.trans hB, fun b h1 h2 h3 => ?_, hown, ?_, fun q hq => ?_, h.or2, fun q hq => ?_⟩
  · rw [hg.block b (by omega) (fun e => ?_)]
    · exact h.old b h1 h2 h3
    · rcases h.or1 b e.symm with h4 | h4
      · exact h2 h4.symm
      · omega
  · refine h.own2.grown hg ?_
    cases hs : s2.ownBlock with
    | none => exact .inl rfl
    | some q => exact .inr (fun e => h.ne q e.symm hs)
  · rcases hor q hq with h4 | h4
    · exact h.or1 q h4
    · exact .inr (by omega)
  · rcases hor q hq with h4 | h4
    · exact h.ne q h4
    · intro e
      have := (h.own2.lt e).2
      omega
theorem Kn2.app2 (h : Kn2 base w8 W o1 o2 s1 s2 K1 K2) (hown : OwnL 36 lyC 5 base W' s2' (K2 ++ [y])) (hg : W.grownBy W' s2.ownBlock) (hB : Below base W W') (hor : ∀ q, s2'.ownBlock = some q → s2.ownBlock = some q ∨ W.heap.size ≤ q) :
    Kn2 base w8 W' o1 o2 s1 s2' K1 (K2 ++ [y]) := by
  have hz := h.low.size
  refine ⟨h.low.trans hB, fun b h1 h2 h3 => ?_, ?_, hown, h.or1, fun q hq => ?_, fun q hq e => ?_⟩
  · rw [hg.block b (by omega) (fun e => ?_)]
    · exact h.old b h1 h2 h3
    · rcases h.or2 b e.symm with h4 | h4
      · exact h3 h4.symm
      · omega
  · refine h.own1.grown hg ?_
    cases hs : s1.ownBlock with
    | none => exact .inl rfl
    | some q => exact .inr (fun e => h.ne q hs e.symm)
  · rcases hor q hq with h4 | h4
    · exact h.or2 q h4
    · exact .inr (by omega)
  · rcases hor q e with h4 | h4
    · exact h.ne q hq h4
    · have := (h.own1.lt hq).2
      omega
end

/-- The layouts so far: the program's K, the reference's K'. -/
def YIn (P : Nat → Prop) (y : Ly) : Prop := (0 < y.fields.length → ∀ b, y.sv.ownBlock = some b → P b) ∧ ∀ f ∈ y.fields, InT P f.ty
theorem YIn.mono {P P' : Nat → Prop} {y : Ly} (h : YIn P y) (hm : ∀ b, P b → P' b) : YIn P' y := ⟨fun hn b hb => hm b (h.1 hn b hb), fun f hf => InT.mono hm _ (h.2 f hf)⟩
theorem RdFs.keepY {w w' : World} {y : Ly} {P : Nat → Prop} (h : RdFs w y.sv y.fields) (hy : YIn P y) (hk : ∀ b, P b → b < w.heap.size → w'.heap[b]? = w.heap[b]?) : RdFs w' y.sv y.fields := by
  refine ⟨?_, fun f hf => (h.2 f hf).keepS hk _ (hy.2 f hf)⟩
  by_cases hn : 0 < y.fields.length
  · exact h.1.keepB fun b hs hlt => keep_of hlt (hk b (hy.1 hn b hs) hlt)
  · obtain ⟨A, c, e, h1, h2, _⟩ := h.1
    exact ⟨A, c, e, h1, h2, fun h3 => absurd h3 hn⟩
structure KnS (w wr : World) (K K' : List Ly) (AL AW : Option Addr) (cL cW : Nat) : Prop where
  low : Below w.heap.size w wr
  ownL : OwnL 36 lyC 5 w.heap.size wr (.slice AL K.length cL) K
  ownW : OwnL 36 lyC 5 w.heap.size wr (.slice AW K'.length cW) K'
  ne : ∀ q, (Value.slice AL K.length cL).ownBlock = some q → (Value.slice AW K'.length cW).ownBlock ≠ some q
  rd : ∀ y, y ∈ K ∨ y ∈ K' → RdFs wr y.sv y.fields
  ins : ∀ y, y ∈ K ∨ y ∈ K' → YIn (fun b => b < wr.heap.size ∧ some b ≠ (Value.slice AL K.length cL).ownBlock ∧ some b ≠ (Value.slice AW K'.length cW).ownBlock) y
  eqs : K.map erL = K'.map erL
  ok : KOk K ∧ KOk K'
theorem KnS.next {w wr wr' : World} {K K' : List Ly} {AL AW : Option Addr} {cL cW : Nat} (h : KnS w wr K K' AL AW cL cW) (hb : Below wr.heap.size wr wr') : KnS w wr' K K' AL AW cL cW := by
  have hz := hb.size
  exact ⟨below_step h.low hb, h.ownL.next hb, h.ownW.next hb, h.ne, fun y hy => (h.rd y hy).next hb, fun y hy => (h.ins y hy).mono fun b hb => ⟨by omega, hb.2⟩, h.eqs, h.ok⟩
theorem KnS.rdL {w wr : World} {K K' : List Ly} {AL AW : Option Addr} {cL cW : Nat} (h : KnS w wr K K' AL AW cL cW) : RdLs wr (.slice AL K.length cL) K := ⟨h.ownL.rdl lyC_len, fun y hy => h.rd y (.inl hy)⟩
theorem KnS.rdW {w wr : World} {K K' : List Ly} {AL AW : Option Addr} {cL cW : Nat} (h : KnS w wr K K' AL AW cL cW) : RdLs wr (.slice AW K'.length cW) K' := ⟨h.ownW.rdl lyC_len, fun y hy => h.rd y (.inr hy)⟩
/-- One layout more in each. -/
theorem KnS.step {w wr w8 wf : World} {K K' : List Ly} {AL AW AL' AW' : Option Addr} {cL cW cL' cW' : Nat} {y y' : Ly} (h : KnS w wr K K' AL AW cL cW) (h8 : Below wr.heap.size wr w8)
    (h2 : Kn2 w.heap.size w8 wf (Value.slice AL K.length cL).ownBlock (Value.slice AW K'.length cW).ownBlock (.slice AL' (K.length + 1) cL') (.slice AW' (K'.length + 1) cW') (K ++ [y]) (K' ++ [y']))
    (hy : RdFs w8 y.sv y.fields) (hy' : RdFs w8 y'.sv y'.fields) (iy : YIn (fun b => wr.heap.size ≤ b ∧ b < w8.heap.size) y) (iy' : YIn (fun b => wr.heap.size ≤ b ∧ b < w8.heap.size) y')
    (he : erL y = erL y') (hk : 0 ≤ y.size ∧ y.size ≤ 1048576 ∧ Al y.align) : KnS w wf (K ++ [y]) (K' ++ [y']) AL' AW' cL' cW' := by
  have z8 := h8.size
  have zf := h2.low.size
  have hl1 : (K ++ [y]).length = K.length + 1 := by simp
  have hl2 : (K' ++ [y']).length = K'.length + 1 := by simp
  have hle : ∀ q, (Value.slice AL K.length cL).ownBlock = some q → q < wr.heap.size := fun q hq => (h.ownL.lt hq).2
  have hwe : ∀ q, (Value.slice AW K'.length cW).ownBlock = some q → q < wr.heap.size := fun q hq => (h.ownW.lt hq).2
  have keep : ∀ b, b < w8.heap.size → some b ≠ (Value.slice AL K.length cL).ownBlock → some b ≠ (Value.slice AW K'.length cW).ownBlock → wf.heap[b]? = w8.heap[b]? := h2.old
  have inP : ∀ z, (z ∈ K ++ [y] ∨ z ∈ K' ++ [y']) → RdFs w8 z.sv z.fields ∧ YIn (fun b => b < w8.heap.size ∧ some b ≠ (Value.slice AL K.length cL).ownBlock ∧ some b ≠ (Value.slice AW K'.length cW).ownBlock) z := by
    have new : ∀ z, RdFs w8 z.sv z.fields → YIn (fun b => wr.heap.size ≤ b ∧ b < w8.heap.size) z → RdFs w8 z.sv z.fields ∧ YIn (fun b => b < w8.heap.size ∧ some b ≠ (Value.slice AL K.length cL).ownBlock ∧ some b ≠ (Value.slice AW K'.length cW).ownBlock) z := fun z hr hi =>
      ⟨hr, hi.mono fun b hb => ⟨hb.2, fun e => by have := hle b e.symm; omega, fun e => by have := hwe b e.symm; omega⟩⟩
    have old : ∀ z, z ∈ K ∨ z ∈ K' → RdFs w8 z.sv z.fields ∧ YIn (fun b => b < w8.heap.size ∧ some b ≠ (Value.slice AL K.length cL).ownBlock ∧ some b ≠ (Value.slice AW K'.length cW).ownBlock) z := fun z hz =>
      ⟨(h.rd z hz).next h8, (h.ins z hz).mono fun b hb => ⟨by omega, hb.2⟩⟩
    intro z hz
    rcases hz with hz | hz
    · rcases List.mem_append.1 hz with hz | hz
      · exact old z (.inl hz)
      · simp at hz; subst hz; exact new _ hy iy
    · rcases List.mem_append.1 hz with hz | hz
      · exact old z (.inr hz)
      · simp at hz; subst hz; exact new _ hy' iy'
  refine ⟨?_, by rw [hl1]; exact h2.own1, by rw [hl2]; exact h2.own2, by rw [hl1, hl2]; exact h2.ne, fun z hz => ?_, fun z hz => ?_, ?_, ?_⟩
  · exact h.low.trans ((h8.mono h.low.size).trans h2.low)
  · obtain ⟨g1, g2⟩ := inP z hz
    exact g1.keepY g2 fun b hb hlt => keep b hb.1 hb.2.1 hb.2.2
  · obtain ⟨g1, g2⟩ := inP z hz
    rw [hl1, hl2]
    refine g2.mono fun b hb => ⟨by omega, fun e => ?_, fun e => ?_⟩
    · rcases h2.or1 b e.symm with h4 | h4
      · exact hb.2.1 h4.symm
      · omega
    · rcases h2.or2 b e.symm with h4 | h4
      · exact hb.2.2 h4.symm
      · omega
  · rw [List.map_append, List.map_append, h.eqs, List.map_cons, List.map_cons, he]
  · have hk' : 0 ≤ y'.size ∧ y'.size ≤ 1048576 ∧ Al y'.align := by
      unfold erL at he
      injection he with _ he
      injection he with _ he
      injection he with e1 he
      injection he with e2 _
      rw [← e1, ← e2]
      exact hk
    refine ⟨fun z hz => ?_, fun z hz => ?_⟩
    · rcases List.mem_append.1 hz with hz | hz
      · exact h.ok.1 z hz
      · simp at hz; subst hz; exact hk
    · rcases List.mem_append.1 hz with hz | hz
      · exact h.ok.2 z hz
      · simp at hz; subst hz; exact hk'
theorem kn_cell {base : Nat} {w8 W : World} {o1 o2 : Option Nat} {s1 s2 : Value} {K1 K2 : List Ly} (h : Kn2 base w8 W o1 o2 s1 s2 K1 K2) {b : Nat} (hb : b < w8.heap.size) (h1 : some b ≠ o1) (h2 : some b ≠ o2) (o : Nat) : W.cell? ⟨b, o, none⟩ = w8.cell? ⟨b, o, none⟩ :=
  World.cell?_of_block (a := ⟨b, o, none⟩) (h.old b hb h1 h2)
theorem ly_news {W : World} {g : Nat} {cs : Array Value} {T : TypeId} {y : Ly} (h : W.heap[g]? = some (.cells cs T (0, 0))) (e : lyC y = cs.toList) (j : Nat) (u : Value) (hu : (lyC y)[j]? = some u) : W.cell? ((⟨g, 0, none⟩ : Addr).add j) = some u := by
  rw [add_at, Lib.cell_of_heap h, Nat.zero_add, ← hu, e]
  simp
end Go.Proofs.YteeojgepgjndgaaDoor
