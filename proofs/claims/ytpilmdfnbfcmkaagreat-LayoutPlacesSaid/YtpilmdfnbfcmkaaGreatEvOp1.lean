/-
  The operations that read no memory: what the reckoner yields is what the program yields. No program in sight.
-/
import Derived.Test.YtpilmdfnbfcmkaaGreatEvMem
import Derived.Great.BuildSlice
namespace Go.Proofs.YtpilmdfnbfcmkaaGreat.Ev
set_option linter.unusedVariables false
set_option linter.unusedSimpArgs false

noncomputable def look (env : L2) : Operand → Option Value
  | .tmp t => findT env t
  | .const v => if groundB v = true then some v else none
  | .global _ => none
  | .func f => some (.func (.func f) ⟨[]⟩ ⟨[]⟩)
/-- the frame shows an operation what the reckoner's shows -/
def Sees (ρ : Ren) (env : L2) (a : Act) (op : Op) : Prop := ∀ x v, x ∈ op.operands → look env x = some v → VR ρ v (a.eval x)
/-- where a new block may lie -/
def NewAt (w w' : World) (r : Rn) (b : Bk) : Prop := (∃ obj ext, w' = { w with heap := w.heap.push obj } ∧ r = ⟨w.heap.size, 0, ext⟩) ∨ (w' = w ∧ ¬ notTail b)
/-- an operation that reads no memory and makes no block -/
def PureS (P : Program) (op : Op) (env : L2) (v : Value) : Prop :=
  ∀ (ρ : Ren) (w : World) (o : Oper) (a : Act), o.op = op → Sees ρ env a op → ∃ v', VR ρ v v' ∧ (execOp a.eval o).run P w = .ok (.value v') w
/-- one that makes block b at number L -/
def MakeS (P : Program) (op : Op) (env : L2) (L : Nat) (v : Value) (b : Bk) : Prop :=
  ∀ (ρ : Ren) (w : World) (o : Oper) (a : Act), o.op = op → Sees ρ env a op → ρ L = none →
    ∃ v' w' r, VR (ρ.put L r) v v' ∧ BR (ρ.put L r) w' r b ∧ NewAt w w' r b ∧ (execOp a.eval o).run P w = .ok (.value v') w'
/-- one that only reads -/
def ReadS (P : Program) (op : Op) (env : L2) (m : Mem) (v : Value) : Prop :=
  ∀ (ρ : Ren) (w : World) (o : Oper) (a : Act), o.op = op → SeeF m.heap.find ρ w → Sees ρ env a op → ∃ v', VR ρ v v' ∧ (execOp a.eval o).run P w = .ok (.value v') w
/-- behind it -/
structure OpS (P : Program) (op : Op) (env : L2) (m : Mem) (v : Value) (m' : Mem) : Prop where
  nx : m.next ≤ m'.next
  run : ∀ (ρ : Ren) (w : World) (o : Oper) (a : Act) (K : Act → World → Prop) (Q : Exit → Act → World → Prop), o.op = op → RelF m.heap.find ρ w → Free ρ m m' → Sees ρ env a op →
    (∀ ρ' v' w', VR ρ' v v' → RelF m'.heap.find ρ' w' → EX m ρ w m' ρ' w' → K (a.put o.dst v') w') → o.wp P a w K Q

section
variable {P : Program} {T : Tab} {call : CallF} {env : L2} {m : Mem} {k : K} {a : Value} {mm : Mem} {op : Op}
theorem wp_value {o : Oper} {c : Act} {w w' : World} {v : Value} {K : Act → World → Prop} {Q : Exit → Act → World → Prop} (h : (execOp c.eval o).run P w = .ok (.value v) w') (hk : K (c.put o.dst v) w') : o.wp P c w K Q := by
  unfold Oper.wp
  rw [h]
  exact hk
theorem wp_skip' {o : Oper} {c : Act} {w w' : World} {K : Act → World → Prop} {Q : Exit → Act → World → Prop} (h : (execOp c.eval o).run P w = .ok .skip w') (hk : K (c.put o.dst undef) w') : o.wp P c w K Q := by
  unfold Oper.wp
  rw [h]
  exact hk
theorem PureS.ops {v : Value} (h : PureS P op env v) (m : Mem) : OpS P op env m v m :=
  ⟨Nat.le_refl _, fun ρ w o c K Q ho hR _ hS hK => by
    obtain ⟨v', h1, h2⟩ := h ρ w o c ho hS
    exact wp_value h2 (hK ρ v' w h1 hR (EX.refl _ _ _))⟩
theorem ReadS.ops {m : Mem} {v : Value} (h : ReadS P op env m v) : OpS P op env m v m :=
  ⟨Nat.le_refl _, fun ρ w o c K Q ho hR _ hS hK => by
    obtain ⟨v', h1, h2⟩ := h ρ w o c ho hR.see hS
    exact wp_value h2 (hK ρ v' w h1 hR (EX.refl _ _ _))⟩
theorem MakeS.ops {L : Nat} {v : Value} {b : Bk} (h : MakeS P op env L v b) {m m' : Mem} (hL : m.next = L) (hn : m'.next = L + 1) (hf : ∀ j, m'.heap.find j = if j = L then some b else m.heap.find j) : OpS P op env m v m' := by
  subst hL
  refine ⟨by omega, fun ρ w o c K Q ho hR hF hS hK => ?_⟩
  have hfree : ρ m.next = none := hF _ (Nat.le_refl _) (by omega)
  obtain ⟨v', w', r, h1, h2, h3, h4⟩ := h ρ w o c ho hS hfree
  refine wp_value h4 ?_
  have hX : ∀ L b', m'.heap.find L = some b' → (L = m.next ∧ b' = b) ∨ (L ≠ m.next ∧ m.heap.find L = some b') := fun L b' hb => by
    rw [hf] at hb
    split at hb
    · cases hb; exact .inl ⟨‹_›, rfl⟩
    · exact .inr ⟨‹_›, hb⟩
  have key : RelF m'.heap.find (ρ.put m.next r) w' ∧ EX m ρ w m' (ρ.put m.next r) w' := by
    refine stepR hR m.next b r (Ren.put_sub hfree) (Ren.put_dom (Nat.le_refl _) (by omega)) hX (.inr ⟨Nat.le_refl _, by omega⟩) Ren.put_same h2 ?_ ?_ ?_ (by rcases h3 with ⟨obj, ext, rfl, rfl⟩ | ⟨rfl, _⟩ <;> exact ⟨rfl, rfl, rfl⟩)
    · rcases h3 with ⟨obj, ext, rfl, rfl⟩ | ⟨rfl, _⟩
      · simp
      · exact Nat.le_refl _
    · intro x hx _
      rcases h3 with ⟨obj, ext, rfl, rfl⟩ | ⟨rfl, _⟩
      · simp only [Array.getElem?_push]
        rw [if_neg (by omega)]
      · rfl
    · intro hn
      rcases h3 with ⟨obj, ext, rfl, rfl⟩ | ⟨rfl, h3⟩
      · exact .inl (Nat.le_refl _)
      · exact absurd hn h3
  exact hK _ _ _ h1 key.1 key.2

theorem evalO_ok {x : Operand} {k : Value → Ans} (h : evalO x env k = .ok a mm) : ∃ v, look env x = some v ∧ k v = .ok a mm := by
  cases x with
  | tmp t => exact getT_ok h
  | const v =>
    obtain ⟨h1, h2⟩ := iteB_yes (show iteB (groundB v) (.no 5) (k v) = .ok a mm from h)
    exact ⟨v, by simp [look, h1], h2⟩
  | global g => cases h
  | func f => exact ⟨_, rfl, h⟩
theorem evalL_ok : ∀ {l : List Operand} {k : List Value → Ans}, evalL env l k = .ok a mm → ∃ vs, vs.length = l.length ∧ (∀ (i : Nat) x, l[i]? = some x → ∃ v, vs[i]? = some v ∧ look env x = some v) ∧ k vs = .ok a mm
  | [], k, h => ⟨[], rfl, fun i x hx => by simp at hx, h⟩
  | x :: l, k, h => by
    obtain ⟨v, h1, h2⟩ := evalO_ok (show evalO x env (fun v => evalL env l (fun vs => k (v :: vs))) = .ok a mm from h)
    obtain ⟨vs, h3, h4, h5⟩ := evalL_ok h2
    refine ⟨v :: vs, by simp [h3], fun i y hy => ?_, h5⟩
    cases i with
    | zero => simp at hy; subst hy; exact ⟨v, rfl, h1⟩
    | succ i => simpa using h4 i y (by simpa using hy)
theorem evalL_sees {l : List Operand} {vs : List Value} {ρ : Ren} {c : Act} (hl : vs.length = l.length) (h : ∀ (i : Nat) x, l[i]? = some x → ∃ v, vs[i]? = some v ∧ look env x = some v)
    (hS : ∀ x v, x ∈ l → look env x = some v → VR ρ v (c.eval x)) : LR ρ vs (l.map c.eval) :=
  LR.ofGet (by simp [hl]) fun i v hv => by
    have hi : i < l.length := by rw [← hl]; exact (List.getElem?_eq_some_iff.1 hv).1
    obtain ⟨v', h1, h2⟩ := h i l[i] (List.getElem?_eq_getElem hi)
    rw [hv] at h1; cases h1
    exact ⟨c.eval l[i], by simp [hi], hS _ _ (List.getElem_mem hi) h2⟩
def LookO (env : L2) (x : Option Operand) (v : Option Value) : Prop := match x with
  | none => v = none
  | some x => ∃ y, look env x = some y ∧ v = some y
theorem evalOO_ok {x : Option Operand} {k : Option Value → Ans} (h : evalOO env x k = .ok a mm) : ∃ v, k v = .ok a mm ∧ LookO env x v := by
  cases x with
  | none => exact ⟨none, h, rfl⟩
  | some x =>
    obtain ⟨v, h1, h2⟩ := evalO_ok (show evalO x env (fun v => k (some v)) = .ok a mm from h)
    exact ⟨some v, h2, v, h1, rfl⟩

/-! the operations one by one -/
theorem mv_ok {x : Operand} (hx : op.operands = #[x]) (hop : ∀ (o : Oper) (c : Act), o.op = op → execOp c.eval o = .pure (.value (c.eval x))) (h : mvOp x T call env m k = .ok a mm) : ∃ v, k v m = .ok a mm ∧ PureS P op env v := by
  obtain ⟨v, h1, h2⟩ := evalO_ok h
  exact ⟨v, h2, fun ρ w o c ho hS => ⟨c.eval x, hS x v (by simp [hx]) h1, by rw [hop o c ho]; rfl⟩⟩
theorem pick_ok {x y z : Operand} (h : pickOp x y z T call env m k = .ok a mm) : ∃ v, k v m = .ok a mm ∧ PureS P (.pick x y z) env v := by
  obtain ⟨v, h1, h2⟩ := evalO_ok h
  obtain ⟨b, rfl, h3⟩ := asBool_ok h2
  have key : ∀ t u, look env t = some u → (t = if b = true then y else z) → k u m = .ok a mm → ∃ v, k v m = .ok a mm ∧ PureS P (.pick x y z) env v := fun t u hl ht hk =>
    ⟨u, hk, fun ρ w o c ho hS => by
      have hb := hS x _ (by simp [Op.operands]) h1
      have ht' := hS t u (by subst ht; cases b <;> simp [Op.operands]) hl
      refine ⟨c.eval t, ht', ?_⟩
      subst ht
      cases hbe : c.eval x <;> rw [hbe] at hb <;> cases hb
      unfold execOp
      rw [ho]
      simp only [hbe, asBool, Sem.run_bind, Sem.run_pure, Result.andThen_ok]
      cases b <;> rfl⟩
  rcases iteB_ok h3 with ⟨rfl, h4⟩ | ⟨rfl, h4⟩
  · obtain ⟨u, h5, h6⟩ := evalO_ok h4
    exact key y u h5 rfl h6
  · obtain ⟨u, h5, h6⟩ := evalO_ok h4
    exact key z u h5 rfl h6
/-- a new variable -/
theorem BR_var {ρ : Ren} {w : World} {t : TypeId} {cs cs' : List Value} (h : LR ρ cs cs') : BR ρ { w with heap := w.heap.push (.cells cs'.toArray t) } ⟨w.heap.size, 0, 0⟩ (.row (.node .leaf (some cs) .leaf) cs.length 1 t false) := by
  refine ⟨cs'.toArray, by simp, fun i c hc => ?_, fun off v hv => ?_, fun _ => rfl, by simp [h.length]⟩
  · cases i with
    | zero => cases hc; rfl
    | succ i => simp only [PT.find] at hc; split at hc <;> cases hc
  · unfold cellAt at hv
    cases hi : off / cs.length with
    | zero =>
      rw [hi] at hv
      have hv' : cs[off % cs.length]? = some v := hv
      have hlt : off < cs.length := by
        have h1 := (List.getElem?_eq_some_iff.1 hv').1
        have h2 := Nat.div_add_mod off cs.length
        rw [hi, Nat.mul_zero] at h2
        omega
      rw [Nat.mod_eq_of_lt hlt] at hv'
      obtain ⟨v', h1, h2⟩ := h.get hv'
      exact ⟨v', by simpa using h1, h2⟩
    | succ i => rw [hi] at hv; simp only [PT.find] at hv; split at hv <;> cases hv
theorem LR.put {ρ : Ren} {L : Nat} {r : Rn} (hL : ρ L = none) {l l' : List Value} (h : LR ρ l l') : LR (ρ.put L r) l l' := h.mono (Ren.put_sub hL)
theorem newVar_ok {t : TypeId} {cs : List Value} (h : Ev.newVar m t cs k = .ok a mm) : ∃ m', k (.pointer (some ⟨m.next, 0, none⟩)) m' = .ok a mm ∧ m'.next = m.next + 1 ∧
    ∀ j, m'.heap.find j = if j = m.next then some (.row (.node .leaf (some cs) .leaf) cs.length 1 t false) else m.heap.find j := new_ok h
theorem box_ok {t : TypeId} {x : Operand} (h : boxOp t x T call env m k = .ok a mm) : ∃ v b m', k v m' = .ok a mm ∧ MakeS P (.box t x) env m.next v b ∧ m'.next = m.next + 1 ∧ ∀ j, m'.heap.find j = if j = m.next then some b else m.heap.find j := by
  obtain ⟨u, h1, h2⟩ := evalO_ok h
  obtain ⟨m', h3, h4, h5⟩ := newVar_ok h2
  refine ⟨_, _, m', h3, fun ρ w o c ho hS hL => ?_, h4, h5⟩
  have hv := hS x u (by simp [Op.operands]) h1
  refine ⟨.pointer (some ⟨w.heap.size, 0, none⟩), _, ⟨w.heap.size, 0, 0⟩, .ptr (r := ⟨w.heap.size, 0, 0⟩) Ren.put_same, BR_var (hv.cells.put hL), .inl ⟨_, 0, rfl, rfl⟩, ?_⟩
  unfold execOp
  rw [ho]
  simp only [Instr.box, newVar, newRow, newObj, Sem.run_bind, Result.andThen_ok, Sem.run_pure]
  rfl
theorem alloc_ok (hT : TabOk P T) {t : TypeId} (h : allocOp t T call env m k = .ok a mm) : ∃ v b m', k v m' = .ok a mm ∧ MakeS P (.alloc t) env m.next v b ∧ m'.next = m.next + 1 ∧ ∀ j, m'.heap.find j = if j = m.next then some b else m.heap.find j := by
  obtain ⟨d, hd, h1⟩ := ty_ok h
  obtain ⟨z, hz, h2⟩ := withO_ok h1
  obtain ⟨hg, h3⟩ := iteB_yes h2
  obtain ⟨m', h4, h5, h6⟩ := newVar_ok h3
  refine ⟨_, _, m', h4, fun ρ w o c ho hS hL => ?_, h5, h6⟩
  have hcl : cellsL z = z.cells.toList := by unfold cellsL Value.cells; cases z <;> rfl
  refine ⟨.pointer (some ⟨w.heap.size, 0, none⟩), _, ⟨w.heap.size, 0, 0⟩, .ptr (r := ⟨w.heap.size, 0, 0⟩) Ren.put_same, BR_var (LR.ground hg), .inl ⟨_, 0, rfl, rfl⟩, ?_⟩
  unfold execOp
  rw [ho]
  simp only [Instr.alloc, newVar, newRow, newObj, Sem.run_bind, hT.zero hd hz w, Result.andThen_ok, Sem.run_pure]
  rw [hcl]
  rfl
theorem nil_ok {x : Operand} (h : nilOp x T call env m k = .ok a mm) : ∃ v, k v m = .ok a mm ∧ PureS P (.nilCheck x) env v := by
  obtain ⟨v, h1, h2⟩ := evalO_ok h
  obtain ⟨b, o, rfl, h3⟩ := asPtr_ok h2
  refine ⟨_, h3, fun ρ w o c ho hS => ?_⟩
  have hv := hS x _ (by simp [Op.operands]) h1
  refine ⟨c.eval x, hv, ?_⟩
  cases hbe : c.eval x <;> rw [hbe] at hv <;> cases hv
  unfold execOp
  rw [ho]
  simp only [hbe]
  rfl
theorem iface_ok (hT : TabOk P T) {t : TypeId} {x : Operand} (h : ifaceOp t x T call env m k = .ok a mm) : ∃ v, k v m = .ok a mm ∧ PureS P (.makeInterface t x) env v := by
  obtain ⟨d, hd, h1⟩ := ty_ok h
  obtain ⟨hb, h2⟩ := iteB_not h1
  obtain ⟨v, h3, h4⟩ := evalO_ok h2
  refine ⟨_, h4, fun ρ w o c ho hS => ?_⟩
  have hv := hS x _ (by simp [Op.operands]) h3
  refine ⟨_, .iface t hv, ?_⟩
  unfold execOp
  rw [ho]
  simp only [Instr.makeInterface, Sem.run_bind, hT.under hd w, Result.andThen_ok]
  cases hde : d.desc <;> first | rfl | (rw [hde] at hb; cases hb; done)
theorem func_ok {fn : Fn} {first cap : Array Operand} (h : funcOp fn first cap T call env m k = .ok a mm) : ∃ v, k v m = .ok a mm ∧ PureS P (.makeFunc fn first cap) env v := by
  obtain ⟨vs, h1, h2, h3⟩ := evalL_ok h
  obtain ⟨us, h4, h5, h6⟩ := evalL_ok h3
  refine ⟨_, h6, fun ρ w o c ho hS => ?_⟩
  have e1 := evalL_sees (c := c) h1 h2 (fun x v hx => hS x v (by simp only [Op.operands, Array.mem_append]; exact .inl (Array.mem_toList_iff.1 hx)))
  have e2 := evalL_sees (c := c) h4 h5 (fun x v hx => hS x v (by simp only [Op.operands, Array.mem_append]; exact .inr (Array.mem_toList_iff.1 hx)))
  refine ⟨.func fn (first.map c.eval) (cap.map c.eval), .func fn (by simpa using e1) (by simpa using e2), ?_⟩
  unfold execOp
  rw [ho]
  rfl
theorem extract_ok {x : Operand} {i : Nat} (h : extractOp x i T call env m k = .ok a mm) : ∃ v, k v m = .ok a mm ∧ PureS P (.extract x i) env v := by
  obtain ⟨v, h1, h2⟩ := evalO_ok h
  obtain ⟨cs, rfl, h3⟩ := asTup_ok h2
  obtain ⟨u, h4, h5⟩ := withO_ok h3
  rw [nth_eq] at h4
  refine ⟨u, h5, fun ρ w o c ho hS => ?_⟩
  have hv := hS x _ (by simp [Op.operands]) h1
  generalize hbe : c.eval x = y at hv
  cases hv with
  | tuple hl =>
    rename_i cs'
    obtain ⟨u', g1, g2⟩ := hl.get h4
    refine ⟨u', g2, ?_⟩
    unfold execOp
    rw [ho]
    rw [Array.getElem?_toList] at g1
    simp only [Instr.extract, hbe, g1, Sem.run_bind, Sem.run_pure, Result.andThen_ok]
end
end Go.Proofs.YtpilmdfnbfcmkaaGreat.Ev
