/-
  Builtins and calls; all operations together. No program in sight.
-/
import Derived.Test.YtpilmdfnbfcmkaaGreatEvOp6
namespace Go.Proofs.YtpilmdfnbfcmkaaGreat.Ev
set_option linter.unusedVariables false
set_option linter.unusedSimpArgs false

/-- what a call comes to -/
def CallS (P : Program) (f : FuncId) (args : List Value) (m : Mem) (v : Value) (m' : Mem) : Prop :=
  m.next ≤ m'.next ∧ ∀ (ρ : Ren) (w : World) (args' : Array Value), RelF m.heap.find ρ w → Free ρ m m' → LR ρ args args'.toList →
    Calls P f args' w fun e w' => ∃ ρ' v', e = .returned v' ∧ VR ρ' v v' ∧ RelF m'.heap.find ρ' w' ∧ EX m ρ w m' ρ' w'
/-- the reckoner's calls are the program's -/
def CallOk (P : Program) (call : CallF) : Prop := ∀ (f : FuncId) (args : List Value) (m : Mem) (k : K) (a : Value) (mm : Mem), call f args m k = .ok a mm → ∃ v m', k v m' = .ok a mm ∧ (∃ fn, P.funcs[f]? = some fn ∧ fn.body.isSome = true ∧ (fn.name == "runtime.NumGoroutine") = false) ∧ CallS P f args m v m'

section
variable {P : Program} {T : Tab} {call : CallF} {env : L2} {m : Mem} {k : K} {a : Value} {mm : Mem}
theorem append_ok (hT : TabOk P T) {t t' : TypeId} {s x : Value} (h : appendK T t t' s x m k = .ok a mm) : ∃ v m', k v m' = .ok a mm ∧ AppS P t t' s x m v m' := by
  obtain ⟨dx, hdx, h1⟩ := ty_ok h
  obtain ⟨hq, h2⟩ := iteB_yes h1
  obtain ⟨d, hd, h3⟩ := ty_ok h2
  obtain ⟨e, he, h4⟩ := asSliceT_ok h3
  obtain ⟨de, hde, h5⟩ := ty_ok h4
  obtain ⟨z, hz, h6⟩ := withO_ok h5
  obtain ⟨hb, h7⟩ := iteB_yes h6
  rw [Bool.and_eq_true] at hb
  have hs : 0 < de.size := by simpa [Nat.blt_eq] using hb.1
  have hzs : z.cells.size = de.size := by rw [← Nat.eq_of_beq_eq_true hb.2, cellsL_eq, Array.length_toList]
  have hseq : (∃ e', dx.desc = .slice e') ∨ dx.desc = .string := by
    unfold isSeq at hq
    split at hq
    · exact .inl ⟨_, ‹_›⟩
    · exact .inr ‹_›
    · cases hq
  obtain ⟨n, new, h8, h9⟩ := added_ok h7
  obtain ⟨hu, _, i, hi, i1, i2, i3⟩ := hT.ty e de hde
  have ht : P.underlying t = some (.slice e) := by rw [← he]; exact (hT.ty t d hd).1
  have hu' := (hT.ty t' dx hdx).1
  have nothing : ∀ {A : Option Addr} {len cap : Nat} {w : World} {ty : TypeId} {x' : Value}, len ≤ cap → (∀ w2, (Builtin.lenOf x').run P w2 = .ok 0 w2) → (Builtin.firstCells de.size 0 x').run P w = .ok #[] w →
      (Builtin.append_ #[t, t'] ty #[.slice A len cap, x']).run P w = .ok (.slice A len cap) w := by
    intro A len cap w ty x' hle hl hf
    rw [← i1] at hf
    cases A with
    | none =>
      rcases hseq with ⟨e', hse⟩ | hse <;> rw [hse] at hu' <;> simp [Builtin.append_, run_underlying ht, run_underlying hu', sizeOf, typeInfo, hi, hl, hle, hf]
    | some ad =>
      exact run_append_here (news := []) ht hu' hseq hi hl hf (by omega) rfl
  split at h8
  · -- nil
    cases n with
    | zero =>
      refine ⟨_, m, h8, Nat.le_refl _, fun ρ w ty s' x' hR hF hS hX => ?_⟩
      obtain ⟨a1, new', a2, a3, a4⟩ := h9 ρ w x' hR hX
      cases hS
      have : new = [] := by cases new with | nil => rfl | cons _ _ => simp at a1
      subst this
      cases a2
      exact ⟨ρ, w, _, .slice0 0 0, hR, EX.refl _ _ _, nothing (Nat.le_refl _) a3 (a4 w rfl)⟩
    | succ n =>
      obtain ⟨hbb, h10⟩ := iteB_yes (show iteB (Nat.ble (Nat.add (Nat.mul (n + 1) de.bytes) (n + 1)) 4294967296) (.no 120) (Ev.newRow m e de.size (n + 1) new true (fun L m' => k (.slice (some ⟨L, 0, none⟩) (n + 1) (n + 1)) m')) = .ok a mm from h8)
      have hbytes : (n + 1) * de.bytes + (n + 1) ≤ 4294967296 := Nat.le_of_ble_eq_true hbb
      obtain ⟨els, m', h11, h12, h13, h14, h15, h16⟩ := newRow_ok hs h10
      refine ⟨_, m', h11, by omega, fun ρ w ty s' x' hR hF hS hX => ?_⟩
      have hfree : ρ m.next = none := hF _ (Nat.le_refl _) (by omega)
      obtain ⟨a1, new', a2, a3, a4⟩ := h9 ρ w x' hR hX
      cases hS
      have hn2 := a4 w.drew rfl
      rw [← i1] at hn2
      have hrun := run_append_new (w := w) (ty := ty) (base := none) (sLen := 0) (sCap := 0) (olds := []) ht hu' hseq hi (i3.trans hz) (by rfl) a3 hn2 (by omega) (by rw [i2, Nat.zero_add]; exact hbytes)
      rw [Nat.zero_add, List.nil_append] at hrun
      have hge := grownCap_ge w (n + 1) 0 e
      obtain ⟨g1, g2⟩ := app_new hR hfree rfl (fun _ _ h => h) h12 h13 h14 h15 h16 a2 hzs hge
      refine ⟨_, _, _, ?_, g1, g2, hrun⟩
      have := VR.slice (ρ := ρ.put m.next ⟨w.heap.size, 0, grownCap w (n + 1) 0 e - (n + 1)⟩) (L := m.next) (o := 0) (r := ⟨w.heap.size, 0, grownCap w (n + 1) 0 e - (n + 1)⟩) (n + 1) (n + 1) Ren.put_same
      rw [show n + 1 + (grownCap w (n + 1) 0 e - (n + 1)) = grownCap w (n + 1) 0 e by omega] at this
      exact this
  · rename_i b o len cap
    cases n with
    | zero =>
      obtain ⟨hbb, h10⟩ := iteB_yes (show iteB (Nat.ble len cap) (.no 157) (k (.slice (some ⟨b, o, none⟩) len cap) m) = .ok a mm from h8)
      have hle : len ≤ cap := Nat.le_of_ble_eq_true hbb
      refine ⟨_, m, h10, Nat.le_refl _, fun ρ w ty s' x' hR hF hS hX => ?_⟩
      obtain ⟨a1, new', a2, a3, a4⟩ := h9 ρ w x' hR hX
      have : new = [] := by cases new with | nil => rfl | cons _ _ => simp at a1
      subst this
      cases a2
      cases hS with
      | slice n0 c0 hr => exact ⟨ρ, w, _, .slice len cap hr, hR, EX.refl _ _ _, nothing (by omega) a3 (a4 w rfl)⟩
    | succ n => exact grow_ok hT hd he hdx hseq hde hz hs hzs (Nat.succ_pos n) h9 h8
  · cases h8
theorem list_array {α : Type} {l : List α} {A : Array α} (h : A.toList = l) : A = l.toArray := by subst h; simp
theorem run_enter {P : Program} {f : FuncId} {fn : Func} (hf : P.funcs[f]? = some fn) (hname : (fn.name == "runtime.NumGoroutine") = false) (hb : fn.body.isSome = true) (args : Array Value) (w : World) :
    (callFunc f args).run P w = .ok (.enter f args) w := by
  have h1 : fn.name ≠ "runtime.NumGoroutine" := by simpa using hname
  have h2 : ¬ fn.body = none := by intro h; rw [h] at hb; cases hb
  simp [callFunc, hf, h1, h2]
theorem call_ok (hT : TabOk P T) (hC : CallOk P call) {c : Call} (h : callOp c T call env m k = .ok a mm) : ∃ v m', k v m' = .ok a mm ∧ OpS P (.call c) env m v m' ∧ (clsOf (.call c) = 1 → m' = m ∧ ReadS P (.call c) env m v) := by
  have opnd : ∀ x ∈ c.args.toList, x ∈ (Op.call c).operands := fun x hx => by
    simp only [Op.operands, Call.operands, Array.mem_append]
    exact .inr (Array.mem_toList_iff.1 hx)
  unfold callOp at h
  split at h
  · rename_i b hcal
    obtain ⟨args, h1, h2, h3⟩ := evalL_ok h
    have sees : ∀ {ρ : Ren} {ac : Act}, Sees ρ env ac (.call c) → LR ρ args (c.args.toList.map ac.eval) := fun hS => evalL_sees h1 h2 fun x v hx => hS x v (opnd x hx)
    have read : ∀ v, k v m = .ok a mm → (∀ (ρ : Ren) (w : World) (ty : TypeId) (cs : Array Bool) (args' : Array Value), SeeF m.heap.find ρ w → LR ρ args args'.toList → ∃ v', VR ρ v v' ∧ (Go.builtin b c.argTypes ty cs args').run P w = .ok (.value v') w) → ∃ v m', k v m' = .ok a mm ∧ OpS P (.call c) env m v m' ∧ (clsOf (.call c) = 1 → m' = m ∧ ReadS P (.call c) env m v) := by
      intro v hk hh
      have hrd : ReadS P (.call c) env m v := fun ρ w o ac ho hR hS => by
        obtain ⟨v', g1, g2⟩ := hh ρ w o.type _ (c.args.map ac.eval) hR (by simpa using sees hS)
        exact ⟨v', g1, builtin_run hcal ho g2⟩
      exact ⟨v, m, hk, hrd.ops, fun _ => ⟨rfl, hrd⟩⟩
    unfold builtinK at h3
    split at h3
    · rename_i t ts x xs hts
      obtain ⟨v, h4, h5⟩ := len_ok hT h3
      refine read v h4 fun ρ w ty cs args' hR hl => ?_
      generalize hal : args'.toList = l' at hl
      cases hl with
      | cons hx hxs =>
        obtain ⟨v', g1, g2⟩ := h5 ρ w _ c.argTypes ty args' hR hx (by rw [← Array.getElem?_toList, hts]; rfl) (by rw [← Array.getElem?_toList, hal]; rfl)
        refine ⟨v', g1, ?_⟩
        simp only [Go.builtin, Sem.run_bind, g2, Result.andThen_ok]
        rfl
    · rename_i t t' s x hts
      obtain ⟨v, m', h4, h5⟩ := append_ok hT h3
      refine ⟨v, m', h4, ⟨h5.1, fun ρ w o ac K Q ho hR hF hS hK => ?_⟩, fun h => by cases c; cases hcal; cases h⟩
      have hl := sees hS
      generalize hal : c.args.toList.map ac.eval = l' at hl
      cases hl with
      | cons hs hxs =>
        cases hxs with
        | cons hx hr =>
          cases hr
          rename_i s' x'
          have ha : c.args.map ac.eval = [s', x'].toArray := list_array (by simpa using hal)
          have ht : c.argTypes = [t, t'].toArray := list_array hts
          obtain ⟨ρ', w', v', g1, g2, g3, g4⟩ := h5.2 ρ w o.type s' x' hR hF hs hx
          refine wp_value (builtin_run hcal ho (nx := .ok (.value v') w') ?_) (hK ρ' v' w' g1 g2 g3)
          simp only [Go.builtin, ha, ht, Sem.run_bind, g4, Result.andThen_ok]
          rfl
    · rename_i x xs hts
      obtain ⟨v, h4, h5⟩ := mm_ok (P := P) (g := Go.Builtin.max2) (fun j a' b' j' c h => maxF_ok h) h3
      refine read v h4 fun ρ w ty cs args' hR hl => ?_
      generalize hal : args'.toList = l' at hl
      cases hl with
      | cons hx hxs =>
        obtain ⟨v', g1, g2⟩ := h5 ρ w _ _ hx hxs
        refine ⟨v', g1, ?_⟩
        simp only [Go.builtin, Go.Builtin.max_, hal, Sem.run_bind, g2, Result.andThen_ok]
        rfl
    · rename_i x xs hts
      obtain ⟨v, h4, h5⟩ := mm_ok (P := P) (g := Go.Builtin.min2) (fun j a' b' j' c h => minF_ok h) h3
      refine read v h4 fun ρ w ty cs args' hR hl => ?_
      generalize hal : args'.toList = l' at hl
      cases hl with
      | cons hx hxs =>
        obtain ⟨v', g1, g2⟩ := h5 ρ w _ _ hx hxs
        refine ⟨v', g1, ?_⟩
        simp only [Go.builtin, Go.Builtin.min_, hal, Sem.run_bind, g2, Result.andThen_ok]
        rfl
    · cases h3
  · rename_i f hcal
    obtain ⟨fv, h1, h2⟩ := evalO_ok h
    obtain ⟨g, x, y, rfl, h3⟩ := asFn_ok h2
    obtain ⟨args, h4, h5, h6⟩ := evalL_ok h3
    rw [appK_eq, appK_eq] at h6
    obtain ⟨v, m', h7, ⟨fn, hfn, hbody, hname⟩, h8⟩ := hC _ _ _ _ _ _ h6
    refine ⟨v, m', h7, ⟨h8.1, fun ρ w o ac K Q ho hR hF hS hK => ?_⟩, fun h => by cases c; cases hcal; cases h⟩
    have hf := hS f _ (by simp [Op.operands, Call.operands, hcal]) h1
    have hl : LR ρ args (c.args.toList.map ac.eval) := evalL_sees h4 h5 fun x v hx => hS x v (opnd x hx)
    generalize hfe : ac.eval f = f' at hf
    cases hf with
    | func fn0 hx hy =>
      rename_i x' y'
      have hcall := h8.2 ρ w (x' ++ c.args.map ac.eval ++ y') hR hF (by simpa [List.append_assoc] using hx.app (hl.app hy))
      have hrun : (execOp ac.eval o).run P w = .ok (.enter g (x' ++ c.args.map ac.eval ++ y')) w := by
        have hcf : ∀ A, (callFunc g A).run P w = .ok (.enter g A) w := fun A => run_enter hfn hname hbody A w
        unfold execOp
        rw [ho]
        simp only [resolve, hcal, hfe, Deferred.ofValue, Sem.run_bind, Sem.run_pure, Result.andThen_ok, invoke, hcf]
      unfold Oper.wp
      rw [hrun]
      show Calls P g _ w _
      refine Calls.mono hcall fun e w' ⟨ρ', v', he, q1, q2, q3⟩ => ?_
      subst he
      exact hK ρ' v' w' q1 q2 q3
  · cases h
end
end Go.Proofs.YtpilmdfnbfcmkaaGreat.Ev
