/-
  Code: what the reckoner's frame becomes, the program's becomes. No program in sight.
-/
import Derived.Test.YtpilmdfnbfcmkaaGreatEvOp8
import Derived.LoopN
import Derived.Orders
namespace Go.Proofs.YtpilmdfnbfcmkaaGreat.Ev
set_option linter.unusedVariables false
set_option linter.unusedSimpArgs false

/-- the program's frame holds what the reckoner's holds -/
structure FrR (ρ : Ren) (N : Nat) (env : L2) (a : Act) : Prop where
  size : N ≤ a.tmps.size
  dfr : a.defers = []
  val : ∀ t v, findT env t = some v → ∃ v', a.tmps[t]? = some v' ∧ VR ρ v v'
theorem FrR.eval {ρ : Ren} {N : Nat} {env : L2} {a : Act} (h : FrR ρ N env a) {x : Operand} {v : Value} (hx : look env x = some v) : VR ρ v (a.eval x) := by
  cases x with
  | tmp t =>
    obtain ⟨v', h1, h2⟩ := h.val t v hx
    have : a.eval (.tmp t) = v' := by simp [Act.eval, h1]
    rw [this]; exact h2
  | const c =>
    have hx' : (if groundB c = true then some c else none) = some v := hx
    split at hx'
    · rename_i hc
      cases hx'
      exact VR.ground hc
    · cases hx'
  | global g => cases hx
  | func f => cases hx; exact .func _ .nil .nil
theorem FrR.sees {ρ : Ren} {N : Nat} {env : L2} {a : Act} (h : FrR ρ N env a) (op : Op) : Sees ρ env a op := fun x v _ hx => h.eval hx
theorem FrR.mono {ρ ρ' : Ren} {N : Nat} {env : L2} {a : Act} (h : FrR ρ N env a) (hs : ∀ L r, ρ L = some r → ρ' L = some r) : FrR ρ' N env a :=
  ⟨h.size, h.dfr, fun t v hv => (h.val t v hv).imp fun v' hh => ⟨hh.1, hh.2.mono hs⟩⟩
theorem put_size (a : Act) (d : Option Tmp) (v : Value) : (a.put d v).tmps.size = a.tmps.size := by cases d <;> simp [Act.put]
theorem put_dfr (a : Act) (d : Option Tmp) (v : Value) : (a.put d v).defers = a.defers := by cases d <;> rfl
section
variable {P : Program} {T : Tab} {call : CallF} {env : L2} {m : Mem} {k : K} {a : Value} {mm : Mem}
theorem putE_ok {d : Option Tmp} {v : Value} {N : Nat} {c : L2 → Ans} (h : putE env d v N c = .ok a mm) : ∃ env', c env' = .ok a mm ∧ (∀ t, d = some t → t < N) ∧ ∀ u, findT env' u = if d = some u then some v else findT env u := by
  cases d with
  | none => exact ⟨env, h, fun _ h => by (cases h), fun u => by simp⟩
  | some d =>
    obtain ⟨h1, h2⟩ := iteB_yes (show iteB (Nat.blt d N) (.no 130) (setT env d v c) = .ok a mm from h)
    obtain ⟨e', h3, h4⟩ := setT_ok h2
    refine ⟨e', h3, fun t ht => by cases ht; simpa [Nat.blt_eq] using h1, fun u => ?_⟩
    rw [h4]
    by_cases hu : u = d
    · subst hu; simp
    · rw [if_neg hu, if_neg (fun h => hu (by cases h; rfl))]
theorem FrR.put {ρ : Ren} {N : Nat} {env env' : L2} {ac : Act} {d : Option Tmp} {v v' : Value} (h : FrR ρ N env ac) (hd : ∀ t, d = some t → t < N) (hv : VR ρ v v')
    (he : ∀ u, findT env' u = if d = some u then some v else findT env u) : FrR ρ N env' (ac.put d v') := by
  refine ⟨by rw [put_size]; exact h.size, by rw [put_dfr]; exact h.dfr, fun t x hx => ?_⟩
  rw [he] at hx
  split at hx
  · rename_i hdt
    cases hx
    subst hdt
    refine ⟨v', ?_, hv⟩
    have : t < ac.tmps.size := Nat.lt_of_lt_of_le (hd t rfl) h.size
    simp [Act.put, this]
  · rename_i hdt
    obtain ⟨x', h1, h2⟩ := h.val t x hx
    refine ⟨x', ?_, h2⟩
    cases d with
    | none => exact h1
    | some d =>
      have : d ≠ t := fun e => hdt (by rw [e])
      simp [Act.put, Array.getElem?_setIfInBounds_ne this, h1]
theorem undef_ok (ρ : Ren) : VR ρ undefV undef := .tuple .nil
/-- whether an operation is wanted -/
theorem wantK_ok {all : List Oper} {g : Nat × Bool} {c : Bool → Ans} (h : wantK all env g c = .ok a mm) : ∃ b, c b = .ok a mm ∧ ∀ (ρ : Ren) (N : Nat) (ac : Act) (o : Oper), FrR ρ N env ac → o.guard = some g →
    Region.wanted o (yielded all.toArray ac.tmps) = b := by
  obtain ⟨og, h1, h2⟩ := withO_ok h
  obtain ⟨t, h3, h4⟩ := withO_ok h2
  obtain ⟨v, h5, h6⟩ := getT_ok h4
  have h1' : all[g.1]? = some og := by rw [← nth_eq]; exact h1
  have key : ∀ (ρ : Ren) (N : Nat) (ac : Act) (o : Oper), FrR ρ N env ac → o.guard = some g → ∃ v', VR ρ v v' ∧ Region.wanted o (yielded all.toArray ac.tmps) = ((match (some v' : Option Value) with | some (.bool b) => some b | _ => none) == some g.2) := by
    intro ρ N ac o hF hg
    obtain ⟨v', g1, g2⟩ := hF.val t v h5
    refine ⟨v', g2, ?_⟩
    simp only [Region.wanted, hg, yielded, List.getElem?_toArray, h1', Option.bind_some, h3, g1]
    rfl
  split at h6
  · rename_i b
    rw [forceB_eq] at h6
    refine ⟨_, h6, fun ρ N ac o hF hg => ?_⟩
    obtain ⟨v', g1, g2⟩ := key ρ N ac o hF hg
    cases g1
    rw [g2]
    rfl
  · refine ⟨_, h6, fun ρ N ac o hF hg => ?_⟩
    obtain ⟨v', g1, g2⟩ := key ρ N ac o hF hg
    cases g1
    rw [g2]
    rfl
  · cases h6

/-- what a code comes to -/
def CodeS (P : Program) (N : Nat) (c : Code) (env : L2) (m : Mem) (e : Exit) (env' : L2) (m' : Mem) : Prop :=
  m.next ≤ m'.next ∧ ∀ (ρ : Ren) (w : World) (ac : Act) (Q : Exit → Act → World → Prop), RelF m.heap.find ρ w → Free ρ m m' → FrR ρ N env ac →
    (∀ ρ' ac' w', RelF m'.heap.find ρ' w' → EX m ρ w m' ρ' w' → FrR ρ' N env' ac' → Q e ac' w') → c.wp P Q ac w
/-- what one operation of a region comes to -/
def StepS (P : Program) (N : Nat) (all : List Oper) (i : Nat) (env : L2) (m : Mem) (env' : L2) (m' : Mem) : Prop :=
  m.next ≤ m'.next ∧ ∀ (ρ : Ren) (w : World) (ac : Act) (K : Act → World → Prop) (Q : Exit → Act → World → Prop), RelF m.heap.find ρ w → Free ρ m m' → FrR ρ N env ac →
    (∀ ρ' ac' w', RelF m'.heap.find ρ' w' → EX m ρ w m' ρ' w' → FrR ρ' N env' ac' → K ac' w') → wpOp P all.toArray Q i K ac w
theorem opStep_ok (hT : TabOk P T) (hC : CallOk P call) {o : Oper} {N : Nat} {c : L2 → Mem → Ans} (h : opF o.op T call env m (fun v m' => putE env o.dst v N (fun env' => c env' m')) = .ok a mm) :
    ∃ env' m', c env' m' = .ok a mm ∧ m.next ≤ m'.next ∧ ∀ (ρ : Ren) (w : World) (ac : Act) (K : Act → World → Prop) (Q : Exit → Act → World → Prop), RelF m.heap.find ρ w → Free ρ m m' → FrR ρ N env ac →
    (∀ ρ' ac' w', RelF m'.heap.find ρ' w' → EX m ρ w m' ρ' w' → FrR ρ' N env' ac' → K ac' w') → o.wp P ac w K Q := by
  obtain ⟨v, m', h1, h2⟩ := op_sound hT hC h
  obtain ⟨env', h3, h4, h5⟩ := putE_ok h1
  refine ⟨env', m', h3, h2.ops.nx, fun ρ w ac K Q hR hF hE hK => ?_⟩
  refine h2.ops.run ρ w o ac K Q rfl hR hF (hE.sees _) fun ρ' v' w' hv hR' hX => ?_
  exact hK ρ' _ w' hR' hX ((hE.mono hX.sub).put h4 hv h5)
theorem stepF_ok (hT : TabOk P T) (hC : CallOk P call) {all : List Oper} {i : Nat} {o : Oper} (hi : all[i]? = some o) {c : L2 → Mem → Ans} (h : stepF o all T call env m c = .ok a mm) :
    ∃ env' m', c env' m' = .ok a mm ∧ StepS P T.n all i env m env' m' := by
  have hi' : all.toArray[i]? = some o := by simpa using hi
  cases hg : o.guard with
  | none =>
    have h' : opF o.op T call env m (fun v m' => putE env o.dst v T.n (fun env' => c env' m')) = .ok a mm := by unfold stepF at h; rw [hg] at h; exact h
    obtain ⟨env', m', h1, h2, h3⟩ := opStep_ok hT hC h'
    refine ⟨env', m', h1, h2, fun ρ w ac K Q hR hF hE hK => ?_⟩
    unfold wpOp
    rw [hi']
    have hw : Region.wanted o (yielded all.toArray ac.tmps) = true := by simp [Region.wanted, hg]
    simp only [hw, if_true]
    exact .inl (h3 ρ w ac K Q hR hF hE hK)
  | some g =>
    have h' : wantK all env g (fun w => iteB w (putE env o.dst undefV T.n (fun env' => c env' m)) (opF o.op T call env m (fun v m' => putE env o.dst v T.n (fun env' => c env' m')))) = .ok a mm := by unfold stepF at h; rw [hg] at h; exact h
    obtain ⟨b, h1, h2⟩ := wantK_ok h'
    rcases iteB_ok h1 with ⟨rfl, h3⟩ | ⟨rfl, h3⟩
    · obtain ⟨env', m', h4, h5, h6⟩ := opStep_ok hT hC h3
      refine ⟨env', m', h4, h5, fun ρ w ac K Q hR hF hE hK => ?_⟩
      unfold wpOp
      rw [hi']
      simp only [h2 ρ T.n ac o hE hg, if_true]
      exact .inl (h6 ρ w ac K Q hR hF hE hK)
    · obtain ⟨env', h4, h5, h6⟩ := putE_ok h3
      refine ⟨env', m, h4, Nat.le_refl _, fun ρ w ac K Q hR hF hE hK => ?_⟩
      unfold wpOp
      rw [hi']
      simp only [h2 ρ T.n ac o hE hg, Bool.false_eq_true, if_false]
      exact hK ρ _ w hR (EX.refl _ _ _) (hE.put h5 (undef_ok ρ) h6)
/-- a row of operations, in order -/
def OpsSeq (P : Program) (N : Nat) (all : List Oper) (is : List Nat) (env : L2) (m : Mem) (env' : L2) (m' : Mem) : Prop :=
  m.next ≤ m'.next ∧ ∀ (ρ : Ren) (w : World) (ac : Act) (Q : Exit → Act → World → Prop), RelF m.heap.find ρ w → Free ρ m m' → FrR ρ N env ac →
    (∀ ρ' ac' w', RelF m'.heap.find ρ' w' → EX m ρ w m' ρ' w' → FrR ρ' N env' ac' → Q .normal ac' w') → wpOps P all.toArray Q is ac w
theorem opsF_ok (hT : TabOk P T) (hC : CallOk P call) {all : List Oper} : ∀ (l : List Oper) (i : Nat) (env : L2) (m : Mem) (c : L2 → Mem → Ans), all.drop i = l → opsF l all T call env m c = .ok a mm →
    ∃ env' m', c env' m' = .ok a mm ∧ OpsSeq P T.n all (List.range' i l.length) env m env' m'
  | [], i, env, m, c, hl, h => ⟨env, m, h, Nat.le_refl _, fun ρ w ac Q hR _ hE hK => by
      show wpOps P all.toArray Q [] ac w
      exact hK ρ ac w hR (EX.refl _ _ _) hE⟩
  | o :: l, i, env, m, c, hl, h => by
    have hi : all[i]? = some o := by
      have := congrArg (·[0]?) hl
      simpa using this
    have hl' : all.drop (i + 1) = l := by rw [← List.drop_drop, hl]; rfl
    obtain ⟨env1, m1, h1, h2, h3⟩ := stepF_ok hT hC hi (show stepF o all T call env m (fun env' m' => opsF l all T call env' m' c) = .ok a mm from h)
    obtain ⟨env2, m2, h4, h5, h6⟩ := opsF_ok hT hC l (i + 1) env1 m1 c hl' h1
    refine ⟨env2, m2, h4, Nat.le_trans h2 h5, fun ρ w ac Q hR hF hE hK => ?_⟩
    show wpOps P all.toArray Q (i :: List.range' (i + 1) l.length) ac w
    rw [wpOps_cons]
    refine h3 ρ w ac _ Q hR (hF.left h5) hE fun ρ1 ac1 w1 hR1 hX1 hE1 => ?_
    refine h6 ρ1 w1 ac1 Q hR1 (hF.right h2 hX1) hE1 fun ρ2 ac2 w2 hR2 hX2 hE2 => ?_
    exact hK ρ2 ac2 w2 hR2 (hX1.trans hX2 h2 h5) hE2
/-- regions that draw their order -/
def DrawOk (P : Program) (T : Tab) (call : CallF) : Prop := ∀ (id : Nat) (ops : Array Oper) (env : L2) (m : Mem) (c : L2 → Mem → Ans) (a : Value) (mm : Mem),
  regionC id ops true T call env m c (fun _ _ _ => .no 0) (fun _ _ => .no 0) = .ok a mm → ∃ env' m', c env' m' = .ok a mm ∧ CodeS P T.n (.region id ops true) env m .normal env' m'
/-- where a code went -/
def Went (e : Exit) (env : L2) (m : Mem) (kn : L2 → Mem → Ans) (kx : Nat → L2 → Mem → Ans) (kr : L2 → Mem → Ans) (z : Ans) : Prop :=
  (e = .normal ∧ kn env m = z) ∨ (∃ id, e = .exit id ∧ kx id env m = z) ∨ (e = .ret ∧ kr env m = z)
def CodeOk (P : Program) (T : Tab) (call : CallF) (c : Code) : Prop := ∀ (env : L2) (m : Mem) (kn : L2 → Mem → Ans) (kx : Nat → L2 → Mem → Ans) (kr : L2 → Mem → Ans) (a : Value) (mm : Mem),
  codeF c T call env m kn kx kr = .ok a mm → ∃ e env' m', CodeS P T.n c env m e env' m' ∧ Went e env' m' kn kx kr (.ok a mm)
theorem loop_ok {c : Code} (hc : CodeOk P T call c) : ∀ (n : Nat) (env : L2) (m : Mem) (kx : Nat → L2 → Mem → Ans) (kr : L2 → Mem → Ans) (a : Value) (mm : Mem),
    (Nat.rec (motive := fun _ => L2 → Mem → Ans) (fun _ _ => .no 143) (fun _ ih env m => codeF c T call env m ih kx kr) n env m : Ans) = .ok a mm →
    ∃ e env' m', (m.next ≤ m'.next ∧ ∀ (ρ : Ren) (w : World) (ac : Act) (Q : Exit → Act → World → Prop), RelF m.heap.find ρ w → Free ρ m m' → FrR ρ T.n env ac →
    (∀ ρ' ac' w', RelF m'.heap.find ρ' w' → EX m ρ w m' ρ' w' → FrR ρ' T.n env' ac' → Q e ac' w') → Code.rounds P c Q n ac w) ∧ e ≠ .normal ∧ Went e env' m' (fun _ _ => .no 0) kx kr (.ok a mm)
  | 0, env, m, kx, kr, a, mm, h => by cases h
  | n + 1, env, m, kx, kr, a, mm, h => by
    obtain ⟨e, env1, m1, ⟨h1, h2⟩, h3⟩ := hc env m _ kx kr a mm h
    rcases h3 with ⟨rfl, h3⟩ | ⟨id, rfl, h3⟩ | ⟨rfl, h3⟩
    · obtain ⟨e, env2, m2, ⟨h4, h5⟩, h6, h7⟩ := loop_ok hc n env1 m1 kx kr a mm h3
      refine ⟨e, env2, m2, ⟨Nat.le_trans h1 h4, fun ρ w ac Q hR hF hE hK => ?_⟩, h6, h7⟩
      rw [rounds_succ]
      refine h2 ρ w ac _ hR (hF.left h4) hE fun ρ1 ac1 w1 hR1 hX1 hE1 => ?_
      show Code.rounds P c Q n ac1 w1
      exact h5 ρ1 w1 ac1 Q hR1 (hF.right h1 hX1) hE1 fun ρ2 ac2 w2 hR2 hX2 hE2 => hK ρ2 ac2 w2 hR2 (hX1.trans hX2 h1 h4) hE2
    · refine ⟨_, env1, m1, ⟨h1, fun ρ w ac Q hR hF hE hK => ?_⟩, by simp, .inr (.inl ⟨id, rfl, h3⟩)⟩
      rw [rounds_succ]
      exact h2 ρ w ac _ hR hF hE fun ρ1 ac1 w1 hR1 hX1 hE1 => hK ρ1 ac1 w1 hR1 hX1 hE1
    · refine ⟨_, env1, m1, ⟨h1, fun ρ w ac Q hR hF hE hK => ?_⟩, by simp, .inr (.inr ⟨rfl, h3⟩)⟩
      rw [rounds_succ]
      exact h2 ρ w ac _ hR hF hE fun ρ1 ac1 w1 hR1 hX1 hE1 => hK ρ1 ac1 w1 hR1 hX1 hE1
theorem codeF_ok (hT : TabOk P T) (hC : CallOk P call) (hD : DrawOk P T call) (c : Code) : CodeOk P T call c := by
  induction c with
  | skip => exact fun env m kn kx kr a mm h => ⟨.normal, env, m, ⟨Nat.le_refl _, fun ρ w ac Q hR _ hE hK => wp_skip (hK ρ ac w hR (EX.refl _ _ _) hE)⟩, .inl ⟨rfl, h⟩⟩
  | label l => exact fun env m kn kx kr a mm h => ⟨.normal, env, m, ⟨Nat.le_refl _, fun ρ w ac Q hR _ hE hK => wp_label (hK ρ ac w hR (EX.refl _ _ _) hE)⟩, .inl ⟨rfl, h⟩⟩
  | exit id => exact fun env m kn kx kr a mm h => ⟨.exit id, env, m, ⟨Nat.le_refl _, fun ρ w ac Q hR _ hE hK => wp_exit (hK ρ ac w hR (EX.refl _ _ _) hE)⟩, .inr (.inl ⟨id, rfl, h⟩)⟩
  | ret => exact fun env m kn kx kr a mm h => ⟨.ret, env, m, ⟨Nat.le_refl _, fun ρ w ac Q hR _ hE hK => wp_ret (hK ρ ac w hR (EX.refl _ _ _) hE)⟩, .inr (.inr ⟨rfl, h⟩)⟩
  | goto l => exact fun env m kn kx kr a mm h => by cases h
  | refuse y => exact fun env m kn kx kr a mm h => by cases h
  | scope c ih => exact fun env m kn kx kr a mm h => by cases h
  | rangeFunc f ps x y _ _ => exact fun env m kn kx kr a mm h => by cases h
  | region id ops draw =>
    intro env m kn kx kr a mm h
    have h' : regionC id ops draw T call env m kn kx kr = .ok a mm := h
    cases draw with
    | true =>
      obtain ⟨env', m', h1, h2⟩ := hD id ops env m kn a mm h'
      exact ⟨.normal, env', m', h2, .inl ⟨rfl, h1⟩⟩
    | false =>
      obtain ⟨env', m', h1, h2, h3⟩ := opsF_ok hT hC (all := ops.toList) ops.toList 0 env m kn rfl h'
      refine ⟨.normal, env', m', ⟨h2, fun ρ w ac Q hR hF hE hK => wp_region ?_⟩, .inl ⟨rfl, h1⟩⟩
      have := h3 ρ w ac Q hR hF hE hK
      rw [List.range_eq_range']
      simpa using this
  | seq x y hx hy =>
    intro env m kn kx kr a mm h
    obtain ⟨e, env1, m1, ⟨h1, h2⟩, h3⟩ := hx env m _ kx kr a mm (show codeF x T call env m (fun env m => codeF y T call env m kn kx kr) kx kr = .ok a mm from h)
    rcases h3 with ⟨rfl, h3⟩ | ⟨id, rfl, h3⟩ | ⟨rfl, h3⟩
    · obtain ⟨e, env2, m2, ⟨h4, h5⟩, h6⟩ := hy env1 m1 kn kx kr a mm h3
      refine ⟨e, env2, m2, ⟨Nat.le_trans h1 h4, fun ρ w ac Q hR hF hE hK => wp_seq ?_⟩, h6⟩
      refine h2 ρ w ac _ hR (hF.left h4) hE fun ρ1 ac1 w1 hR1 hX1 hE1 => ?_
      exact h5 ρ1 w1 ac1 Q hR1 (hF.right h1 hX1) hE1 fun ρ2 ac2 w2 hR2 hX2 hE2 => hK ρ2 ac2 w2 hR2 (hX1.trans hX2 h1 h4) hE2
    · exact ⟨_, env1, m1, ⟨h1, fun ρ w ac Q hR hF hE hK => wp_seq (h2 ρ w ac _ hR hF hE fun ρ1 ac1 w1 hR1 hX1 hE1 => hK ρ1 ac1 w1 hR1 hX1 hE1)⟩, .inr (.inl ⟨id, rfl, h3⟩)⟩
    · exact ⟨_, env1, m1, ⟨h1, fun ρ w ac Q hR hF hE hK => wp_seq (h2 ρ w ac _ hR hF hE fun ρ1 ac1 w1 hR1 hX1 hE1 => hK ρ1 ac1 w1 hR1 hX1 hE1)⟩, .inr (.inr ⟨rfl, h3⟩)⟩
  | cond c x y hx hy =>
    intro env m kn kx kr a mm h
    obtain ⟨v, h1, h2⟩ := evalO_ok (show evalO c env (fun v => asBool v (fun c => iteB c (codeF y T call env m kn kx kr) (codeF x T call env m kn kx kr))) = .ok a mm from h)
    obtain ⟨b, rfl, h3⟩ := asBool_ok h2
    have ev : ∀ {ρ : Ren} {ac : Act}, FrR ρ T.n env ac → ac.eval c = .bool b := fun hE => by
      have := hE.eval h1
      generalize ac_ : Act.eval _ c = z at this
      cases this; rfl
    rcases iteB_ok h3 with ⟨rfl, h4⟩ | ⟨rfl, h4⟩
    · obtain ⟨e, env1, m1, ⟨h5, h6⟩, h7⟩ := hx env m kn kx kr a mm h4
      exact ⟨e, env1, m1, ⟨h5, fun ρ w ac Q hR hF hE hK => wp_cond_true (ev hE) (h6 ρ w ac Q hR hF hE hK)⟩, h7⟩
    · obtain ⟨e, env1, m1, ⟨h5, h6⟩, h7⟩ := hy env m kn kx kr a mm h4
      exact ⟨e, env1, m1, ⟨h5, fun ρ w ac Q hR hF hE hK => wp_cond_false (ev hE) (h6 ρ w ac Q hR hF hE hK)⟩, h7⟩
  | block id c ih =>
    intro env m kn kx kr a mm h
    obtain ⟨e, env1, m1, ⟨h1, h2⟩, h3⟩ := ih env m kn _ kr a mm (show codeF c T call env m kn (fun i env m => iteB (Nat.beq i id) (kx i env m) (kn env m)) kr = .ok a mm from h)
    rcases h3 with ⟨rfl, h3⟩ | ⟨i, rfl, h3⟩ | ⟨rfl, h3⟩
    · exact ⟨_, env1, m1, ⟨h1, fun ρ w ac Q hR hF hE hK => wp_block (h2 ρ w ac _ hR hF hE fun ρ1 ac1 w1 hR1 hX1 hE1 => hK ρ1 ac1 w1 hR1 hX1 hE1)⟩, .inl ⟨rfl, h3⟩⟩
    · rcases iteB_ok h3 with ⟨hb, h4⟩ | ⟨hb, h4⟩
      · have hid : i = id := Nat.eq_of_beq_eq_true hb
        refine ⟨.normal, env1, m1, ⟨h1, fun ρ w ac Q hR hF hE hK => wp_block (h2 ρ w ac _ hR hF hE fun ρ1 ac1 w1 hR1 hX1 hE1 => ?_)⟩, .inl ⟨rfl, h4⟩⟩
        show (if i = id then Q .normal ac1 w1 else Q (.exit i) ac1 w1)
        rw [if_pos hid]
        exact hK ρ1 ac1 w1 hR1 hX1 hE1
      · have hid : i ≠ id := Nat.ne_of_beq_eq_false hb
        refine ⟨.exit i, env1, m1, ⟨h1, fun ρ w ac Q hR hF hE hK => wp_block (h2 ρ w ac _ hR hF hE fun ρ1 ac1 w1 hR1 hX1 hE1 => ?_)⟩, .inr (.inl ⟨i, rfl, h4⟩)⟩
        show (if i = id then Q .normal ac1 w1 else Q (.exit i) ac1 w1)
        rw [if_neg hid]
        exact hK ρ1 ac1 w1 hR1 hX1 hE1
    · exact ⟨_, env1, m1, ⟨h1, fun ρ w ac Q hR hF hE hK => wp_block (h2 ρ w ac _ hR hF hE fun ρ1 ac1 w1 hR1 hX1 hE1 => hK ρ1 ac1 w1 hR1 hX1 hE1)⟩, .inr (.inr ⟨rfl, h3⟩)⟩
  | loop c ih =>
    intro env m kn kx kr a mm h
    have h' : loopC c (codeF c) T call env m kn kx kr = .ok a mm := h
    unfold loopC at h'
    generalize 1000000 = n at h'
    obtain ⟨e, env1, m1, ⟨h1, h2⟩, h3, h4⟩ := loop_ok ih n env m kx kr a mm h'
    refine ⟨e, env1, m1, ⟨h1, fun ρ w ac Q hR hF hE hK => wp_loop_rounds n (h2 ρ w ac Q hR hF hE hK)⟩, ?_⟩
    rcases h4 with ⟨rfl, h4⟩ | h4
    · exact (h3 rfl).elim
    · exact .inr h4
end
end Go.Proofs.YtpilmdfnbfcmkaaGreat.Ev
