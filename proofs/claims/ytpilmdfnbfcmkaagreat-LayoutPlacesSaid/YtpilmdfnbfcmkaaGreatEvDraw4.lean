/-
  Regions that draw their order: what the reckoner asks of one. No program in sight.
-/
import Derived.Test.YtpilmdfnbfcmkaaGreatEvDraw3
namespace Go.Proofs.YtpilmdfnbfcmkaaGreat.Ev
set_option linter.unusedVariables false
set_option linter.unusedSimpArgs false

section
variable {P : Program} {T : Tab} {call : CallF} {env : L2} {m : Mem} {a : Value} {mm : Mem}
/-- values that are the same -/
theorem sameV_eq : ∀ (n : Nat) (x y : Value), sameV n x y = true → x = y
  | 0, x, y, h => by cases h
  | n + 1, x, y, h => by
    have ih := sameV_eq n
    have list : ∀ (l r : List Value), Nat.beq l.length r.length = true → ((l.zip r).all fun p => sameV n p.1 p.2) = true → l = r := by
      intro l
      induction l with
      | nil => intro r h1 _; cases r with | nil => rfl | cons _ _ => cases h1
      | cons v l ihl =>
        intro r h1 h2
        cases r with
        | nil => cases h1
        | cons u r =>
          simp only [List.zip_cons_cons, List.all_cons, Bool.and_eq_true] at h2
          have h3 := Nat.eq_of_beq_eq_true h1
          simp only [List.length_cons] at h3
          rw [ih _ _ h2.1, ihl r (by rw [show l.length = r.length by omega]; exact Nat.beq_refl _) h2.2]
    have arr : ∀ (l r : Array Value), and (Nat.beq l.toList.length r.toList.length) ((l.toList.zip r.toList).all fun p => sameV n p.1 p.2) = true → l = r := by
      intro l r h
      rw [Bool.and_eq_true] at h
      exact Array.ext' (list _ _ h.1 h.2)
    unfold sameV at h
    dsimp only at h
    split at h <;> first
      | rfl
      | (cases h; done)
      | (rw [arr _ _ h]; done)
      | skip
    all_goals try simp only [Bool.and_eq_true] at h
    · rw [eq_of_beq h]
    · have h2 := h.2
      rw [eqI_eq] at h2
      rw [eqK_iff h.1, of_decide_eq_true h2]
    · have := of_decide_eq_true (by rw [← eqBytes_eq]; exact h)
      rename_i x y
      obtain ⟨⟨x⟩⟩ := x
      obtain ⟨⟨y⟩⟩ := y
      simp only at this
      rw [this]
    · rw [Nat.eq_of_beq_eq_true h.1, Nat.eq_of_beq_eq_true h.2]
    · rw [Nat.eq_of_beq_eq_true h.1, Nat.eq_of_beq_eq_true h.2]
    · rw [Nat.eq_of_beq_eq_true h.1.1, Nat.eq_of_beq_eq_true h.1.2, Nat.eq_of_beq_eq_true h.2.1, Nat.eq_of_beq_eq_true h.2.2]
    · rw [Nat.eq_of_beq_eq_true h]
    · rw [Nat.eq_of_beq_eq_true h.1, ih _ _ h.2]
theorem sameAt_ok (hT : TabOk P T) (hC : CallOk P call) {r : Rd} {k : Ans} (hc : clsOf r.o.op = 1) (h : sameAt r T call m k = .ok a mm) : k = .ok a mm ∧ ReadS P r.o.op r.env m r.v := by
  obtain ⟨v, m', h1, h2⟩ := op_sound hT hC (show opF r.o.op T call r.env m (fun v m' => iteB (and (sameV 20 r.v v) (Nat.beq m'.next m.next)) (.no 140) k) = .ok a mm from h)
  obtain ⟨h3, h4⟩ := iteB_yes h1
  rw [Bool.and_eq_true] at h3
  rw [sameV_eq 20 _ _ h3.1]
  exact ⟨h4, (h2.reads hc).2⟩
theorem checkR_ok (hT : TabOk P T) (hC : CallOk P call) {k : Ans} : ∀ (rs : List Rd) (hs : List Act3), (∀ r ∈ rs, clsOf r.o.op = 1) → checkR T call rs hs k = .ok a mm →
    k = .ok a mm ∧ ∀ r ∈ rs, ∀ h ∈ hs, r.un.contains h.i = true → ReadS P r.o.op r.env h.m0 r.v := by
  intro rs hs
  induction rs with
  | nil => exact fun _ h => ⟨h, fun r hr => by cases hr⟩
  | cons r rs ih =>
    intro hcls h
    have inner : ∀ (l : List Act3) (z : Ans), (List.rec (motive := fun _ => Ans) z (fun h _ ih2 => iteB (r.un.contains h.i) ih2 (sameAt r T call h.m0 (sameAt r T call h.m1 ih2))) l : Ans) = .ok a mm →
        z = .ok a mm ∧ ∀ h ∈ l, r.un.contains h.i = true → ReadS P r.o.op r.env h.m0 r.v := by
      intro l z
      induction l with
      | nil => exact fun h => ⟨h, fun h hh => by cases hh⟩
      | cons x l ihl =>
        intro hx
        rcases iteB_ok hx with ⟨h1, h2⟩ | ⟨h1, h2⟩
        · obtain ⟨h3, h4⟩ := sameAt_ok hT hC (hcls r (.head _)) h2
          obtain ⟨h5, _⟩ := sameAt_ok hT hC (hcls r (.head _)) h3
          obtain ⟨h6, h7⟩ := ihl h5
          refine ⟨h6, fun y hy hyc => ?_⟩
          cases hy with
          | head => exact h4
          | tail _ hy => exact h7 y hy hyc
        · obtain ⟨h6, h7⟩ := ihl h2
          refine ⟨h6, fun y hy hyc => ?_⟩
          cases hy with
          | head => rw [h1] at hyc; cases hyc
          | tail _ hy => exact h7 y hy hyc
    obtain ⟨h1, h2⟩ := inner hs _ h
    obtain ⟨h3, h4⟩ := ih (fun x hx => hcls x (.tail _ hx)) h1
    refine ⟨h3, fun x hx => ?_⟩
    cases hx with
    | head => exact h2
    | tail _ hx => exact h4 x hx
/-- whether an operation is wanted, by what it looks at -/
theorem wantK_sees {all : List Oper} {g : Nat × Bool} {c : Bool → Ans} (h : wantK all env g c = .ok a mm) : ∃ b, c b = .ok a mm ∧ ∀ (ρ : Ren) (ac : Act) (o : Oper), o.guard = some g →
    (∀ t ∈ tmpsOf all o, ∀ v, findT env t = some v → ∃ v', ac.tmps[t]? = some v' ∧ VR ρ v v') → Region.wanted o (yielded all.toArray ac.tmps) = b := by
  obtain ⟨og, h1, h2⟩ := withO_ok h
  obtain ⟨t, h3, h4⟩ := withO_ok h2
  obtain ⟨v, h5, h6⟩ := getT_ok h4
  have h1' : all[g.1]? = some og := by rw [← nth_eq]; exact h1
  have key : ∀ (ρ : Ren) (ac : Act) (o : Oper), o.guard = some g → (∀ t ∈ tmpsOf all o, ∀ v, findT env t = some v → ∃ v', ac.tmps[t]? = some v' ∧ VR ρ v v') →
      ∃ v', VR ρ v v' ∧ Region.wanted o (yielded all.toArray ac.tmps) = ((match (some v' : Option Value) with | some (.bool b) => some b | _ => none) == some g.2) := by
    intro ρ ac o hg hF
    have ht : t ∈ tmpsOf all o := by
      unfold tmpsOf
      refine List.mem_append_right _ ?_
      rw [hg]
      simp [h1', h3]
    obtain ⟨v', g1, g2⟩ := hF t ht v h5
    refine ⟨v', g2, ?_⟩
    simp only [Region.wanted, hg, yielded, List.getElem?_toArray, h1', Option.bind_some, h3, g1]
    rfl
  split at h6
  · rename_i b
    rw [forceB_eq] at h6
    refine ⟨_, h6, fun ρ ac o hg hF => ?_⟩
    obtain ⟨v', g1, g2⟩ := key ρ ac o hg hF
    cases g1
    rw [g2]
    rfl
  · refine ⟨_, h6, fun ρ ac o hg hF => ?_⟩
    obtain ⟨v', g1, g2⟩ := key ρ ac o hg hF
    cases g1
    rw [g2]
    rfl
  · cases h6
/-- one operation of the plan -/
theorem stepD_ok (hT : TabOk P T) (hC : CallOk P call) {all : List Oper} {i : Nat} {o : Oper} (hi : all[i]? = some o) {c : Option Value → L2 → Mem → Ans} (h : drawF.stepD o all T call env m c = .ok a mm) :
    ∃ r : Rec, r.i = i ∧ r.o = o ∧ r.env = env ∧ r.m = m ∧ RecOk P T.n all r ∧ c (if r.w = true then some r.v else none) r.env' r.m' = .ok a mm := by
  have go : ∀ (hw : ∀ (ρ : Ren) (ac : Act), (∀ t ∈ tmpsOf all o, ∀ v, findT env t = some v → ∃ v', ac.tmps[t]? = some v' ∧ VR ρ v v') → Region.wanted o (yielded all.toArray ac.tmps) = true),
      opF o.op T call env m (fun v m' => putE env o.dst v T.n (fun env' => c (some v) env' m')) = .ok a mm → ∃ r : Rec, r.i = i ∧ r.o = o ∧ r.env = env ∧ r.m = m ∧ RecOk P T.n all r ∧ c (if r.w = true then some r.v else none) r.env' r.m' = .ok a mm := by
    intro hw h
    obtain ⟨v, m', h1, h2⟩ := op_sound hT hC h
    obtain ⟨env', h3, h4, h5⟩ := putE_ok h1
    exact ⟨⟨i, o, env, m, v, true, env', m'⟩, rfl, rfl, rfl, rfl, ⟨hi, h4, h5, h2.ops.nx, hw, fun h => (by cases h), fun _ => h2⟩, h3⟩
  cases hg : o.guard with
  | none =>
    refine go (fun ρ ac _ => by simp [Region.wanted, hg]) ?_
    unfold drawF.stepD at h
    rw [hg] at h
    exact h
  | some g =>
    have h' : wantK all env g (fun w => iteB w (putE env o.dst undefV T.n (fun env' => c none env' m)) (opF o.op T call env m (fun v m' => putE env o.dst v T.n (fun env' => c (some v) env' m')))) = .ok a mm := by
      unfold drawF.stepD at h
      rw [hg] at h
      exact h
    obtain ⟨b, h1, h2⟩ := wantK_sees h'
    rcases iteB_ok h1 with ⟨rfl, h3⟩ | ⟨rfl, h3⟩
    · exact go (fun ρ ac hF => h2 ρ ac o hg hF) h3
    · obtain ⟨env', h4, h5, h6⟩ := putE_ok h3
      exact ⟨⟨i, o, env, m, undefV, false, env', m⟩, rfl, rfl, rfl, rfl, ⟨hi, h5, h6, Nat.le_refl _, fun ρ ac hF => h2 ρ ac o hg hF, fun _ => ⟨rfl, rfl⟩, fun h => by cases h⟩, h4⟩
theorem drawF_ok (hT : TabOk P T) (hC : CallOk P call) {all : List Oper} {ms : List Nat} : ∀ (p : List Nat) (env : L2) (m : Mem) (rs : List Rd) (hs : List Act3) (c : L2 → Mem → List Rd → List Act3 → Ans), drawF all ms p T call env m rs hs c = .ok a mm →
    ∃ (recs : List Rec) (env' : L2) (m' : Mem) (rsF : List Rd) (hsF : List Act3), c env' m' rsF hsF = .ok a mm ∧ Chain recs env m env' m' ∧ (∀ r ∈ recs, RecOk P T.n all r) ∧ recs.map (·.i) = p ∧ (∀ x ∈ rs, x ∈ rsF) ∧ (∀ x ∈ hs, x ∈ hsF) ∧
      (∀ r ∈ recs, clsOf r.o.op = 1 → r.w = true → unOf all ms r.i ≠ [] → (⟨r.o, r.env, r.v, unOf all ms r.i⟩ : Rd) ∈ rsF) ∧ (∀ r ∈ recs, clsOf r.o.op = 3 → (⟨r.i, r.m, r.m'⟩ : Act3) ∈ hsF) ∧ ((∀ r ∈ rs, clsOf r.o.op = 1) → ∀ r ∈ rsF, clsOf r.o.op = 1)
  | [], env, m, rs, hs, c, h => ⟨[], env, m, rs, hs, h, ⟨rfl, rfl⟩, fun r hr => (by cases hr), rfl, fun _ h => h, fun _ h => h, fun r hr => (by cases hr), fun r hr => (by cases hr), fun h => h⟩
  | i :: p, env, m, rs, hs, c, h => by
    obtain ⟨o, ho, h1⟩ := withO_ok (show withO 141 (nth all i) (fun o => drawF.stepD o all T call env m (fun v env' m' => match clsOf o.op with
        | 1 => drawF all ms p T call env' m' (match v with | some v => (match unOf all ms i with | [] => rs | un => ⟨o, env, v, un⟩ :: rs) | none => rs) hs c
        | 3 => drawF all ms p T call env' m' rs (⟨i, m, m'⟩ :: hs) c
        | _ => drawF all ms p T call env' m' rs hs c)) = .ok a mm from h)
    have hi : all[i]? = some o := by rw [← nth_eq]; exact ho
    obtain ⟨r, rfl, rfl, rfl, rfl, hok, h2⟩ := stepD_ok hT hC hi h1
    have build : ∀ (rs1 : List Rd) (hs1 : List Act3), drawF all ms p T call r.env' r.m' rs1 hs1 c = .ok a mm → (∀ x ∈ rs, x ∈ rs1) → (∀ x ∈ hs, x ∈ hs1) →
        (clsOf r.o.op = 1 → r.w = true → unOf all ms r.i ≠ [] → (⟨r.o, r.env, r.v, unOf all ms r.i⟩ : Rd) ∈ rs1) → (clsOf r.o.op = 3 → (⟨r.i, r.m, r.m'⟩ : Act3) ∈ hs1) → ((∀ r ∈ rs, clsOf r.o.op = 1) → ∀ r ∈ rs1, clsOf r.o.op = 1) →
        ∃ (recs : List Rec) (env' : L2) (m' : Mem) (rsF : List Rd) (hsF : List Act3), c env' m' rsF hsF = .ok a mm ∧ Chain recs r.env r.m env' m' ∧ (∀ r ∈ recs, RecOk P T.n all r) ∧ recs.map (·.i) = r.i :: p ∧ (∀ x ∈ rs, x ∈ rsF) ∧ (∀ x ∈ hs, x ∈ hsF) ∧
      (∀ r ∈ recs, clsOf r.o.op = 1 → r.w = true → unOf all ms r.i ≠ [] → (⟨r.o, r.env, r.v, unOf all ms r.i⟩ : Rd) ∈ rsF) ∧ (∀ r ∈ recs, clsOf r.o.op = 3 → (⟨r.i, r.m, r.m'⟩ : Act3) ∈ hsF) ∧ ((∀ r ∈ rs, clsOf r.o.op = 1) → ∀ r ∈ rsF, clsOf r.o.op = 1) := by
      intro rs1 hs1 hh k1 k2 k3 k4 k5
      obtain ⟨recs, env', m', rsF, hsF, g1, g2, g3, g4, g5, g6, g7, g8, g9⟩ := drawF_ok hT hC p r.env' r.m' rs1 hs1 c hh
      refine ⟨r :: recs, env', m', rsF, hsF, g1, ⟨rfl, rfl, g2⟩, fun x hx => ?_, by rw [List.map_cons, g4], fun x hx => g5 x (k1 x hx), fun x hx => g6 x (k2 x hx), fun x hx hc hw hu => ?_, fun x hx hc => ?_, fun hr => g9 (k5 hr)⟩
      · cases hx with | head => exact hok | tail _ hx => exact g3 x hx
      · cases hx with | head => exact g5 _ (k3 hc hw hu) | tail _ hx => exact g7 x hx hc hw hu
      · cases hx with | head => exact g6 _ (k4 hc) | tail _ hx => exact g8 x hx hc
    split at h2
    · rename_i hc
      cases hw : r.w with
      | false =>
        rw [hw] at h2
        exact build rs hs h2 (fun _ h => h) (fun _ h => h) (fun _ h _ => by rw [hw] at h; cases h) (fun h => by rw [hc] at h; cases h) fun h => h
      | true =>
        rw [hw] at h2
        simp only [if_true] at h2
        cases hu : unOf all ms r.i with
        | nil =>
          rw [hu] at h2
          exact build rs hs h2 (fun _ h => h) (fun _ h => h) (fun _ _ h => (h hu).elim) (fun h => by rw [hc] at h; cases h) fun h => h
        | cons u us =>
          rw [hu] at h2
          exact build _ hs h2 (fun _ h => .tail _ h) (fun _ h => h) (fun _ _ _ => by rw [hu]; exact .head _) (fun h => by rw [hc] at h; cases h) fun h x hx => by
            cases hx with
            | head => exact hc
            | tail _ hx => exact h x hx
    · rename_i hc
      exact build rs _ h2 (fun _ h => h) (fun _ h => .tail _ h) (fun h => by rw [hc] at h; cases h) (fun _ => .head _) fun h => h
    · rename_i hc1 hc3
      exact build rs hs h2 (fun _ h => h) (fun _ h => h) (fun h => (hc1 h).elim) (fun h => (hc3 h).elim) fun h => h
end
end Go.Proofs.YtpilmdfnbfcmkaaGreat.Ev
