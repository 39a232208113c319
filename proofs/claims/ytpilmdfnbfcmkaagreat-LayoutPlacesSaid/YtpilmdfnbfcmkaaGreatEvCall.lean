/-
  Functions: what the reckoner's call yields, the program's call returns. No program in sight.
-/
import Derived.Test.YtpilmdfnbfcmkaaGreatEvCode
import Derived.Laws.Sem
namespace Go.Proofs.YtpilmdfnbfcmkaaGreat.Ev
set_option linter.unusedVariables false
set_option linter.unusedSimpArgs false

section
variable {P : Program} {T : Tab} {call : CallF} {env : L2} {m : Mem} {k : K} {a : Value} {mm : Mem}
theorem bindArgs_ok : ∀ (l : List Value) (i : Nat) (env : L2) (c : L2 → Ans), bindArgs l i env c = .ok a mm → ∃ env', c env' = .ok a mm ∧ ∀ u, findT env' u = if i ≤ u ∧ u < i + l.length then l[u - i]? else findT env u
  | [], i, env, c, h => ⟨env, h, fun u => by rw [if_neg (by intro h; simp only [List.length_nil] at h; omega)]⟩
  | v :: l, i, env, c, h => by
    obtain ⟨e1, h1, h2⟩ := setT_ok (show setT env i v (fun env' => bindArgs l (Nat.succ i) env' c) = .ok a mm from h)
    obtain ⟨e2, h3, h4⟩ := bindArgs_ok l (i + 1) e1 c h1
    refine ⟨e2, h3, fun u => ?_⟩
    rw [h4, h2]
    simp only [List.length_cons]
    rcases Nat.lt_trichotomy u i with hu | hu | hu
    · rw [if_neg (by omega), if_neg (by omega), if_neg (by omega)]
    · subst hu
      rw [if_neg (by omega), if_pos rfl, if_pos (by omega), Nat.sub_self]
      rfl
    · by_cases hl : u < i + (l.length + 1)
      · rw [if_pos (by omega), if_pos (by omega), show u - i = (u - (i + 1)) + 1 by omega, List.getElem?_cons_succ]
      · rw [if_neg (by omega), if_neg (by omega), if_neg (by omega)]
theorem run_mapM {α : Type} {f : α → Sem Value} {xs : Array α} {l : List Value} {w : World} (h : (xs.toList.mapM f).run P w = .ok l w) : (xs.mapM f).run P w = .ok l.toArray w := by
  rw [Array.mapM_eq_mapM_toList, ← bind_pure_comp]
  simp only [Sem.run_bind, h, Result.andThen_ok, Sem.run_pure]
/-- what a function of these results returns -/
def oneOf : List Value → Value
  | [v] => v
  | vs => .tuple vs.toArray
def resOf (tmps : Array Value) : ResultVar → Sem Value
  | .tmp t => pure (tmps.getD t undef)
  | .cell a t => do Go.loadVar t (← asAddr (tmps.getD a undef))
theorem resultsK_ok (hT : TabOk P T) {N : Nat} : ∀ (l : List ResultVar) (c : List Value → Ans), resultsK T env m l c = .ok a mm → ∃ vs, c vs = .ok a mm ∧ ∀ (ρ : Ren) (w : World) (ac : Act), RelF m.heap.find ρ w → FrR ρ N env ac →
    ∃ vs', LR ρ vs vs' ∧ (l.mapM (resOf ac.tmps)).run P w = .ok vs' w
  | [], c, h => ⟨[], h, fun ρ w ac _ _ => ⟨[], .nil, by simp⟩⟩
  | .tmp t :: l, c, h => by
    obtain ⟨v, h1, h2⟩ := getT_ok (show getT env t (fun v => resultsK T env m l (fun vs => c (v :: vs))) = .ok a mm from h)
    obtain ⟨vs, h3, h4⟩ := resultsK_ok hT l _ h2
    refine ⟨v :: vs, h3, fun ρ w ac hR hE => ?_⟩
    obtain ⟨v', g1, g2⟩ := hE.val t v h1
    obtain ⟨vs', g3, g4⟩ := h4 ρ w ac hR hE
    refine ⟨v' :: vs', .cons g2 g3, ?_⟩
    have ht : ac.tmps.getD t undef = v' := by simp [g1]
    rw [List.mapM_cons]
    simp only [resOf, ht, Sem.run_bind, Sem.run_pure, Result.andThen_ok, g4]
  | .cell x t :: l, c, h => by
    obtain ⟨p, h1, h2⟩ := getT_ok (show getT env x (fun v => asPtr v (fun b o => Ev.loadVar T m t b o (fun v => resultsK T env m l (fun vs => c (v :: vs))))) = .ok a mm from h)
    obtain ⟨b, o, rfl, h3⟩ := asPtr_ok h2
    obtain ⟨v, h4, h5⟩ := loadVar_ok hT h3
    obtain ⟨vs, h6, h7⟩ := resultsK_ok hT l _ h4
    refine ⟨v :: vs, h6, fun ρ w ac hR hE => ?_⟩
    obtain ⟨p', g1, g2⟩ := hE.val x _ h1
    obtain ⟨r, hr, rfl⟩ := ptr_of g2
    obtain ⟨v', g3, g4⟩ := h5 ρ w r hR.see hr
    obtain ⟨vs', g5, g6⟩ := h7 ρ w ac hR hE
    refine ⟨v' :: vs', .cons g3 g5, ?_⟩
    have ht : ac.tmps.getD x undef = .pointer (some ⟨r.blk, r.base + o, none⟩) := by simp [g1]
    rw [List.mapM_cons]
    simp only [resOf, ht, asAddr, Sem.run_bind, Sem.run_pure, Result.andThen_ok, g4, g6]
theorem results_ok {fn : Func} {tmps : Array Value} {vs : List Value} {w : World} (h : (fn.results.toList.mapM (resOf tmps)).run P w = .ok vs w) :
    (results fn tmps).run P w = .ok (oneOf vs) w := by
  have h1 := run_mapM h
  have e : (results fn tmps) = (do let vs ← fn.results.mapM (resOf tmps); pure (if h : vs.size = 1 then vs[0] else .tuple vs)) := by
    unfold results
    congr 1
  rw [e]
  simp only [Sem.run_bind, h1, Result.andThen_ok, Sem.run_pure]
  congr 1
  match vs with
  | [] => rfl
  | [v] => rfl
  | v :: w :: r => simp [oneOf]
theorem retK_ok {vs : List Value} (h : retK vs m k = .ok a mm) : ∃ v, k v m = .ok a mm ∧ ∀ (ρ : Ren) (vs' : List Value), LR ρ vs vs' → VR ρ v (oneOf vs') := by
  unfold retK at h
  split at h
  · rename_i v
    refine ⟨v, h, fun ρ vs' hl => ?_⟩
    cases hl with
    | cons hv hr => cases hr; exact hv
  · rename_i hne
    refine ⟨_, h, fun ρ vs' hl => ?_⟩
    have : ∀ v', vs' ≠ [v'] := fun v' e => by
      subst e
      cases hl with
      | cons hv hr => cases hr; exact hne _ rfl
    unfold oneOf
    split
    · exact (this _ rfl).elim
    · exact .tuple (by simpa using hl)
/-- the same table, for a frame of another size -/
abbrev Tab.at (T : Tab) (n : Nat) : Tab := ⟨T.tys, T.fns, T.stub, n⟩
theorem TabOk.at (hT : TabOk P T) (n : Nat) : TabOk P (T.at n) := ⟨hT.ty, hT.fld, hT.flt, hT.fn⟩
theorem bodyK_ok (hT : TabOk P T) (hC : CallOk P call) (hD : ∀ n, DrawOk P (T.at n) call) {g : FuncId} {fn : Func} {body : Code} {args : List Value} (hg : P.funcs[g]? = some fn) (hb : fn.body = some body)
    (h : bodyK T call fn body args m k = .ok a mm) : ∃ v m', k v m' = .ok a mm ∧ CallS P g args m v m' := by
  obtain ⟨env, h1, h2⟩ := bindArgs_ok args 0 e2 _ h
  have key : ∀ {env' : L2} {m' : Mem}, resultsK T env' m' fn.results.toList (fun vs => retK vs m' k) = .ok a mm → ∃ v, k v m' = .ok a mm ∧ ∀ (ρ : Ren) (w : World) (ac : Act), RelF m'.heap.find ρ w → FrR ρ fn.ntmps env' ac →
      ∃ v', VR ρ v v' ∧ (results fn ac.tmps).run P w = .ok v' w := by
    intro env' m' hh
    obtain ⟨vs, g1, g2⟩ := resultsK_ok (N := fn.ntmps) hT _ _ hh
    obtain ⟨v, g3, g4⟩ := retK_ok g1
    refine ⟨v, g3, fun ρ w ac hR hE => ?_⟩
    obtain ⟨vs', g5, g6⟩ := g2 ρ w ac hR hE
    exact ⟨_, g4 ρ vs' g5, results_ok g6⟩
  have fr : ∀ (ρ : Ren) (args' : Array Value), LR ρ args args'.toList → FrR ρ fn.ntmps env { tmps := args' ++ Array.replicate (fn.ntmps - args'.size) undef, defers := [] } := by
    intro ρ args' hl
    have hlen : args.length = args'.size := by rw [hl.length]; simp
    refine ⟨by simp; omega, rfl, fun t v hv => ?_⟩
    rw [h2, findT_e2] at hv
    split at hv
    · rename_i hlt
      obtain ⟨v', g1, g2⟩ := hl.get hv
      refine ⟨v', ?_, g2⟩
      have ht : t < args'.size := by omega
      rw [Nat.sub_zero, Array.getElem?_toList] at g1
      simpa [Array.getElem?_append, ht] using g1
    · cases hv
  obtain ⟨e, env', m', ⟨h3, h4⟩, h5⟩ := codeF_ok (hT.at fn.ntmps) hC (hD fn.ntmps) body _ _ _ _ _ _ _ h1
  have fin : ∀ (e : Exit), (e = .normal ∨ e = .ret) → CodeS P fn.ntmps body env m e env' m' → resultsK T env' m' fn.results.toList (fun vs => retK vs m' k) = .ok a mm → ∃ v m', k v m' = .ok a mm ∧ CallS P g args m v m' := by
    intro e he ⟨h3, h4⟩ hh
    obtain ⟨v, g1, g2⟩ := key hh
    refine ⟨v, m', g1, h3, fun ρ w args' hR hF hl => ?_⟩
    refine calls_of_wp hg hb (h4 ρ w _ _ hR hF (fr ρ args' hl) fun ρ' ac' w' hR' hX' hE' => ?_)
    obtain ⟨v', g3, g4⟩ := g2 ρ' w' ac' hR' hE'
    rcases he with rfl | rfl
    · exact ⟨hE'.dfr, v', g4, ρ', v', rfl, g3, hR', hX'⟩
    · exact ⟨hE'.dfr, v', g4, ρ', v', rfl, g3, hR', hX'⟩
  rcases h5 with ⟨rfl, h5⟩ | ⟨id, rfl, h5⟩ | ⟨rfl, h5⟩
  · exact fin _ (.inl rfl) ⟨h3, h4⟩ h5
  · cases h5
  · exact fin _ (.inr rfl) ⟨h3, h4⟩ h5
/-- functions that the reckoner takes another's word for -/
def StubOk (P : Program) (T : Tab) : Prop := ∀ g s, T.stub g = some s → ∀ (args : List Value) (m : Mem) (k : K) (a : Value) (mm : Mem), s args m k = .ok a mm →
  ∃ v m', k v m' = .ok a mm ∧ (∃ fn, P.funcs[g]? = some fn ∧ fn.body.isSome = true ∧ (fn.name == "runtime.NumGoroutine") = false) ∧ CallS P g args m v m'
theorem callF_ok (hT : TabOk P T) (hS : StubOk P T) (hD : ∀ n call, CallOk P call → DrawOk P (T.at n) call) : ∀ fuel, CallOk P (callF T fuel)
  | 0 => fun f args m k a mm h => by cases h
  | n + 1 => fun g args m k a mm h => by
    have hC := callF_ok hT hS hD n
    have h' : callStep T (callF T n) g args m k = .ok a mm := h
    unfold callStep at h'
    cases hs : T.stub g with
    | some s =>
      rw [hs] at h'
      exact hS g s hs args m k a mm h'
    | none =>
      rw [hs] at h'
      obtain ⟨fn, h1, h2⟩ := PT.get_ok h'
      obtain ⟨body, h3, h4⟩ := withO_ok h2
      obtain ⟨h5, h6⟩ := hT.fn g fn h1
      obtain ⟨v, m', h7, h8⟩ := bodyK_ok hT hC (fun n => hD n _ hC) h5 h3 h4
      exact ⟨v, m', h7, ⟨fn, h5, by rw [h3]; rfl, h6⟩, h8⟩
end
end Go.Proofs.YtpilmdfnbfcmkaaGreat.Ev
