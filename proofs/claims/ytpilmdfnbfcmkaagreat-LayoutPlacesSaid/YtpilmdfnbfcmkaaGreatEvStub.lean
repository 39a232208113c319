/-
  A closed call of plain values that was reckoned by itself may stand as a stub in a greater reckoning.
-/
import Derived.Test.YtpilmdfnbfcmkaaGreatEvTab
namespace Go.Proofs.YtpilmdfnbfcmkaaGreat.Ev
set_option linter.unusedVariables false
set_option linter.unusedSimpArgs false

/-- calls at given values: a row of arguments and answers -/
noncomputable def tabStub (l : List (List Value × Value)) : List Value → Mem → K → Ans :=
  List.rec (motive := fun _ => List Value → Mem → K → Ans) (fun _ _ _ => .no 170)
    (fun p _ ih args m k => iteB (and (Nat.beq p.1.length args.length) ((p.1.zip args).all fun q => sameV 20 q.1 q.2)) (ih args m k) (k p.2 m)) l
/-- what was reckoned -/
noncomputable def okIs (v : Value) (x : Ans) : Bool := Ans.rec (motive := fun _ => Bool) (fun u _ => sameV 20 v u) (fun _ => false) x
section
variable {P : Program} {T : Tab} {a : Value} {mm : Mem}
theorem VR.ground_eq {ρ : Ren} {v v' : Value} (h : VR ρ v v') (hg : groundB v = true) : v' = v := by
  cases h <;> first | rfl | (cases hg; done)
theorem LR.ground_eq {ρ : Ren} : ∀ {l l' : List Value}, LR ρ l l' → l.all groundB = true → l' = l
  | [], _, .nil, _ => rfl
  | _ :: _, _, .cons h1 h2, hg => by
    rw [List.all_cons, Bool.and_eq_true] at hg
    rw [h1.ground_eq hg.1, h2.ground_eq hg.2]
/-- from no memory, so from any -/
theorem CallS.lift {g : FuncId} {args : List Value} {v : Value} (h : CallS P g args ⟨.leaf, 0⟩ v mm) (ha : args.all groundB = true) (hv : groundB v = true) (m : Mem) : CallS P g args m v m := by
  refine ⟨Nat.le_refl _, fun ρ w args' hR hF hl => ?_⟩
  have hR0 : RelF (Mem.heap ⟨.leaf, 0⟩).find (fun _ => none) w := ⟨fun L b hb => (by rw [PT.find_leaf] at hb; cases hb), fun L L' b b' r r' hb => (by rw [PT.find_leaf] at hb; cases hb)⟩
  have hl0 : LR (fun _ => none) args args'.toList := by rw [hl.ground_eq ha]; exact LR.ground ha
  refine Calls.mono (h.2 (fun _ => none) w args' hR0 (fun _ _ _ => rfl) hl0) fun e w' ⟨ρ', v', g1, g2, g3, g4⟩ => ?_
  have hfr : ∀ b, b < w.heap.size → w'.heap[b]? = w.heap[b]? := fun b hb => g4.frame b hb (by
    rintro ⟨L, bk, r, k1, _⟩
    rw [PT.find_leaf] at k1; cases k1)
  refine ⟨ρ, v', g1, by rw [g2.ground_eq hv]; exact VR.ground hv, ⟨fun L b hb => ?_, hR.inj⟩, ⟨fun _ _ h => h, fun _ _ h => .inl h, g4.size, fun b hb _ => hfr b hb, fun _ h => .inl h, fun _ bk h => .inl ⟨bk, h⟩, g4.same⟩⟩
  obtain ⟨r, k1, k2⟩ := hR.blk L b hb
  exact ⟨r, k1, k2.keep (fun _ _ h => h) fun hn => hfr _ (InImg.lt hR ⟨L, b, r, hb, hn, k1, rfl⟩)⟩
theorem okIs_ok {v : Value} {x : Ans} (h : okIs v x = true) : ∃ mm, x = .ok v mm := by
  cases x with
  | no n => cases h
  | ok u m =>
    have := sameV_eq 20 v u h
    subst this
    exact ⟨m, rfl⟩
/-- what a row of a stub wants -/
def RowOk (P : Program) (g : FuncId) (p : List Value × Value) : Prop := p.1.all groundB = true ∧ groundB p.2 = true ∧ (∃ fn, P.funcs[g]? = some fn ∧ fn.body.isSome = true ∧ (fn.name == "runtime.NumGoroutine") = false) ∧ ∃ mm, CallS P g p.1 ⟨.leaf, 0⟩ p.2 mm
theorem row_ok (hT : TabOk P T) (hS : StubOk P T) (hM : P.follows .mixedOrders = true) {fuel : Nat} {g : FuncId} {p : List Value × Value} (h1 : p.1.all groundB = true) (h2 : groundB p.2 = true)
    (h : callF T fuel g p.1 ⟨.leaf, 0⟩ (fun v m => .ok v m) = .ok p.2 mm) : RowOk P g p := by
  obtain ⟨v, m', k1, k2, k3⟩ := reckoned hT hS hM fuel g p.1 ⟨.leaf, 0⟩ _ _ _ h
  cases k1
  exact ⟨h1, h2, k2, _, k3⟩
theorem row_from {stub : Nat → Option (List Value → Mem → (Value → Mem → Ans) → Ans)} (hn : namesOk P = true) (hS : ∀ T : Tab, T.stub = stub → StubOk P T) (hM : P.follows .mixedOrders = true) {fuel : Nat} {g : FuncId} {p : List Value × Value} (h1 : p.1.all groundB = true) (h2 : groundB p.2 = true)
    (h : okIs p.2 (withTab P stub (fun T => callF T fuel g p.1 ⟨.leaf, 0⟩ (fun v m => .ok v m))) = true) : RowOk P g p := by
  obtain ⟨mm, h3⟩ := okIs_ok h
  obtain ⟨T, h4, hT, hs⟩ := withTab_ok hn h3
  exact row_ok hT (hS T hs) hM h1 h2 h4
theorem tab_ok {g : FuncId} : ∀ {l : List (List Value × Value)}, (∀ p ∈ l, RowOk P g p) → ∀ (args : List Value) (m : Mem) (k : K) (a : Value) (mm : Mem), tabStub l args m k = .ok a mm →
    ∃ v m', k v m' = .ok a mm ∧ (∃ fn, P.funcs[g]? = some fn ∧ fn.body.isSome = true ∧ (fn.name == "runtime.NumGoroutine") = false) ∧ CallS P g args m v m'
  | [], _, args, m, k, a, mm, h => by cases h
  | p :: l, hl, args, m, k, a, mm, h => by
    rcases iteB_ok (show iteB (and (Nat.beq p.1.length args.length) ((p.1.zip args).all fun q => sameV 20 q.1 q.2)) (tabStub l args m k) (k p.2 m) = .ok a mm from h) with ⟨h1, h2⟩ | ⟨h1, h2⟩
    · obtain ⟨g1, g2, g3, mm', g4⟩ := hl p (.head _)
      have he : p.1 = args := by
        rw [Bool.and_eq_true] at h1
        have hlen := Nat.eq_of_beq_eq_true h1.1
        have hall := h1.2
        clear h h1 h2 g1 g4 hl
        generalize p.1 = l1 at hlen hall
        induction l1 generalizing args with
        | nil => cases args with | nil => rfl | cons _ _ => cases hlen
        | cons x l1 ih =>
          cases args with
          | nil => cases hlen
          | cons y args =>
            simp only [List.zip_cons_cons, List.all_cons, Bool.and_eq_true] at hall
            rw [sameV_eq 20 _ _ hall.1, ih args (by simpa using hlen) hall.2]
      subst he
      exact ⟨p.2, m, h2, g3, g4.lift g1 g2 m⟩
    · exact tab_ok (fun q hq => hl q (.tail _ hq)) args m k a mm h2
end
end Go.Proofs.YtpilmdfnbfcmkaaGreat.Ev
