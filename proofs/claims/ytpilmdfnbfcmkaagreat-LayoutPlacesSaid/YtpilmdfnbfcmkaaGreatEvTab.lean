/-
  A program's own table, for the reckoner.
-/
import Derived.Test.YtpilmdfnbfcmkaaGreatEvDraw5
import Derived.Below
namespace Go.Proofs.YtpilmdfnbfcmkaaGreat.Ev
set_option linter.unusedVariables false
set_option linter.unusedSimpArgs false

noncomputable section
/-- trees of what there is -/
def PT.ofOpts {α : Type} (l : List (Option α)) : Nat → PT α → (PT α → Ans) → Ans :=
  List.rec (motive := fun _ => Nat → PT α → (PT α → Ans) → Ans) (fun _ t c => c t) (fun x _ ih k t c => PT.set t k x (fun t' => ih (Nat.succ k) t' c)) l
def fieldsOk (P : Program) (d : TypeDesc) : Bool := match d with
  | .struct fs => fs.toList.all fun f => (P.info? f.type).isSome
  | _ => true
def tyOf (P : Program) (t : Nat) : Option TyR := match P.info? t, P.underlying t with
  | some i, some d => bif fieldsOk P d then some ⟨d, i.size, i.bytes, i.zero, aggB d, not (or (P.stoodInHeld t) (P.eqGuardType P.depth t))⟩ else none
  | _, _ => none
def withTab (P : Program) (stub : Nat → Option (List Value → Mem → (Value → Mem → Ans) → Ans)) (f : Tab → Ans) : Ans :=
  PT.ofOpts ((List.range P.types.size).map (tyOf P)) 0 .leaf (fun tys => PT.ofList P.funcs.toList 0 .leaf (fun fns => f ⟨tys, fns, stub, 0⟩))
end
def namesOk (P : Program) : Bool := P.funcs.toList.all fun f => !(f.name == "runtime.NumGoroutine")
section
variable {P : Program} {a : Value} {mm : Mem}
theorem PT.ofOpts_ok {α : Type} : ∀ {l : List (Option α)} {k : Nat} {t : PT α} {c : PT α → Ans}, PT.ofOpts l k t c = .ok a mm → ∃ t', c t' = .ok a mm ∧ ∀ j, t'.find j = if k ≤ j ∧ j < k + l.length then (l[j - k]?).join else t.find j
  | [], k, t, c, h => ⟨t, h, fun j => by rw [if_neg (by intro g; simp only [List.length_nil] at g; omega)]⟩
  | x :: l, k, t, c, h => by
    obtain ⟨t1, h1, hf1⟩ := PT.set_ok (show PT.set t k x (fun t' => PT.ofOpts l (Nat.succ k) t' c) = .ok a mm from h)
    obtain ⟨t2, h2, hf2⟩ := PT.ofOpts_ok h1
    refine ⟨t2, h2, fun j => ?_⟩
    rw [hf2, hf1]
    simp only [List.length_cons]
    rcases Nat.lt_trichotomy j k with hu | hu | hu
    · rw [if_neg (by omega), if_neg (by omega), if_neg (by omega)]
    · subst hu
      rw [if_neg (by omega), if_pos rfl, if_pos (by omega), Nat.sub_self]
      rfl
    · by_cases hl : j < k + (l.length + 1)
      · rw [if_pos (by omega), if_pos (by omega), show j - k = (j - (k + 1)) + 1 by omega, List.getElem?_cons_succ]
      · rw [if_neg (by omega), if_neg (by omega), if_neg (by omega)]
theorem PT.find_leaf {α : Type} (j : Nat) : (PT.leaf : PT α).find j = none := by cases j <;> rfl
theorem withTab_ok (hn : namesOk P = true) {stub : Nat → Option (List Value → Mem → (Value → Mem → Ans) → Ans)} {f : Tab → Ans} (h : withTab P stub f = .ok a mm) : ∃ T : Tab, f T = .ok a mm ∧ TabOk P T ∧ T.stub = stub := by
  obtain ⟨tys, h1, h2⟩ := PT.ofOpts_ok h
  obtain ⟨fns, h3, h4⟩ := PT.ofList_ok h1
  have hty : ∀ t d, tys.find t = some d → tyOf P t = some d := by
    intro t d hd
    rw [h2] at hd
    split at hd
    · rename_i hr
      rw [Nat.sub_zero, List.getElem?_map] at hd
      have hlt : t < P.types.size := by simpa using hr.2
      rw [List.getElem?_range hlt] at hd
      exact hd
    · rw [PT.find_leaf] at hd; cases hd
  have hinv : ∀ t d, tyOf P t = some d → ∃ i, P.info? t = some i ∧ P.underlying t = some d.desc ∧ fieldsOk P d.desc = true ∧ d = ⟨d.desc, i.size, i.bytes, i.zero, aggB d.desc, not (or (P.stoodInHeld t) (P.eqGuardType P.depth t))⟩ := by
    intro t d hd
    unfold tyOf at hd
    split at hd
    · rename_i i dd h5 h6
      cases hf : fieldsOk P dd with
      | false => rw [hf] at hd; cases hd
      | true =>
        rw [hf] at hd
        cases hd
        exact ⟨i, h5, h6, hf, rfl⟩
    · cases hd
  refine ⟨_, h3, ⟨fun t d hd => ?_, fun t d fs f hd hs hf => ?_, fun t d hd hf => ?_, fun g fn hg => ?_⟩, rfl⟩
  · obtain ⟨i, k1, k2, k3, k4⟩ := hinv t d (hty t d hd)
    refine ⟨k2, by rw [k4], i, k1, ?_, ?_, ?_⟩ <;> rw [k4]
  · obtain ⟨i, k1, k2, k3, k4⟩ := hinv t d (hty t d hd)
    rw [hs] at k3
    have := List.all_eq_true.1 (show (fs.toList.all fun f => (P.info? f.type).isSome) = true from k3) f hf
    exact Option.isSome_iff_exists.1 this
  · obtain ⟨i, k1, k2, k3, k4⟩ := hinv t d (hty t d hd)
    rw [k4] at hf
    simpa using hf
  · rw [h4] at hg
    split at hg
    · rw [Nat.sub_zero, Array.getElem?_toList] at hg
      refine ⟨hg, ?_⟩
      have := List.all_eq_true.1 hn fn (by rw [Array.mem_toList_iff]; exact Array.mem_of_getElem? hg)
      simpa using this
    · rw [PT.find_leaf] at hg; cases hg
/-- what a call that was reckoned from nothing returns, whatever the world -/
theorem told {T : Tab} (hT : TabOk P T) (hS : StubOk P T) (hM : P.follows .mixedOrders = true) {fuel : Nat} {f : FuncId} (h : callF T fuel f [] ⟨.leaf, 0⟩ (fun v m => .ok v m) = .ok a mm) (w : World) :
    Calls P f #[] w fun e w' => ∃ ρ' v', e = .returned v' ∧ VR ρ' a v' ∧ Go.RowKit.Below w.heap.size w w' := by
  obtain ⟨v, m', h1, _, h2, h3⟩ := reckoned hT hS hM fuel f [] ⟨.leaf, 0⟩ _ a mm h
  cases h1
  have hR : RelF (Mem.heap ⟨.leaf, 0⟩).find (fun _ => none) w := ⟨fun L b hb => (by rw [PT.find_leaf] at hb; cases hb), fun L L' b b' r r' hb => (by rw [PT.find_leaf] at hb; cases hb)⟩
  refine Calls.mono (h3 (fun _ => none) w #[] hR (fun _ _ _ => rfl) .nil) fun e w' ⟨ρ', v', g1, g2, g3, g4⟩ => ?_
  refine ⟨ρ', v', g1, g2, g4.same.1, g4.same.2.1, g4.same.2.2, g4.size, fun b hb => g4.frame b hb ?_⟩
  rintro ⟨L, bk, r, k1, _⟩
  rw [PT.find_leaf] at k1; cases k1
theorem told_true {T : Tab} (hT : TabOk P T) (hS : StubOk P T) (hM : P.follows .mixedOrders = true) {fuel : Nat} {f : FuncId} (h : callF T fuel f [] ⟨.leaf, 0⟩ (fun v m => .ok v m) = .ok (.bool true) mm) (w : World) :
    Calls P f #[] w fun e w' => e = .returned (.bool true) ∧ Go.RowKit.Below w.heap.size w w' :=
  Calls.mono (told hT hS hM h w) fun e w' ⟨ρ', v', g1, g2, g3⟩ => by cases g2; exact ⟨g1, g3⟩
end
end Go.Proofs.YtpilmdfnbfcmkaaGreat.Ev
