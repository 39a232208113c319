import Derived.Test.YtpilmdfnbfcmkaaGreatLayRows
open Go Go.Proofs.YtpilmdfnbfcmkaaGreat.Ev
namespace Go.Proofs.YtpilmdfnbfcmkaaGreat.Lay
set_option maxRecDepth 1000000
noncomputable def stub (g : Nat) : Option (List Value → Mem → K → Ans) := bif Nat.beq g 158 then some (tabStub wT) else bif Nat.beq g 161 then some (tabStub sT) else none
theorem stubOk : ∀ T : Tab, T.stub = stub → StubOk Go.Proofs.Tryz.prog T := by
  intro T hs g s hg args m k a mm h
  rw [hs] at hg
  unfold stub at hg
  cases h1 : Nat.beq g 158 with
  | true =>
    rw [h1] at hg
    cases hg
    rw [Nat.eq_of_beq_eq_true h1]
    exact tab_ok wOk args m k a mm h
  | false =>
    rw [h1] at hg
    cases h2 : Nat.beq g 161 with
    | true =>
      rw [h2] at hg
      cases hg
      rw [Nat.eq_of_beq_eq_true h2]
      exact tab_ok sOk args m k a mm h
    | false => rw [h2] at hg; cases hg
theorem run : okIs (.bool true) (withTab Go.Proofs.Tryz.prog stub (fun T => callF T 1000 4 [] ⟨.leaf, 0⟩ (fun v m => .ok v m))) = true := by kernel_rfl
theorem fixed_any (w : World) : Calls Go.Proofs.Tryz.prog 4 #[] w fun e w' => e = .returned (.bool true) ∧ Go.RowKit.Below w.heap.size w w' := by
  obtain ⟨mm, h⟩ := okIs_ok run
  obtain ⟨T, h1, hT, hs⟩ := withTab_ok names h
  exact told_true hT (stubOk T hs) follows h1 w
end Go.Proofs.YtpilmdfnbfcmkaaGreat.Lay
