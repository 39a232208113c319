/-
  The closed facts of the program that the row asks for, together.
-/
import Derived.Test.YtpilmdfnbfcmkaaGreatLayFact1
import Derived.Test.YtpilmdfnbfcmkaaGreatLayFact2
import Derived.Test.YtpilmdfnbfcmkaaGreatLayFact3
import Derived.Test.YtpilmdfnbfcmkaaGreatLayFact4
namespace Go.Proofs.YtpilmdfnbfcmkaaGreat.layoutPlaces
set_option maxRecDepth 1000000
theorem fact5 : (Tryz.prog.stopsHeard = true ∧ Tryz.prog.mayEnter = true) ∧ (Rows.layoutPlacesRow.lifted == Tryz.prog.liftsFinal) = true := ⟨⟨by kernel_rfl, by kernel_rfl⟩, by kernel_rfl⟩
theorem fact6 : laidOutB Tryz.prog = true ∧ mapsRowed Tryz.prog = true := ⟨by kernel_rfl, by kernel_rfl⟩
theorem closed : joinedFacts Tryz.prog 3 Tryz.f3 Rows.layoutPlacesSpec Rows.layoutPlacesRow = true := by
  unfold joinedFacts
  simp only [Bool.and_eq_true]
  repeat' (with_reducible apply And.intro)
  all_goals (first
    | (with_reducible exact fact1) | (with_reducible exact fact2) | (with_reducible exact fact3) | (with_reducible exact fact4)
    | (with_reducible exact fact5.1.1) | (with_reducible exact fact5.1.2) | (with_reducible exact fact5.2) | (with_reducible exact fact6.1) | (with_reducible exact fact6.2)
    | (as_aux_lemma => kernel_rfl))
end Go.Proofs.YtpilmdfnbfcmkaaGreat.layoutPlaces
