/-
  For every input the law 'LexAhead' answers true, and the input reads as it did: the tied card Rows.LexAheadCardSaid, with no condition ahead of it.
-/
import Derived.Test.YteplbbjmbhgllaaGreatDoorRows
import Derived.Test.YteplbbjmbhgllaaGreatDoorCards
import Derived.Test.YteplbbjmbhgllaaGreatDoorTie
import Derived.Test.YteplbbjmbhgllaaGreatDoorLexM33
import Derived.Test.YteplbbjmbhgllaaGreatDoorLexP45
import Derived.Test.YteplbbjmbhgllaaGreatDoorLexP41
import Derived.LaidMore
import Derived.SevenTiedAt
import Derived.ChangeMaps5
import Derived.SizedLaws
import Derived.Stop.Joined
namespace Go.Proofs.YteplbbjmbhgllaaGreatDoor.lexAhead
open Go.ChangeShapes Go.WideShapes Go.ChangeAt Go.RowKit Go.Joins
set_option linter.unusedVariables false
set_option linter.unusedSimpArgs false

set_option maxRecDepth 100000 in
theorem lifted (os : Os) (started : os.Started) (H : Type) (enc : TypeId × Value → H) :
    ReturnsInHanded {} Tryz.checked os 6 .any (fun w args => (Rows.lexAheadSpec.pre enc Tryz.prog Tryz.f6 [] false w args ∧ laidMetH Tryz.prog laidL w) ∧ sizedMet enc Tryz.prog Tryz.f6 (OpenSpec.ofChange Rows.lexAheadSpec) false w args)
      (Rows.lexAheadSpec.post enc Tryz.prog Tryz.f6 false true false false) := by
  refine returnsInHanded_and_shaped (C := Tryz.checked) (X := fun w _ => laidMetH Tryz.prog laidL w) (fun _ _ _ hh h => h.of_heap hh) ownL started (by kernel_rfl) Tryz.func6
    (ChangeSpec.witness_shaped (enc := enc) (C := Tryz.checked) (os := os) (X := fun w _ => laidMetH Tryz.prog laidL w) false (World.laidAll Tryz.prog os laidL) #[.string ⟨#[]⟩, .string ⟨#[]⟩] 8 (World.laidAll_os _ _ _) (shapedL os _) (by kernel_rfl) (by kernel_rfl) (by kernel_rfl) (door_metL os _)) ?_
  intro W base args ds gs before hval0 hW _ hS hL hsh _
  have hval : ∀ (j : Nat) t v, Tryz.f6.params[j]? = some t → args[j]? = some v → Value.okWide Tryz.prog W .any base t v := hval0
  have hW' := hW
  obtain ⟨p, q, hA0, hV, rfl, hfz, hnd⟩ := hW
  have hA : DataW.TrodAll enc Tryz.prog W 0 (fun _ => true) true Tryz.f6.params.toList args.toList ds p := hA0
  have hAk := hA
  rw [Tryz.params6] at hA hval hS
  obtain ⟨v0, vs0, d0, ds0, p0, q0, hargs, rfl, rfl, h0, r0⟩ := trodAll_cons hA
  obtain ⟨v1, vs1, d1, ds1, p1, q1, rfl, rfl, rfl, h1, r1⟩ := trodAll_cons r0
  obtain ⟨rfl, rfl, rfl⟩ := trodAll_nil r1
  obtain rfl : args = #[v0, v1] := by cases args; simp_all
  obtain ⟨rfl, rfl⟩ := trodVars_none hV
  simp only [List.append_nil] at hW' hAk
  obtain ⟨s0, e0, f0, g0, ws0⟩ := ChangeMaps.open_string Tryz.underlying9 (hval 0 9 v0 rfl rfl) h0
  have z0 : s0.size ≤ 140737488355328 := by
    have hx := sized_string hS (j := 0) (t := 9) rfl (by rw [f0]; rfl)
    have hy := reachBytes_lt
    rw [szl] at hx
    omega
  obtain ⟨s1, e1, f1, g1, ws1⟩ := ChangeMaps.open_string Tryz.underlying9 (hval 1 9 v1 rfl rfl) h1
  have z1 : s1.size ≤ 140737488355328 := by
    have hx := sized_string hS (j := 1) (t := 9) rfl (by rw [f1]; rfl)
    have hy := reachBytes_lt
    rw [szl] at hx
    omega
  have hw := ahead_any s0 s1 z0 z1 W (tabs_of hL hsh) (size_of hsh)
  rw [← e0, ← e1] at hw
  refine hw.mono fun e W' ⟨he, hb⟩ => ?_
  exact ⟨_, he, law_post laidOutL (by rw [Tryz.params6]; intro t ht; simp only [List.mem_cons, List.not_mem_nil, or_false] at ht; rcases ht with rfl | rfl <;> exact ⟨by kernel_rfl, of_decide_eq_true (by kernel_rfl)⟩) rfl hAk hW' rfl (by kernel_rfl) Tryz.underlying4 hb rfl⟩

theorem over : Rows.lexAheadRow.holds Tryz.pinned (OpenSpec.ofChange Rows.lexAheadSpec) :=
  OpenClaim.holds_of_wide 6 Tryz.f6 rfl rfl rfl rfl rfl rfl rfl ⟨rfl, rfl, rfl, rfl, rfl⟩ rfl rfl rfl rfl rfl (by kernel_rfl) Tryz.func6 (by kernel_rfl)
    (of_decide_eq_true (by kernel_rfl)) (by unfold Func.isWrapper; first | (rw [if_pos (by decide +kernel)]; kernel_rfl) | (rw [if_neg (by decide +kernel)]; exact ⟨rfl, rfl⟩))
    (fun os started H enc _ => lifted os started H enc)

theorem proved : Rows.LexAheadCardSaid :=
  Claim7.holds_tied_plain_at .later [] [.data, .data, .data, .data, .data, .data, .data, .sentinel, .sentinel, .pinned, .pinned] true (true, "f6ffa5910c6d29c629fd2f6073e276f94114b4c7baa017cfa16e444231732f29") true
    over (fun _ h => by cases h) (by kernel_rfl) (fun _ h => by cases h) lexAhead_row_tie rfl ⟨rfl, rfl⟩ (by kernel_rfl) rfl
    (fun f fn hf hfn => by
      obtain rfl : f = 6 := Option.some.inj ((show Tryz.prog.funcNamed "alembic/alembiclaw04.LexAhead" = some 6 by kernel_rfl).symm.trans hf) |>.symm
      obtain rfl : fn = Tryz.f6 := (Option.some.inj (Tryz.func6.symm.trans hfn)).symm
      exact ⟨by kernel_rfl, fun j t ht => by
        rw [Tryz.params6] at ht
        have hm : t ∈ [9, 9] := by simpa using Array.mem_of_getElem? ht
        have hall : ([9, 9].all fun u => !Tryz.prog.wantsStandIn u) = true := by kernel_rfl
        exact (show Tryz.prog.wantsStandIn t = false by simpa using List.all_eq_true.1 hall t hm)⟩)
    (by kernel_rfl)
end Go.Proofs.YteplbbjmbhgllaaGreatDoor.lexAhead
