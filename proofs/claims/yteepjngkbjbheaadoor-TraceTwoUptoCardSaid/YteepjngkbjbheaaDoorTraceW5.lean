/-
  trace.Call.
-/
import Derived.Test.YteepjngkbjbheaaDoorTraceW4
import Derived.Deep.RegionWith
namespace Go.Proofs.YteepjngkbjbheaaDoor
open Go.RowKit
set_option linter.unusedVariables false
set_option linter.unusedSimpArgs false

def CallOk (name : ByteArray) (l : List V) (v : V) (w : World) (e : Ending) (w' : World) : Prop :=
  ∃ s', e = .returned (.tuple #[.agg #[.string name, s', .int .i64 v.k, .int .u64 v.b, .int .i64 v.l], .bool true]) ∧ RdL vCells 3 w' s' l ∧ Below w.heap.size w w' ∧ (∀ b, s'.ownBlock = some b → w.heap.size ≤ b)
def CallNo (w : World) (e : Ending) (w' : World) : Prop :=
  e = .returned (.tuple #[.agg #[.string ⟨#[]⟩, .slice none 0 0, .int .i64 0, .int .u64 0, .int .i64 0], .bool false]) ∧ Below w.heap.size w w'

set_option maxRecDepth 100000 in
set_option maxHeartbeats 8000000 in
theorem call_no (name : ByteArray) (Ap Aa As : Option Addr) (np cp na ca ns cs : Nat) (r n : Int) (w : World)
    (HQ : Hid (∀ W, Ext w W → Calls Tryd.prog 22 #[.slice Aa na ca, .slice Ap np cp, .func (.func 21) #[] #[]] W fun e w' => e = .returned (.bool false) ∧ Below W.heap.size W w')) :
    Calls Tryd.prog 7 #[.string name, .agg #[.slice Ap np cp, .int .i64 r], .slice Aa na ca, .slice As ns cs, .int .i64 n] w (CallNo w) := by
  have hA1 := cell_alloc_if
  have hA2 := frozen_alloc_if
  have hA3 := cell_set_if
  go_enter Tryd.func7, Tryd.ntmps7
  go_wp2_with (go_at_call 22; (with_reducible refine (HQ.out _ (by unfold Ext; (repeat' (first | (with_reducible exact Below.refl _ _) | (with_reducible assumption) | (with_reducible refine Below.setCell ?_ ?_ _) | (with_reducible refine Below.alloc ?_ ?_ _) | (with_reducible refine Below.drew ?_) | (with_reducible refine below_drewN ?_ _) | (with_reducible refine below_next ?_ (by with_reducible assumption)) | omega | (dsimp only; omega) | (simp only [World.size_alloc, World.size_setCell, World.size_drew, World.heap_drewN]; omega))))).mono ?_); rintro e w' ⟨rfl, hbl⟩; obtain ⟨hc, hf, hz⟩ := cif hbl; (try simp only [World.size_alloc, World.size_setCell, World.size_drew, World.heap_drewN] at hz))
  all_goals (((try simp only [Exit.inBlock, Exit.then]); go_light; refine bodyPost_ret (by simp [results, Tryd.results7, go_sem, *, ↓IntWalk.iteOmega]; try rfl) rfl ?_); exact ⟨rfl, by (repeat' (first | (with_reducible exact Below.refl _ _) | (with_reducible assumption) | (with_reducible refine Below.setCell ?_ ?_ _) | (with_reducible refine Below.alloc ?_ ?_ _) | (with_reducible refine Below.drew ?_) | (with_reducible refine below_drewN ?_ _) | (with_reducible refine below_next ?_ (by with_reducible assumption)) | omega | (dsimp only; omega) | (simp only [World.size_alloc, World.size_setCell, World.size_drew, World.heap_drewN]; omega)))⟩)

set_option maxRecDepth 100000 in
set_option maxHeartbeats 8000000 in
theorem call_ok (name : ByteArray) (Ap Aa As : Option Addr) (np cp na ca ns cs : Nat) (r n : Int) (l : List V) (v : V) (w : World)
    (HQ : Hid (∀ W, Ext w W → Calls Tryd.prog 22 #[.slice Aa na ca, .slice Ap np cp, .func (.func 21) #[] #[]] W fun e w' => e = .returned (.bool true) ∧ Below W.heap.size W w'))
    (HC : Hid (∀ W, Ext w W → Calls Tryd.prog 23 #[.slice Aa na ca] W (CloneP l W)))
    (HA : Hid (∀ W, Ext w W → Calls Tryd.prog 11 #[.int .i64 r, .slice As ns cs, .int .i64 n] W fun e w' => e = .returned (.agg #[.int .i64 v.k, .int .u64 v.b, .int .i64 v.l]) ∧ Below W.heap.size W w')) :
    Calls Tryd.prog 7 #[.string name, .agg #[.slice Ap np cp, .int .i64 r], .slice Aa na ca, .slice As ns cs, .int .i64 n] w (CallOk name l v w) := by
  have hA1 := cell_alloc_if
  have hA2 := frozen_alloc_if
  have hA3 := cell_set_if
  go_enter Tryd.func7, Tryd.ntmps7
  go_wp2_with (go_at_call 22; (with_reducible refine (HQ.out _ (by unfold Ext; (repeat' (first | (with_reducible exact Below.refl _ _) | (with_reducible assumption) | (with_reducible refine Below.setCell ?_ ?_ _) | (with_reducible refine Below.alloc ?_ ?_ _) | (with_reducible refine Below.drew ?_) | (with_reducible refine below_drewN ?_ _) | (with_reducible refine below_next ?_ (by with_reducible assumption)) | omega | (dsimp only; omega) | (simp only [World.size_alloc, World.size_setCell, World.size_drew, World.heap_drewN]; omega))))).mono ?_); rintro e w1 ⟨rfl, hb1⟩; obtain ⟨hc1, hf1, hz1⟩ := cif hb1; simp only [World.size_alloc] at hz1)
  go_region_with (first
    | (go_at_call 23; (with_reducible refine (HC.out _ (by unfold Ext; (repeat' (first | (with_reducible exact Below.refl _ _) | (with_reducible assumption) | (with_reducible refine Below.setCell ?_ ?_ _) | (with_reducible refine Below.alloc ?_ ?_ _) | (with_reducible refine Below.drew ?_) | (with_reducible refine below_drewN ?_ _) | (with_reducible refine below_next ?_ (by with_reducible assumption)) | omega | (dsimp only; omega) | (simp only [World.size_alloc, World.size_setCell, World.size_drew, World.heap_drewN]; omega))))).mono ?_); rintro e w2 ⟨s', rfl, hrd, hb2, hfr⟩; obtain ⟨A', c', rfl⟩ := hrd.form; obtain ⟨hc2, hf2, hz2⟩ := cif hb2; (try simp only [World.size_alloc, World.size_setCell, World.size_drew, World.heap_drewN] at hz2))
    | (go_at_call 11; (with_reducible refine (HA.out _ (by unfold Ext; (repeat' (first | (with_reducible exact Below.refl _ _) | (with_reducible assumption) | (with_reducible refine Below.setCell ?_ ?_ _) | (with_reducible refine Below.alloc ?_ ?_ _) | (with_reducible refine Below.drew ?_) | (with_reducible refine below_drewN ?_ _) | (with_reducible refine below_next ?_ (by with_reducible assumption)) | omega | (dsimp only; omega) | (simp only [World.size_alloc, World.size_setCell, World.size_drew, World.heap_drewN]; omega))))).mono ?_); rintro e w3 ⟨rfl, hb3⟩; obtain ⟨hc3, hf3, hz3⟩ := cif hb3; (try simp only [World.size_alloc, World.size_setCell, World.size_drew, World.heap_drewN] at hz3)))
  all_goals
    go_wp2
    ((try simp only [Exit.inBlock, Exit.then]); go_light; refine bodyPost_ret (by simp [results, Tryd.results7, go_sem, *, ↓IntWalk.iteOmega]; try rfl) rfl ?_)
    refine ⟨_, rfl, ?_, by (repeat' (first | (with_reducible exact Below.refl _ _) | (with_reducible assumption) | (with_reducible refine Below.setCell ?_ ?_ _) | (with_reducible refine Below.alloc ?_ ?_ _) | (with_reducible refine Below.drew ?_) | (with_reducible refine below_drewN ?_ _) | (with_reducible refine below_next ?_ (by with_reducible assumption)) | omega | (dsimp only; omega) | (simp only [World.size_alloc, World.size_setCell, World.size_drew, World.heap_drewN]; omega))), fun b hb => ?_⟩
    · refine hrd.keepB fun b hb hlt => ?_
      have h1 := hfr b hb
      simp only [World.size_alloc, World.size_setCell, World.size_drew, World.heap_drewN] at h1 ⊢
      refine ⟨by omega, fun o => ?_⟩
      simp [*, ↓IntWalk.iteOmega]
    · have h1 := hfr b hb
      simp only [World.size_alloc, World.size_setCell, World.size_drew, World.heap_drewN] at h1
      omega

end Go.Proofs.YteepjngkbjbheaaDoor
