/-
  Calls from outside: the program and the reference answer alike.
-/
import Derived.Test.YteepjngkbjbheaaDoorTraceR1
namespace Go.Proofs.YteepjngkbjbheaaDoor
open Go.RowKit
set_option linter.unusedVariables false
set_option linter.unusedSimpArgs false

theorem call_any (name : ByteArray) (sp sa ss : Value) (ks : List Int) (l : List V) (r n : Int) (v : V) (w : World) (h1 : RdL vCells 3 w sa l) (h2 : RdL intCells 1 w sp ks) (h3 : ∃ A n c, ss = .slice A n c) (hsz : l.length * 24 ≤ 140737488355328)
    (HA : Hid (∀ W, Ext w W → Calls Tryd.prog 11 #[.int .i64 r, ss, .int .i64 n] W fun e w' => e = .returned (.agg #[.int .i64 v.k, .int .u64 v.b, .int .i64 v.l]) ∧ Below W.heap.size W w')) :
    Calls Tryd.prog 7 #[.string name, .agg #[sp, .int .i64 r], sa, ss, .int .i64 n] w (CallP name l ks v w) := by
  obtain ⟨A3, n3, c3, rfl⟩ := h3
  have HQ := fun W (hW : Ext w W) => equalVI_any _ _ _ _ W (h1.next hW) (h2.next hW)
  have HC := fun W (hW : Ext w W) => clone_any _ _ W (h1.next hW) hsz
  obtain ⟨A1, c1, rfl⟩ := h1.form
  obtain ⟨A2, c2, rfl⟩ := h2.form
  by_cases hf : FitsAll l ks
  · exact (call_ok name A2 A1 A3 _ c2 _ c1 n3 c3 r n l v w (Lib.hid fun W hW => boolp_yes (HQ W hW) hf) (Lib.hid HC) HA).mono fun e w' h => .inl ⟨hf, h⟩
  · exact (call_no name A2 A1 A3 _ c2 _ c1 n3 c3 r n w (Lib.hid fun W hW => boolp_no (HQ W hW) hf)).mono fun e w' h => .inr ⟨hf, h⟩

/-- What a call from outside gives, in one form. -/
def CallQ (name : ByteArray) (l : List V) (v : V) (ok : Bool) (w : World) (e : Ending) (w' : World) : Prop :=
  ∃ s', e = .returned (.tuple #[.agg #[.string name, s', .int .i64 v.k, .int .u64 v.b, .int .i64 v.l], .bool ok]) ∧ RdL vCells 3 w' s' l ∧ Below w.heap.size w w' ∧ (∀ b, s'.ownBlock = some b → w.heap.size ≤ b)
theorem callq (name : ByteArray) (l : List V) (ks : List Int) (v : V) : ∃ name' l' v' ok, ∀ w e w', CallP name l ks v w e w' → CallQ name' l' v' ok w e w' := by
  by_cases h : FitsAll l ks
  · refine ⟨name, l, v, true, fun w e w' hc => ?_⟩
    rcases hc with ⟨_, hc⟩ | ⟨h', _⟩
    · exact hc
    · exact absurd h h'
  · refine ⟨⟨#[]⟩, [], ⟨0, 0, 0⟩, false, fun w e w' hc => ?_⟩
    rcases hc with ⟨h', _⟩ | ⟨_, he, hb⟩
    · exact absurd h' h
    · exact ⟨_, he, RdL.nil _ _ _, hb, fun b hb => by simp [Value.ownBlock] at hb⟩

abbrev CallsT (f : FuncId) (name : ByteArray) (l : List V) (ks : List Int) (sc : List Int) (r n : Int) (name' : ByteArray) (l' : List V) (v' : V) (ok : Bool) : Prop :=
  ∀ W sp A1 n1 c1 A3 n3 c3, RdL vCells 3 W (.slice A1 n1 c1) l → RdL intCells 1 W sp ks → RdL longCells 1 W (.slice A3 n3 c3) sc → Calls Tryd.prog f #[.string name, .agg #[sp, .int .i64 r], .slice A1 n1 c1, .slice A3 n3 c3, .int .i64 n] W (CallQ name' l' v' ok W)
theorem calls_agree (name : ByteArray) (l : List V) (ks : List Int) (sc : List Int) (r n : Int) (hsz : l.length * 24 ≤ 140737488355328) (hsc : ∀ x ∈ sc, I64 x) : ∃ name' l' v' ok,
    CallsT 7 name l ks sc r n name' l' v' ok ∧ CallsT 8 name l ks sc r n name' l' v' ok := by
  obtain ⟨name', l', v', ok, hq⟩ := callq name l ks (answerV r (scriptAt sc n))
  refine ⟨name', l', v', ok, fun W sp A1 n1 c1 A3 n3 c3 h1 h2 h3 => ?_, fun W sp A1 n1 c1 A3 n3 c3 h1 h2 h3 => ?_⟩
  · exact (call_any name sp _ _ ks l r n _ W h1 h2 ⟨_, _, _, rfl⟩ hsz (Lib.hid fun W' hW => answer_any r n _ sc W' (h3.next hW) hsc)).mono fun e w' h => hq _ _ _ h
  · exact (ref_call_any name sp _ _ ks l r n _ W h1 h2 ⟨_, _, _, rfl⟩ hsz (Lib.hid fun W' hW => ref_answer_any r n _ sc W' (h3.next hW) hsc)).mono fun e w' h => hq _ _ _ h

end Go.Proofs.YteepjngkbjbheaaDoor
