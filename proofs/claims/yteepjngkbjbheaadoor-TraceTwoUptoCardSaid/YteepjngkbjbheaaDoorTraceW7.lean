/-
  fixed() of layer 3: true.
-/
import Derived.Test.YteepjngkbjbheaaDoorTraceW6
import Derived.Test.YteepjngkbjbheaaDoorTraceW3
namespace Go.Proofs.YteepjngkbjbheaaDoor
open Go.RowKit
set_option linter.unusedVariables false
set_option linter.unusedSimpArgs false

def putN : ByteArray := ⟨#[112, 117, 116]⟩
theorem rd_one {α : Type} (f : α → List Value) (sz : Nat) (w : World) (b off c : Nat) (a : α) (hb : b < w.heap.size) (h1 : 1 ≤ c) (h2 : c ≤ maxLen) (hc : ∀ (j : Nat) (v : Value), (f a)[j]? = some v → w.cell? ⟨b, off + j, none⟩ = some v) :
    RdL f sz w (.slice (some ⟨b, off, none⟩) 1 c) [a] := by
  refine ⟨_, c, rfl, h1, h2, fun _ => ⟨b, off, rfl, hb, fun k x hk j v hv => ?_⟩⟩
  match k, hk with
  | 0, hk =>
    simp at hk; subst hk
    rw [Nat.zero_mul, Nat.add_zero]
    exact hc j v hv

theorem call_one (bp ba bs : Nat) (w : World) (lp : bp < w.heap.size) (la : ba < w.heap.size) (ls : bs < w.heap.size)
    (p1 : w.cell? ⟨bp, 0, none⟩ = some (.int .i64 1)) (a1 : w.cell? ⟨ba, 0, none⟩ = some (.int .i64 1)) (a2 : w.cell? ⟨ba, 1, none⟩ = some (.int .u64 1)) (a3 : w.cell? ⟨ba, 2, none⟩ = some (.int .i64 0)) (s1 : w.cell? ⟨bs, 0, none⟩ = some (.int .i64 4294967297)) :
    Calls Tryd.prog 7 #[.string ⟨#[112, 117, 116]⟩, .agg #[.slice (some ⟨bp, 0, none⟩) 1 1, .int .i64 1], .slice (some ⟨ba, 0, none⟩) 1 1, .slice (some ⟨bs, 0, none⟩) 1 1, .int .i64 0] w (CallOk ⟨#[112, 117, 116]⟩ [⟨1, 1, 0⟩] ⟨1, 1, 0⟩ w) := by
  have ha : RdL vCells 3 w (.slice (some ⟨ba, 0, none⟩) 1 1) [⟨1, 1, 0⟩] := rd_one _ _ _ _ _ _ _ la (by omega) (by decide) (by
    intro j v hv
    match j, hv with
    | 0, hv => injection hv with hv; subst hv; exact a1
    | 1, hv => injection hv with hv; subst hv; exact a2
    | 2, hv => injection hv with hv; subst hv; exact a3)
  have hp : RdL intCells 1 w (.slice (some ⟨bp, 0, none⟩) 1 1) [1] := rd_one _ _ _ _ _ _ _ lp (by omega) (by decide) (by
    intro j v hv
    match j, hv with
    | 0, hv => injection hv with hv; subst hv; exact p1)
  have hs : RdL longCells 1 w (.slice (some ⟨bs, 0, none⟩) 1 1) [4294967297] := rd_one _ _ _ _ _ _ _ ls (by omega) (by decide) (by
    intro j v hv
    match j, hv with
    | 0, hv => injection hv with hv; subst hv; exact s1)
  refine call_ok _ _ _ _ _ _ _ _ _ _ _ _ _ _ w (Lib.hid fun W hW => boolp_yes (equalVI_any _ _ _ _ W (ha.next hW) (hp.next hW)) ?_) (Lib.hid fun W hW => clone_any _ _ W (ha.next hW) (by decide)) (Lib.hid fun W hW => ?_)
  · refine ⟨rfl, fun i v k hv hk => ?_⟩
    match i, hv, hk with
    | 0, hv, hk =>
      injection hv with hv; injection hk with hk; subst hv hk
      unfold FitsV; decide
  · have h := answer_any 1 0 _ _ W (hs.next hW) (by intro x hx; simp at hx; subst hx; unfold I64; decide)
    have e : answerV 1 (scriptAt [4294967297] 0) = ⟨1, 1, 0⟩ := by kernel_rfl
    rw [e] at h
    exact h

theorem call_none (ba : Nat) (w : World) (la : ba < w.heap.size)
    (a1 : w.cell? ⟨ba, 0, none⟩ = some (.int .i64 1)) (a2 : w.cell? ⟨ba, 1, none⟩ = some (.int .u64 1)) (a3 : w.cell? ⟨ba, 2, none⟩ = some (.int .i64 0)) :
    Calls Tryd.prog 7 #[.string ⟨#[112, 117, 116]⟩, .agg #[.slice none 0 0, .int .i64 0], .slice (some ⟨ba, 0, none⟩) 1 1, .slice none 0 0, .int .i64 0] w (CallNo w) := by
  have ha : RdL vCells 3 w (.slice (some ⟨ba, 0, none⟩) 1 1) [⟨1, 1, 0⟩] := rd_one _ _ _ _ _ _ _ la (by omega) (by decide) (by
    intro j v hv
    match j, hv with
    | 0, hv => injection hv with hv; subst hv; exact a1
    | 1, hv => injection hv with hv; subst hv; exact a2
    | 2, hv => injection hv with hv; subst hv; exact a3)
  refine call_no _ _ _ _ _ _ _ _ _ _ _ _ w (Lib.hid fun W hW => boolp_no (equalVI_any _ _ _ _ W (ha.next hW) (RdL.nil _ _ _)) ?_)
  intro h
  have := h.1
  simp at this

/-- The one event's outcome, as it lies in memory. -/
structure One (w : World) (b b2 off2 c2 : Nat) : Prop where
  l1 : b < w.heap.size
  l2 : b2 < w.heap.size
  k1 : 1 ≤ c2
  k2 : c2 ≤ maxLen
  p1 : w.cell? ⟨b, 0, none⟩ = some (.string ⟨#[112, 117, 116]⟩)
  p2 : w.cell? ⟨b, 1, none⟩ = some (.slice (some ⟨b2, off2, none⟩) 1 c2)
  p3 : w.cell? ⟨b, 2, none⟩ = some (.int .i64 1)
  p4 : w.cell? ⟨b, 3, none⟩ = some (.int .u64 1)
  p5 : w.cell? ⟨b, 4, none⟩ = some (.int .i64 0)
  q1 : w.cell? ⟨b2, off2, none⟩ = some (.int .i64 1)
  q2 : w.cell? ⟨b2, off2 + 1, none⟩ = some (.int .u64 1)
  q3 : w.cell? ⟨b2, off2 + 2, none⟩ = some (.int .i64 0)
theorem One.next {w w' : World} {b b2 off2 c2 : Nat} (h : One w b b2 off2 c2) (hb : Below w.heap.size w w') : One w' b b2 off2 c2 := by
  obtain ⟨l1, l2, k1, k2, p1, p2, p3, p4, p5, q1, q2, q3⟩ := h
  exact ⟨Nat.lt_of_lt_of_le l1 hb.size, Nat.lt_of_lt_of_le l2 hb.size, k1, k2, (hb.cell (p := ⟨b, _, none⟩) l1).trans p1, (hb.cell (p := ⟨b, _, none⟩) l1).trans p2, (hb.cell (p := ⟨b, _, none⟩) l1).trans p3, (hb.cell (p := ⟨b, _, none⟩) l1).trans p4, (hb.cell (p := ⟨b, _, none⟩) l1).trans p5, (hb.cell (p := ⟨b2, _, none⟩) l2).trans q1, (hb.cell (p := ⟨b2, _, none⟩) l2).trans q2, (hb.cell (p := ⟨b2, _, none⟩) l2).trans q3⟩
def oneEv (b2 off2 c2 : Nat) : Ev := ⟨⟨#[112, 117, 116]⟩, .slice (some ⟨b2, off2, none⟩) 1 c2, [⟨1, 1, 0⟩], ⟨1, 1, 0⟩⟩
theorem One.args {w : World} {b b2 off2 c2 : Nat} (h : One w b b2 off2 c2) : RdL vCells 3 w (.slice (some ⟨b2, off2, none⟩) 1 c2) [⟨1, 1, 0⟩] :=
  rd_one _ _ _ _ _ _ _ h.l2 h.k1 h.k2 (by
    intro j v hv
    match j, hv with
    | 0, hv => injection hv with hv; subst hv; exact h.q1
    | 1, hv => injection hv with hv; subst hv; exact h.q2
    | 2, hv => injection hv with hv; subst hv; exact h.q3)
theorem One.evs {w : World} {b b2 off2 c2 : Nat} (h : One w b b2 off2 c2) : RdEvs w (.slice (some ⟨b, 0, none⟩) 1 1) [oneEv b2 off2 c2] := by
  refine ⟨rd_one _ _ _ _ _ _ _ h.l1 (by omega) (by decide) ?_, fun e he => ?_⟩
  · intro j v hv
    match j, hv with
    | 0, hv => injection hv with hv; subst hv; exact h.p1
    | 1, hv => injection hv with hv; subst hv; exact h.p2
    | 2, hv => injection hv with hv; subst hv; exact h.p3
    | 3, hv => injection hv with hv; subst hv; exact h.p4
    | 4, hv => injection hv with hv; subst hv; exact h.p5
  · simp at he; subst he
    exact h.args
theorem RdEvs.nil (w : World) : RdEvs w (.slice none 0 0) [] := ⟨RdL.nil _ _ _, fun e he => by simp at he⟩
theorem EqE.refl (a : List Ev) : EqE a a := ⟨rfl, (BeginsE.refl a).2⟩
theorem BeginsE.nil (a : List Ev) : BeginsE [] a := ⟨Nat.zero_le _, fun i x y hx => by simp at hx⟩

section
variable {w : World} {b b2 off2 c2 : Nat}
theorem text_one' (h : One w b b2 off2 c2) : Calls Tryd.prog 19 #[.agg #[.slice (some ⟨b, 0, none⟩) 1 1, .int .i64 1, .int .i32 0, .int .i64 0]] w fun e w' =>
    e = .returned (.string ⟨#[112, 117, 116, 40, 49, 41, 32, 61, 32, 49, 10, 101, 120, 105, 116, 101, 100, 32, 48, 10]⟩) ∧ Below w.heap.size w w' ∧ One w' b b2 off2 c2 :=
  (text_one b 0 1 b2 off2 c2 w h.l1 h.l2 h.p1 h.p2 h.p3 h.p4 h.p5 h.q1 h.q2 h.q3).mono fun e w' ⟨h1, h2⟩ => ⟨h1, h2, h.next h2⟩
theorem same_one (h : One w b b2 off2 c2) : Calls Tryd.prog 15 #[.agg #[.slice (some ⟨b, 0, none⟩) 1 1, .int .i64 1, .int .i32 0, .int .i64 0], .agg #[.slice (some ⟨b, 0, none⟩) 1 1, .int .i64 1, .int .i32 0, .int .i64 0]] w fun e w' =>
    e = .returned (.bool true) ∧ Below w.heap.size w w' ∧ One w' b b2 off2 c2 :=
  (boolp_yes (sameO_any _ _ ⟨[oneEv b2 off2 c2], 1, 0, 0⟩ ⟨[oneEv b2 off2 c2], 1, 0, 0⟩ w h.evs h.evs) ⟨rfl, rfl, EqE.refl _⟩).mono fun e w' ⟨h1, h2⟩ => ⟨h1, h2, h.next h2⟩
theorem begins_one (h : One w b b2 off2 c2) : Calls Tryd.prog 13 #[.slice none 0 0, .slice (some ⟨b, 0, none⟩) 1 1] w fun e w' =>
    e = .returned (.bool true) ∧ Below w.heap.size w w' ∧ One w' b b2 off2 c2 :=
  (boolp_yes (begins_any _ _ _ _ w (RdEvs.nil w) h.evs) (BeginsE.nil _)).mono fun e w' ⟨h1, h2⟩ => ⟨h1, h2, h.next h2⟩
theorem sameEvent_one (h : One w b b2 off2 c2) : Calls Tryd.prog 10 #[.agg #[.string ⟨#[112, 117, 116]⟩, .slice (some ⟨b2, off2, none⟩) 1 c2, .int .i64 1, .int .u64 1, .int .i64 0], .agg #[.string ⟨#[112, 117, 116]⟩, .slice (some ⟨b2, off2, none⟩) 1 c2, .int .i64 1, .int .u64 1, .int .i64 0]] w fun e w' =>
    e = .returned (.bool true) ∧ Below w.heap.size w w' ∧ One w' b b2 off2 c2 :=
  (boolp_yes (sameEvent_any (oneEv b2 off2 c2) (oneEv b2 off2 c2) w h.args h.args) (SameE.rfl' _)).mono fun e w' ⟨h1, h2⟩ => ⟨h1, h2, h.next h2⟩
theorem ref_val {w : World} {s1 s2 : Value} {a b : Out} (h1 : RdEvs w s1 a.tr) (h2 : RdEvs w s2 b.tr) (r : Bool) (hr : r = true ↔ RefinesO a b) : Ref w s1 s2 a b r := by
  obtain ⟨r', h, hi⟩ := ref_of h1 h2
  have : r' = r := Bool.eq_iff_iff.2 (hi.trans hr.symm)
  rw [← this]; exact h
theorem refines_one (h : One w b b2 off2 c2) : Calls Tryd.prog 17 #[.agg #[.slice (some ⟨b, 0, none⟩) 1 1, .int .i64 1, .int .i32 0, .int .i64 0], .agg #[.slice none 0 0, .int .i64 0, .int .i32 0, .int .i64 0]] w fun e w' =>
    e = .returned (.bool true) ∧ Below w.heap.size w w' ∧ One w' b b2 off2 c2 :=
  (ref_val (a := ⟨[oneEv b2 off2 c2], 1, 0, 0⟩) (b := ⟨[], 0, 0, 0⟩) h.evs (RdEvs.nil w) true ⟨fun _ => ⟨by decide, .inl ⟨rfl, .inr ⟨by decide, by decide, BeginsE.nil _⟩⟩⟩, fun _ => rfl⟩ w (Below.refl _ _)).mono fun e w' ⟨h1, h2⟩ => ⟨h1, h2, h.next h2⟩
theorem refines_wrong (h : One w b b2 off2 c2) : Calls Tryd.prog 17 #[.agg #[.slice (some ⟨b, 0, none⟩) 1 1, .int .i64 1, .int .i32 0, .int .i64 0], .agg #[.slice none 0 0, .int .i64 2, .int .i32 0, .int .i64 0]] w fun e w' =>
    e = .returned (.bool false) ∧ Below w.heap.size w w' ∧ One w' b b2 off2 c2 :=
  (ref_val (a := ⟨[oneEv b2 off2 c2], 1, 0, 0⟩) (b := ⟨[], 2, 0, 0⟩) h.evs (RdEvs.nil w) false ⟨fun h => (nomatch h), fun h => by
    rcases h.2 with ⟨_, ⟨k, _⟩ | ⟨_, k, _⟩⟩ | ⟨k | k, _⟩
    · exact absurd k (show ¬ ((2 : Int) = 1) by decide)
    · exact absurd rfl k
    · exact absurd k (show ¬ ((1 : Int) = 0) by decide)
    · exact absurd k (show ¬ ((1 : Int) = 2) by decide)⟩ w (Below.refl _ _)).mono fun e w' ⟨h1, h2⟩ => ⟨h1, h2, h.next h2⟩
theorem answer_3 (w : World) : Calls Tryd.prog 11 #[.int .i64 3, .slice none 0 0, .int .i64 3] w fun e w' => e = .returned (.agg #[.int .i64 3, .int .u64 0, .int .i64 0]) ∧ Below w.heap.size w w' := by
  have h := answer_any 3 3 (.slice none 0 0) [] w (RdL.nil _ _ _) (by simp)
  have e : answerV 3 (scriptAt [] 3) = ⟨3, 0, 0⟩ := by kernel_rfl
  rw [e] at h
  exact h
end

@[go_sem] theorem run_kind (a b c : Int) (w : World) : Sem.run Tryd.prog (Instr.field 30 (Value.agg #[.int .i64 a, .int .u64 b, .int .i64 c]) 0) w = .ok (.int .i64 a) w := by kernel_rfl
set_option maxRecDepth 100000 in
set_option maxHeartbeats 8000000 in
theorem fixed_any (w : World) : Calls Tryd.prog 6 #[] w fun e w' => e = .returned (.bool true) ∧ Below w.heap.size w w' := by
  have hA1 := cell_alloc_if
  have hA2 := frozen_alloc_if
  have hA3 := cell_set_if
  go_enter Tryd.func6, Tryd.ntmps6
  go_wp2_with (first
    | (go_at_call 7; (with_reducible refine (call_one _ _ _ _ ?_ ?_ ?_ ?_ ?_ ?_ ?_ ?_).mono ?_); (first | omega | (simp only [World.size_alloc, World.size_setCell, World.size_drew, World.heap_drewN]; omega)); (first | omega | (simp only [World.size_alloc, World.size_setCell, World.size_drew, World.heap_drewN]; omega)); (first | omega | (simp only [World.size_alloc, World.size_setCell, World.size_drew, World.heap_drewN]; omega)); (simp [go_sem, *, ↓IntWalk.iteOmega]); (simp [go_sem, *, ↓IntWalk.iteOmega]); (simp [go_sem, *, ↓IntWalk.iteOmega]); (simp [go_sem, *, ↓IntWalk.iteOmega]); (simp [go_sem, *, ↓IntWalk.iteOmega]); rintro e w1 ⟨s', rfl, hrd, hb1, hfr⟩; obtain ⟨b2, off2, c2, rfl, k1, k2, k3, k4⟩ := hrd.some_ (by decide); have q1 := k4 0 _ rfl 0 _ rfl; have q2 := k4 0 _ rfl 1 _ rfl; have q3 := k4 0 _ rfl 2 _ rfl; simp only [Nat.zero_mul, Nat.add_zero, List.length_cons, List.length_nil, Nat.zero_add] at q1 q2 q3 k1 ⊢; clear hrd hfr k4; obtain ⟨hc1, hf1, hz1⟩ := cif hb1; (try simp only [World.size_alloc, World.size_setCell, World.size_drew, World.heap_drewN] at hz1))
    | (go_at_call 7; (with_reducible refine (call_none _ _ ?_ ?_ ?_ ?_).mono ?_); (first | omega | (simp only [World.size_alloc, World.size_setCell, World.size_drew, World.heap_drewN]; omega)); (simp [go_sem, *, ↓IntWalk.iteOmega]); (simp [go_sem, *, ↓IntWalk.iteOmega]); (simp [go_sem, *, ↓IntWalk.iteOmega]); rintro e w2 ⟨rfl, hb2⟩; obtain ⟨hc2, hf2, hz2⟩ := cif hb2; (try simp only [World.size_alloc, World.size_setCell, World.size_drew, World.heap_drewN] at hz2))
    | (go_at_call 19; (with_reducible refine (text_one' (b2 := b2) (off2 := off2) (c2 := c2) ?hone).mono ?_); (case hone => exact ⟨by first | omega | (simp only [World.size_alloc, World.size_setCell, World.size_drew, World.heap_drewN]; omega), by first | omega | (simp only [World.size_alloc, World.size_setCell, World.size_drew, World.heap_drewN]; omega), by assumption, by assumption, by simp [go_sem, *, ↓IntWalk.iteOmega], by simp [go_sem, *, ↓IntWalk.iteOmega], by simp [go_sem, *, ↓IntWalk.iteOmega], by simp [go_sem, *, ↓IntWalk.iteOmega], by simp [go_sem, *, ↓IntWalk.iteOmega], by simp [go_sem, *, ↓IntWalk.iteOmega], by simp [go_sem, *, ↓IntWalk.iteOmega], by simp [go_sem, *, ↓IntWalk.iteOmega]⟩); rintro e w1 ⟨rfl, hb1, HO1⟩; have HO := Lib.hid HO1; obtain ⟨hc1, hf1, hz1⟩ := cif hb1; (try simp only [World.size_alloc, World.size_setCell, World.size_drew, World.heap_drewN] at hz1); clear HO1)
    | (go_at_call 15; (with_reducible refine (same_one (HO.out.next (by (repeat' (first | (with_reducible exact Below.refl _ _) | (with_reducible assumption) | (with_reducible refine Below.setCell ?_ ?_ _) | (with_reducible refine Below.alloc ?_ ?_ _) | (with_reducible refine Below.drew ?_) | (with_reducible refine below_drewN ?_ _) | (with_reducible refine below_next ?_ (by with_reducible assumption)) | omega | (dsimp only; omega) | (simp only [World.size_alloc, World.size_setCell, World.size_drew, World.heap_drewN]; omega)))))).mono ?_); clear HO; rintro e w1 ⟨rfl, hb1, HO1⟩; have HO := Lib.hid HO1; obtain ⟨hc1, hf1, hz1⟩ := cif hb1; (try simp only [World.size_alloc, World.size_setCell, World.size_drew, World.heap_drewN] at hz1); clear HO1)
    | (go_at_call 13; (with_reducible refine (begins_one (HO.out.next (by (repeat' (first | (with_reducible exact Below.refl _ _) | (with_reducible assumption) | (with_reducible refine Below.setCell ?_ ?_ _) | (with_reducible refine Below.alloc ?_ ?_ _) | (with_reducible refine Below.drew ?_) | (with_reducible refine below_drewN ?_ _) | (with_reducible refine below_next ?_ (by with_reducible assumption)) | omega | (dsimp only; omega) | (simp only [World.size_alloc, World.size_setCell, World.size_drew, World.heap_drewN]; omega)))))).mono ?_); clear HO; rintro e w1 ⟨rfl, hb1, HO1⟩; have HO := Lib.hid HO1; obtain ⟨hc1, hf1, hz1⟩ := cif hb1; (try simp only [World.size_alloc, World.size_setCell, World.size_drew, World.heap_drewN] at hz1); clear HO1)
    | (go_at_call 10; (with_reducible refine (sameEvent_one (HO.out.next (by (repeat' (first | (with_reducible exact Below.refl _ _) | (with_reducible assumption) | (with_reducible refine Below.setCell ?_ ?_ _) | (with_reducible refine Below.alloc ?_ ?_ _) | (with_reducible refine Below.drew ?_) | (with_reducible refine below_drewN ?_ _) | (with_reducible refine below_next ?_ (by with_reducible assumption)) | omega | (dsimp only; omega) | (simp only [World.size_alloc, World.size_setCell, World.size_drew, World.heap_drewN]; omega)))))).mono ?_); clear HO; rintro e w1 ⟨rfl, hb1, HO1⟩; have HO := Lib.hid HO1; obtain ⟨hc1, hf1, hz1⟩ := cif hb1; (try simp only [World.size_alloc, World.size_setCell, World.size_drew, World.heap_drewN] at hz1); clear HO1)
    | (go_at_call 17; (with_reducible refine (refines_one (HO.out.next (by (repeat' (first | (with_reducible exact Below.refl _ _) | (with_reducible assumption) | (with_reducible refine Below.setCell ?_ ?_ _) | (with_reducible refine Below.alloc ?_ ?_ _) | (with_reducible refine Below.drew ?_) | (with_reducible refine below_drewN ?_ _) | (with_reducible refine below_next ?_ (by with_reducible assumption)) | omega | (dsimp only; omega) | (simp only [World.size_alloc, World.size_setCell, World.size_drew, World.heap_drewN]; omega)))))).mono ?_); clear HO; rintro e w1 ⟨rfl, hb1, HO1⟩; have HO := Lib.hid HO1; obtain ⟨hc1, hf1, hz1⟩ := cif hb1; (try simp only [World.size_alloc, World.size_setCell, World.size_drew, World.heap_drewN] at hz1); clear HO1)
    | (go_at_call 17; (with_reducible refine (refines_wrong (HO.out.next (by (repeat' (first | (with_reducible exact Below.refl _ _) | (with_reducible assumption) | (with_reducible refine Below.setCell ?_ ?_ _) | (with_reducible refine Below.alloc ?_ ?_ _) | (with_reducible refine Below.drew ?_) | (with_reducible refine below_drewN ?_ _) | (with_reducible refine below_next ?_ (by with_reducible assumption)) | omega | (dsimp only; omega) | (simp only [World.size_alloc, World.size_setCell, World.size_drew, World.heap_drewN]; omega)))))).mono ?_); clear HO; rintro e w1 ⟨rfl, hb1, HO1⟩; have HO := Lib.hid HO1; obtain ⟨hc1, hf1, hz1⟩ := cif hb1; (try simp only [World.size_alloc, World.size_setCell, World.size_drew, World.heap_drewN] at hz1); clear HO1)
    | (go_at_call 11; (with_reducible refine (answer_3 _).mono ?_); rintro e w1 ⟨rfl, hb1⟩; obtain ⟨hc1, hf1, hz1⟩ := cif hb1; (try simp only [World.size_alloc, World.size_setCell, World.size_drew, World.heap_drewN] at hz1)))
  all_goals (go_returns; exact ⟨rfl, by (repeat' (first | (with_reducible exact Below.refl _ _) | (with_reducible assumption) | (with_reducible refine Below.setCell ?_ ?_ _) | (with_reducible refine Below.alloc ?_ ?_ _) | (with_reducible refine Below.drew ?_) | (with_reducible refine below_drewN ?_ _) | (with_reducible refine below_next ?_ (by with_reducible assumption)) | omega | (dsimp only; omega) | (simp only [World.size_alloc, World.size_setCell, World.size_drew, World.heap_drewN]; omega)))⟩)

end Go.Proofs.YteepjngkbjbheaaDoor
