/-
  The program's set.add.
  The program's set.pass.
  The program's set.pass of a set into itself.
  A row of sets.
-/
import Derived.Test.YtadcjmfednachaaSolW17
import Derived.Test.YtadcjmfednachaaSolMap
import Derived.Maps.RangeWalk
namespace Go.Proofs.Ytadcjmfednachaa
open Go.RowKit Go.Maps
set_option linter.unusedVariables false
set_option linter.unusedSimpArgs false

theorem zero_unit : ∀ w, (zeroValue 54).run Try.prog w = .ok (.agg #[]) w := fun w => by kernel_rfl
section
variable {P : Program} {ops : Array Oper} {rest : List Oper} {o : Oper} {a : Act} {Q : Exit → Act → World → Prop} {w : World} {k : TypeId} {b : Nat} {l : List Int} {xv : Int}
theorem wpList_addL (hg : o.guard = none) (m x v : Operand) (t e : TypeId) (hop : o.op = Op.mapUpdate t m x v) (hk : P.underlying k = some (.int .i64)) (ht : P.underlying t = some (.map k e)) (h : MapL P k w b l) (hn : l.length < maxLen) (hw : I64w xv)
    (hm : a.eval m = .map (some b)) (hx : a.eval x = .int .i64 xv) (hv : a.eval v = .agg #[])
    (hK : ∀ w', MapL P k w' b (Sol.addI l xv) → w.grownBy w' (some b) → w'.heap.size = w.heap.size → wpList P ops Q rest (a.put o.dst undef) w') : wpList P ops Q (o :: rest) a w := by
  refine wpList_plain hg fun K' hK' => ?_
  obtain ⟨w', hrun, r1, r2, r3⟩ := h.put hk ht hn hw
  unfold Oper.wp
  simp [execOp, hop, hm, hx, hv, hrun, Result.andThen]
  exact hK' _ _ (hK w' r1 r2 r3)
theorem wpList_addT (hg : o.guard = none) (m x v : Operand) (t e : TypeId) (hop : o.op = Op.mapUpdate t m x v) (hk : P.underlying k = some (.int .i64)) (ht : P.underlying t = some (.map k e)) (h : MapL P k w b l) (hw : I64w xv) (hin : xv ∈ l)
    (hm : a.eval m = .map (some b)) (hx : a.eval x = .int .i64 xv) (hv : a.eval v = .agg #[])
    (hK : wpList P ops Q rest (a.put o.dst undef) w) : wpList P ops Q (o :: rest) a w := by
  refine wpList_plain hg fun K' hK' => ?_
  have hrun := put_there h hk ht hw hin
  unfold Oper.wp
  simp [execOp, hop, hm, hx, hv, hrun, Result.andThen]
  exact hK' _ _ hK
end
/-- What has been turned: one map's block alone. -/
def SetP (w : World) (b : Nat) (l : List Int) (r : Bool) (e : Ending) (w' : World) : Prop := e = .returned (.bool r) ∧ MapL Try.prog 3 w' b l ∧ w.grownBy w' (some b)
theorem passL_len (but : List Int) : ∀ (xs c : List Int), (Sol.passL but c xs).length ≤ c.length + xs.length
  | [], c => by rw [passL_nil]; simp
  | x :: xs, c => by
    show (Sol.passL but (if x ∈ but then c else Sol.addI c x) xs).length ≤ _
    have h2 := addI_le c x
    rw [List.length_cons]
    by_cases hx : x ∈ but
    · rw [if_pos hx]
      have h := passL_len but xs c
      omega
    · rw [if_neg hx]
      have h := passL_len but xs (Sol.addI c x)
      omega
set_option maxRecDepth 100000 in
set_option maxHeartbeats 4000000 in
theorem add_any (b : Nat) (l : List Int) (A : Option Addr) (n c : Nat) (xs : List Int) (w : World) (h : MapL Try.prog 3 w b l) (hs : RdL intC 1 w (.slice A n c) xs) (hne : 0 < xs.length → (Value.slice A n c).ownBlock ≠ some b) (hw : ∀ x ∈ xs, I64w x) (hl : l.length ≤ 1048576) (hx20 : xs.length ≤ 1048576) :
    Calls Try.prog 41 #[.map (some b), .slice A n c] w (SetP w b (Sol.passL [] l xs) (decide (l.length < (Sol.passL [] l xs).length))) := by
  obtain ⟨rfl, _, _⟩ := hs.lenEq
  have hlen0 := h.len Try.underlying52 3
  have HS := Lib.hid hs
  have HM0 := Lib.hid h
  have HW := Lib.hid hw
  have HNE := Lib.hid hne
  have HPL := Lib.hid (passL_len [] xs l)
  clear h hs hw hne
  have hA1 := cell_alloc_if
  have hA2 := frozen_alloc_if
  have hA3 := cell_set_if
  go_enter Try.func41, Try.ntmps41
  go_wp2
  go_loopw [12] (fun i wr => ∃ j : Nat, j ≤ xs.length ∧ i = .int .i64 j ∧ Hid (MapL Try.prog 3 wr b (Sol.passL [] l (xs.take j))) ∧ Hid (w.grownBy wr (some b))) (fun i _ => xs.length - (intOf i).toNat)
  case atStart => exact ⟨0, by omega, rfl, by rw [List.take_zero, passL_nil]; exact HM0, Lib.hid (grown_refl _ _)⟩
  case round =>
    clear hlen0 HM0
    obtain ⟨j, hj, rfl, HM, HG⟩ := hrel
    by_cases hlt : j < xs.length
    · obtain ⟨x, hx⟩ : ∃ x, xs[j]? = some x := ⟨_, List.getElem?_eq_getElem hlt⟩
      obtain ⟨b3, off3, e3, _, hb3, p30⟩ := HS.out.intAt hx
      have p3 := (World.cell?_of_block (a := ⟨b3, off3 + j, none⟩) (HG.out.block b3 hb3 (fun e => HNE.out (by omega) (by rw [e3]; exact e)))).trans p30
      have hxw := HW.out x (List.mem_of_getElem? hx)
      have hps := passL_step [] l hx
      rw [if_neg (by simp)] at hps
      have hll := passL_len [] (xs.take j) l
      rw [List.length_take] at hll
      have HPS := Lib.hid hps
      have HXW := Lib.hid hxw
      obtain ⟨l7, hl7⟩ : ∃ l7, l7 = Sol.passL [] l (xs.take j) := ⟨_, rfl⟩
      rw [← hl7] at HM HPS hll
      subst e3
      clear hx hps hxw hl7 p30
      go_wp2_with (at_mapUpdate; refine wpList_addL rfl _ _ _ _ 54 rfl Try.underlying3 Try.underlying52 HM.out (by unfold maxLen; omega) HXW.out rfl rfl rfl ?_; intro w7 hm7 hg7 hz7; have HM7 := Lib.hid hm7; have HG7 := Lib.hid (grown_trans HG.out hg7); clear hm7 hg7)
      go_roundw
      case rel => exact ⟨j + 1, by omega, by go_num, by rw [HPS.out]; exact HM7, HG7⟩
      case measure => simp [intOf]; omega
    · rw [List.take_of_length_le (by omega)] at HM
      have hlen1 := HM.out.len Try.underlying52 3
      have hpl := HPL.out
      obtain ⟨lf, hlf⟩ : ∃ lf, lf = Sol.passL [] l xs := ⟨_, rfl⟩
      rw [← hlf] at HM hlen1 hpl
      have HLF := Lib.hid hlf
      clear hlf
      go_wp2
      go_ret
      rw [← HLF.out]
      exact ⟨by simp, HM.out, HG.out⟩
end Go.Proofs.Ytadcjmfednachaa

namespace Go.Proofs.Ytadcjmfednachaa
open Go.RowKit Go.Maps
set_option linter.unusedVariables false
set_option linter.unusedSimpArgs false

/-- A set that may be nil. -/
def MapN (w : World) (o : Option Nat) (l : List Int) : Prop := (o = none ∧ l = []) ∨ ∃ b, o = some b ∧ MapL Try.prog 3 w b l
theorem MapN.look {w : World} {o : Option Nat} {l : List Int} (h : MapN w o l) {x : Int} (hx : I64w x) :
    (Instr.lookup 52 (.map o) (.int .i64 x) true).run Try.prog w = .ok (.tuple #[.agg #[], .bool (memB l x)]) w := by
  rcases h with ⟨rfl, rfl⟩ | ⟨b, rfl, h⟩
  · have := look_none (t := 52) (k := 3) (e := 54) Try.underlying3 Try.underlying52 zero_unit hx w
    simpa [memB] using this
  · exact h.look Try.underlying3 Try.underlying52 zero_unit hx
theorem MapN.kept {w w' : World} {o : Option Nat} {l : List Int} (h : MapN w o l) {row : Option Nat} (hg : w.grownBy w' row) (hne : ∀ b, o = some b → row ≠ some b) : MapN w' o l := by
  rcases h with ⟨rfl, rfl⟩ | ⟨b, rfl, h⟩
  · exact .inl ⟨rfl, rfl⟩
  · exact .inr ⟨b, rfl, h.block (hg.block b h.lt fun e => hne b rfl e.symm)⟩
/-- Which keys are still to come. -/
def LeftK (left : Lit → Bool) (lf ds : List Int) : Prop := ∀ j : Int, I64w j → left (.int .i64 j) = decide (j ∈ lf ∧ j ∉ ds)
theorem LeftK.step {left : Lit → Bool} {lf ds : List Int} {x : Int} (h : LeftK left lf ds) : LeftK (fun z => left z && !z.sameKey (.int .i64 x)) lf (ds ++ [x]) := by
  intro j hj
  show (left (.int .i64 j) && !(Lit.int .i64 j).sameKey (.int .i64 x)) = _
  rw [h j hj]
  have hs : (Lit.int .i64 j).sameKey (.int .i64 x) = decide (j = x) := by simp [Lit.sameKey]
  rw [hs]
  by_cases h1 : j = x <;> by_cases h2 : j ∈ lf <;> by_cases h3 : j ∈ ds <;> simp [h1, h2, h3] <;> simp_all
/-- A range over a set that is under way. -/
structure RngS (w wr : World) (b bf r n : Nat) (D : DataW Unit) (o : Option Nat) (lf lb l ds dm : List Int) (left : Lit → Bool) (cnt : Nat) : Prop where
  rng : wr.ranges Try.prog 3 unitElem bf r n D left cnt
  left_ : LeftK left lf ds
  sub : ds.Nodup ∧ ∀ x ∈ ds, x ∈ lf
  map : MapL Try.prog 3 wr b (Sol.passL lb l dm)
  but : MapN wr o lb
  grown : w.grownBy wr (some b)
  new : w.heap.size ≤ r
  old : b < w.heap.size ∧ bf < w.heap.size ∧ bf ≠ b ∧ ∀ q, o = some q → q < w.heap.size ∧ q ≠ b
section
variable {w wr w4 w7 : World} {b bf r n : Nat} {D : DataW Unit} {o : Option Nat} {lf lb l ds dm : List Int} {left : Lit → Bool} {cnt cnt' : Nat} {x : Int}
theorem RngS.next (h : RngS w wr b bf r n D o lf lb l ds dm left cnt) (hx : x ∈ lf) (hd : x ∉ ds) (hr : w4.ranges Try.prog 3 unitElem bf r n D (fun z => left z && !z.sameKey (.int .i64 x)) cnt') (hg : wr.grownBy w4 (some r)) :
    RngS w w4 b bf r n D o lf lb l (ds ++ [x]) dm (fun z => left z && !z.sameKey (.int .i64 x)) cnt' := by
  have ho := h.old
  have hn := h.new
  refine ⟨hr, h.left_.step, ⟨List.nodup_append.2 ⟨h.sub.1, by simp, fun a ha b hb e => by rw [List.mem_singleton] at hb; subst hb; exact hd (e ▸ ha)⟩, fun y hy => ?_⟩, h.map.block (hg.block b h.map.lt (by intro e; injection e with e; omega)), h.but.kept hg (fun q hq e => by injection e with e; have := ho.2.2.2 q hq; omega), ?_, hn, ho⟩
  · rw [List.mem_append, List.mem_singleton] at hy
    rcases hy with hy | rfl
    · exact h.sub.2 y hy
    · exact hx
  · exact h.grown.andThen hg fun j hj => .inl (by injection hj with hj; omega)
/-- Memory of its own that is made. -/
theorem RngS.step (h : RngS w wr b bf r n D o lf lb l ds dm left cnt) (hb : Below wr.heap.size wr w4) : RngS w w4 b bf r n D o lf lb l ds dm left cnt := by
  have hg : wr.grownBy w4 none := ⟨hb.os, hb.tape, hb.output, hb.size, fun i hi _ => hb.block i hi⟩
  exact ⟨h.rng.kept hg (by simp) (by simp), h.left_, h.sub, h.map.next hb, h.but.kept hg (by simp), grown_trans h.grown (hg.but _), h.new, h.old⟩
theorem RngS.put (h : RngS w wr b bf r n D o lf lb l ds dm left cnt) (hm : MapL Try.prog 3 w7 b (Sol.addI (Sol.passL lb l dm) x)) (hx : x ∉ lb) (hg : wr.grownBy w7 (some b)) : RngS w w7 b bf r n D o lf lb l ds (dm ++ [x]) left cnt := by
  have ho := h.old
  have hn := h.new
  refine ⟨h.rng.kept hg (by intro e; injection e with e; omega) (by intro e; injection e with e; omega), h.left_, h.sub, ?_, h.but.kept hg (fun q hq e => by injection e with e; have := ho.2.2.2 q hq; omega), grown_trans h.grown hg, h.new, h.old⟩
  rw [passL_snoc, if_neg hx]
  exact hm
theorem RngS.skip (h : RngS w wr b bf r n D o lf lb l ds dm left cnt) (hx : x ∈ lb) : RngS w wr b bf r n D o lf lb l ds (dm ++ [x]) left cnt :=
  ⟨h.rng, h.left_, h.sub, by rw [passL_snoc, if_pos hx]; exact h.map, h.but, h.grown, h.new, h.old⟩
end
theorem LeftK.done {left : Lit → Bool} {lf ds lb l : List Int} (h : LeftK left lf ds) (h0 : ∀ kl, left kl = false) (hs : ∀ x ∈ ds, x ∈ lf) (hw : ∀ x ∈ lf, I64w x) (hr : Sol.Rising l) : Sol.passL lb l ds = Sol.passL lb l lf := by
  refine Sol.passL_perm hr fun x => ⟨hs x, fun hx => ?_⟩
  have h1 := h x (hw x hx)
  rw [h0] at h1
  have h2 := of_decide_eq_false h1.symm
  by_cases hd : x ∈ ds
  · exact hd
  · exact absurd ⟨hx, hd⟩ h2
set_option maxRecDepth 100000 in
set_option maxHeartbeats 4000000 in
theorem pass_any (b bf : Nat) (o : Option Nat) (l lf lb : List Int) (w : World) (h : MapL Try.prog 3 w b l) (hf : MapL Try.prog 3 w bf lf) (hb : MapN w o lb) (hne : bf ≠ b) (hno : o ≠ some b) (hl : l.length ≤ 1048576) (hf20 : lf.length ≤ 1048576) :
    Calls Try.prog 38 #[.map (some b), .map (some bf), .map o] w (SetP w b (Sol.passL lb l lf) (decide (l.length < (Sol.passL lb l lf).length))) := by
  have hlen0 := h.len Try.underlying52 3
  have HM0 := Lib.hid h
  have HB0 := Lib.hid hb
  have HFW := Lib.hid hf.wf
  have HLR := Lib.hid h.rising
  have HPL := Lib.hid (passL_len lb lf l)
  obtain ⟨D, hD, hDs, _, _, hDh⟩ := hf
  have HD := Lib.hid hD
  have HDH := Lib.hid hDh
  have HDS := Lib.hid hDs
  have HK := Lib.hid (int_keyed (P := Try.prog) (k := 3) Try.underlying3)
  clear h hb hD hDh hDs
  have hA1 := cell_alloc_if
  have hA2 := frozen_alloc_if
  have hA3 := cell_set_if
  go_enter Try.func38, Try.ntmps38
  go_wp2_with (at_range; refine wpList_range_own _ rfl _ 52 rfl 3 54 HK.out Try.underlying52 unitElem bf lf.length D rfl HD.out ?_; intro w1 hrg hg1 hz1; go_frame)
  have HR0 : Hid (RngS w w1 b bf w.heap.size lf.length D o lf lb l [] [] (Maps.has D) (Maps.size D)) := Lib.hid
    ⟨hrg, fun j hj => by rw [HDH.out j hj]; simp, ⟨List.nodup_nil, by simp⟩, by rw [passL_nil]; exact HM0.out.block (hg1.block b HM0.out.lt (by simp)), HB0.out.kept hg1 (by simp), hg1.but _, Nat.le_refl _, HM0.out.lt, HD.out.lt, hne, fun q hq => ⟨by rcases HB0.out with ⟨e, _⟩ | ⟨q', e, hq'⟩ <;> rw [e] at hq <;> cases hq; exact hq'.lt, fun e => hno (by rw [hq, e])⟩⟩
  clear hrg hg1 hlen0 HM0 HB0 HD HDH hz1
  go_loopw [8] (fun v8 wr => ∃ (ds : List Int) (left : Lit → Bool) (cnt : Nat), Hid (RngS w wr b bf w.heap.size lf.length D o lf lb l ds ds left cnt)) (fun v8 wr => wr.rangeLeft bf w.heap.size)
  case atStart => exact ⟨[], _, _, HR0⟩
  case round =>
    clear HR0
    obtain ⟨ds, left, cnt, HR⟩ := hrel
    go_wp2_with (at_next; refine wpList_next_ranges _ rfl _ rfl 3 HK.out unitElem (fun x : Int => .int .i64 x) (fun _ : Unit => .agg #[]) ?invK ?invV bf w.heap.size lf.length D left cnt rfl HR.out.rng ?done ?more)
    case invK =>
      intro key kl hk
      obtain ⟨x, h1, _⟩ := keyOf_int_inv Try.underlying3 hk
      exact ⟨x, h1⟩
    case invV =>
      intro v y hv
      exact ⟨(), (unitElem_inv hv).1⟩
    case done =>
      intro h0 hall
      have HE : Hid (Sol.passL lb l ds = Sol.passL lb l lf) := Lib.hid (LeftK.done HR.out.left_ hall HR.out.sub.2 HFW.out HLR.out)
      have hlen1 := HR.out.map.len Try.underlying52 3
      have hll := HPL.out
      rw [← HE.out] at hll
      obtain ⟨lq, hlq⟩ : ∃ lq, lq = Sol.passL lb l ds := ⟨_, rfl⟩
      rw [← hlq] at hlen1 hll HE
      have HLQ := Lib.hid hlq
      clear hlq hall
      go_wp2
      go_ret
      rw [← HE.out]
      exact ⟨by simp, by rw [HLQ.out]; exact HR.out.map, HR.out.grown⟩
    case more =>
      intro x c kl y w4 cnt' hkey hleft _ _ hrg4 hcnt hg4 hz4 hent
      obtain ⟨x', e1, rfl, hxw⟩ := keyOf_int_inv Try.underlying3 hkey
      injection e1 with _ e1
      subst e1
      have hxl := HR.out.left_ x hxw
      rw [hleft] at hxl
      obtain ⟨hxf, hxd⟩ := of_decide_eq_true hxl.symm
      have HR4 := Lib.hid (HR.out.next hxf hxd hrg4 hg4)
      have hlook := HR4.out.but.look hxw
      have hcnt2 : cnt' < wr.rangeLeft bf w.heap.size := by rw [HR.out.rng.left_eq]; exact hcnt
      have hll := passL_len lb ds l
      have HXW := Lib.hid hxw
      have hdl : ds.length ≤ lf.length := Sol.nodup_sub_len HR.out.sub.1 HR.out.sub.2
      clear hkey hleft hrg4 hg4 hz4 hxl hxd hcnt HR hxw
      by_cases hm : x ∈ lb
      · rw [memB_yes hm] at hlook
        have HR5 : Hid (RngS w (w4.alloc (.cells #[] 54)) b bf w.heap.size lf.length D o lf lb l (ds ++ [x]) (ds ++ [x]) (fun z => left z && !z.sameKey (.int .i64 x)) cnt') := Lib.hid ((HR4.out.step (by (repeat' (first | (with_reducible exact Below.refl _ _) | (with_reducible assumption) | (with_reducible refine Below.setCell ?_ ?_ _) | (with_reducible refine Below.alloc ?_ ?_ _) | (with_reducible refine Below.drew ?_) | (with_reducible refine below_drewN ?_ _) | (with_reducible refine below_next ?_ (by with_reducible assumption)) | omega | (dsimp only; omega) | (simp only [World.size_alloc, World.size_setCell, World.size_drew, World.heap_drewN]; omega))))).skip hm)
        have hle := HR5.out.rng.left_eq
        clear hm
        go_wp2
        go_roundw
        case rel => exact ⟨_, _, _, HR5⟩
        case measure => rw [hle]; exact hcnt2
      · rw [memB_no hm] at hlook
        have HR5 := Lib.hid (HR4.out.step (w4 := w4.alloc (.cells #[] 54)) (by (repeat' (first | (with_reducible exact Below.refl _ _) | (with_reducible assumption) | (with_reducible refine Below.setCell ?_ ?_ _) | (with_reducible refine Below.alloc ?_ ?_ _) | (with_reducible refine Below.drew ?_) | (with_reducible refine below_drewN ?_ _) | (with_reducible refine below_next ?_ (by with_reducible assumption)) | omega | (dsimp only; omega) | (simp only [World.size_alloc, World.size_setCell, World.size_drew, World.heap_drewN]; omega)))))
        have HNM := Lib.hid hm
        clear hm
        go_wp2_with (at_mapUpdate; refine wpList_addL rfl _ _ _ _ 54 rfl Try.underlying3 Try.underlying52 HR5.out.map (by unfold maxLen; omega) HXW.out rfl rfl rfl ?_; intro w7 hm7 hg7 hz7; go_frame)
        have HR7 := Lib.hid (HR5.out.put hm7 HNM.out hg7)
        have hle := HR7.out.rng.left_eq
        clear hm7 hg7 hz7
        go_wp2
        go_roundw
        case rel => exact ⟨_, _, _, HR7⟩
        case measure => rw [hle]; exact hcnt2
end Go.Proofs.Ytadcjmfednachaa

namespace Go.Proofs.Ytadcjmfednachaa
open Go.RowKit Go.Maps
set_option linter.unusedVariables false
set_option linter.unusedSimpArgs false

theorem passL_self {lb l : List Int} (h : Sol.Rising l) : Sol.passL lb l l = l :=
  Sol.rising_ext (Sol.passL_rising _ _ _ h) h fun x => by
    rw [Sol.mem_passL]
    exact ⟨fun h => h.elim id And.left, .inl⟩
structure RngT (w wr : World) (b r n : Nat) (D : DataW Unit) (o : Option Nat) (l lb ds : List Int) (left : Lit → Bool) (cnt : Nat) : Prop where
  rng : wr.ranges Try.prog 3 unitElem b r n D left cnt
  left_ : LeftK left l ds
  map : MapL Try.prog 3 wr b l
  but : MapN wr o lb
  grown : w.grownBy wr none
  new : w.heap.size ≤ r
  old : b < w.heap.size ∧ ∀ q, o = some q → q < w.heap.size
section
variable {w wr w4 : World} {b r n : Nat} {D : DataW Unit} {o : Option Nat} {l lb ds : List Int} {left : Lit → Bool} {cnt cnt' : Nat} {x : Int}
theorem RngT.next (h : RngT w wr b r n D o l lb ds left cnt) (hr : w4.ranges Try.prog 3 unitElem b r n D (fun z => left z && !z.sameKey (.int .i64 x)) cnt') (hg : wr.grownBy w4 (some r)) :
    RngT w w4 b r n D o l lb (ds ++ [x]) (fun z => left z && !z.sameKey (.int .i64 x)) cnt' := by
  have ho := h.old
  have hn := h.new
  refine ⟨hr, h.left_.step, h.map.block (hg.block b h.map.lt (by intro e; injection e with e; omega)), h.but.kept hg (fun q hq e => by injection e with e; have := ho.2 q hq; omega), ?_, hn, ho⟩
  exact h.grown.andThen hg fun j hj => .inl (by injection hj with hj; omega)
theorem RngT.step (h : RngT w wr b r n D o l lb ds left cnt) (hb : Below wr.heap.size wr w4) : RngT w w4 b r n D o l lb ds left cnt := by
  have hg : wr.grownBy w4 none := ⟨hb.os, hb.tape, hb.output, hb.size, fun i hi _ => hb.block i hi⟩
  exact ⟨h.rng.kept hg (by simp) (by simp), h.left_, h.map.next hb, h.but.kept hg (by simp), grown_trans h.grown hg, h.new, h.old⟩
end
set_option maxRecDepth 100000 in
set_option maxHeartbeats 4000000 in
theorem pass_self (b : Nat) (o : Option Nat) (l lb : List Int) (w : World) (h : MapL Try.prog 3 w b l) (hb : MapN w o lb) (hl : l.length ≤ 1048576) :
    Calls Try.prog 38 #[.map (some b), .map (some b), .map o] w (SetP w b (Sol.passL lb l l) (decide (l.length < (Sol.passL lb l l).length))) := by
  rw [passL_self h.rising]
  have hlen0 := h.len Try.underlying52 3
  have HM0 := Lib.hid h
  have HB0 := Lib.hid hb
  have HFW := Lib.hid h.wf
  obtain ⟨D, hD, hDs, _, _, hDh⟩ := h
  have HD := Lib.hid hD
  have HDH := Lib.hid hDh
  have HK := Lib.hid (int_keyed (P := Try.prog) (k := 3) Try.underlying3)
  clear hb hD hDh hDs
  have hA1 := cell_alloc_if
  have hA2 := frozen_alloc_if
  have hA3 := cell_set_if
  go_enter Try.func38, Try.ntmps38
  go_wp2_with (at_range; refine wpList_range_own _ rfl _ 52 rfl 3 54 HK.out Try.underlying52 unitElem b l.length D rfl HD.out ?_; intro w1 hrg hg1 hz1; go_frame)
  have HR0 : Hid (RngT w w1 b w.heap.size l.length D o l lb [] (Maps.has D) (Maps.size D)) := Lib.hid
    ⟨hrg, fun j hj => by rw [HDH.out j hj]; simp, HM0.out.block (hg1.block b HM0.out.lt (by simp)), HB0.out.kept hg1 (by simp), hg1, Nat.le_refl _, HM0.out.lt, fun q hq => by rcases HB0.out with ⟨e, _⟩ | ⟨q', e, hq'⟩ <;> rw [e] at hq <;> cases hq; exact hq'.lt⟩
  clear hrg hg1 hlen0 HM0 HB0 HD HDH hz1
  go_loopw [8] (fun v8 wr => ∃ (ds : List Int) (left : Lit → Bool) (cnt : Nat), Hid (RngT w wr b w.heap.size l.length D o l lb ds left cnt)) (fun v8 wr => wr.rangeLeft b w.heap.size)
  case atStart => exact ⟨[], _, _, HR0⟩
  case round =>
    clear HR0
    obtain ⟨ds, left, cnt, HR⟩ := hrel
    go_wp2_with (at_next; refine wpList_next_ranges _ rfl _ rfl 3 HK.out unitElem (fun x : Int => .int .i64 x) (fun _ : Unit => .agg #[]) ?invK ?invV b w.heap.size l.length D left cnt rfl HR.out.rng ?done ?more)
    case invK =>
      intro key kl hk
      obtain ⟨x, h1, _⟩ := keyOf_int_inv Try.underlying3 hk
      exact ⟨x, h1⟩
    case invV =>
      intro v y hv
      exact ⟨(), (unitElem_inv hv).1⟩
    case done =>
      intro h0 hall
      have hlen1 := HR.out.map.len Try.underlying52 3
      clear hall
      go_wp2
      go_ret
      exact ⟨by simp, HR.out.map, HR.out.grown.but _⟩
    case more =>
      intro x c kl y w4 cnt' hkey hleft _ _ hrg4 hcnt hg4 hz4 hent
      obtain ⟨x', e1, rfl, hxw⟩ := keyOf_int_inv Try.underlying3 hkey
      injection e1 with _ e1
      subst e1
      have hxl := HR.out.left_ x hxw
      rw [hleft] at hxl
      obtain ⟨hxf, hxd⟩ := of_decide_eq_true hxl.symm
      have HR4 := Lib.hid (HR.out.next hrg4 hg4)
      have hlook := HR4.out.but.look hxw
      have hcnt2 : cnt' < wr.rangeLeft b w.heap.size := by rw [HR.out.rng.left_eq]; exact hcnt
      have HXW := Lib.hid hxw
      have HXF := Lib.hid hxf
      have HR5 := Lib.hid (HR4.out.step (w4 := w4.alloc (.cells #[] 54)) (by (repeat' (first | (with_reducible exact Below.refl _ _) | (with_reducible assumption) | (with_reducible refine Below.setCell ?_ ?_ _) | (with_reducible refine Below.alloc ?_ ?_ _) | (with_reducible refine Below.drew ?_) | (with_reducible refine below_drewN ?_ _) | (with_reducible refine below_next ?_ (by with_reducible assumption)) | omega | (dsimp only; omega) | (simp only [World.size_alloc, World.size_setCell, World.size_drew, World.heap_drewN]; omega)))))
      have hle := HR5.out.rng.left_eq
      clear hkey hleft hrg4 hg4 hz4 hxl hxd hcnt HR hxw hxf
      by_cases hm : x ∈ lb
      · rw [memB_yes hm] at hlook
        clear hm
        go_wp2
        go_roundw
        case rel => exact ⟨_, _, _, HR5⟩
        case measure => rw [hle]; exact hcnt2
      · rw [memB_no hm] at hlook
        clear hm
        go_wp2_with (at_mapUpdate; refine wpList_addT rfl _ _ _ _ 54 rfl Try.underlying3 Try.underlying52 HR5.out.map HXW.out HXF.out rfl rfl rfl ?_; go_frame)
        go_wp2
        go_roundw
        case rel => exact ⟨_, _, _, HR5⟩
        case measure => rw [hle]; exact hcnt2
end Go.Proofs.Ytadcjmfednachaa

namespace Go.Proofs.Ytadcjmfednachaa
open Go.RowKit Go.Maps
set_option linter.unusedVariables false
set_option linter.unusedSimpArgs false

def mapV (o : Option Nat) : Value := .map o
/-- Sets of the call's own: their values lie in block b0. -/
structure SetV (base : Nat) (w : World) (b0 : Nat) (os : List (Option Nat)) (a : List (List Int)) : Prop where
  low : base ≤ b0
  blk : w.heap[b0]? = some (.cells (os.map mapV).toArray 52 (0, 0))
  len : os.length = a.length
  row : ∀ (i : Nat) (o : Option Nat) (l : List Int), os[i]? = some o → a[i]? = some l → MapN w o l ∧ ∀ q, o = some q → base ≤ q ∧ q ≠ b0
  apart : ∀ (i j q : Nat), os[i]? = some (some q) → os[j]? = some (some q) → i = j
section
variable {base b0 : Nat} {w w' : World} {os : List (Option Nat)} {a : List (List Int)}
theorem SetV.lt (h : SetV base w b0 os a) : b0 < w.heap.size := (Array.getElem?_eq_some_iff.1 h.blk).1
theorem MapN.lt {o : Option Nat} {l : List Int} (h : MapN w o l) {q : Nat} (hq : o = some q) : q < w.heap.size := by
  rcases h with ⟨e, _⟩ | ⟨b, e, h⟩
  · rw [e] at hq; cases hq
  · rw [e] at hq; injection hq with hq; subst hq; exact h.lt
theorem MapN.block {o : Option Nat} {l : List Int} (h : MapN w o l) (hk : ∀ q, o = some q → w'.heap[q]? = w.heap[q]?) : MapN w' o l := by
  rcases h with ⟨e, e2⟩ | ⟨b, e, h⟩
  · exact .inl ⟨e, e2⟩
  · exact .inr ⟨b, e, h.block (hk b e)⟩
theorem SetV.keepF (h : SetV base w b0 os a) (hb : w'.heap[b0]? = w.heap[b0]?) (hr : ∀ (i q : Nat), os[i]? = some (some q) → w'.heap[q]? = w.heap[q]?) : SetV base w' b0 os a :=
  ⟨h.low, hb.trans h.blk, h.len, fun i o l h1 h2 => ⟨(h.row i o l h1 h2).1.block fun q hq => hr i q (hq ▸ h1), (h.row i o l h1 h2).2⟩, h.apart⟩
theorem SetV.rowLt (h : SetV base w b0 os a) {i q : Nat} (hq : os[i]? = some (some q)) : q < w.heap.size ∧ base ≤ q ∧ q ≠ b0 := by
  have hi : i < a.length := by rw [← h.len]; exact (List.getElem?_eq_some_iff.1 hq).1
  obtain ⟨h1, h2⟩ := h.row i _ _ hq (List.getElem?_eq_getElem hi)
  exact ⟨h1.lt rfl, h2 q rfl⟩
theorem SetV.next (h : SetV base w b0 os a) (hb : Below w.heap.size w w') : SetV base w' b0 os a :=
  h.keepF (hb.block b0 h.lt) fun i q hq => hb.block q (h.rowLt hq).1
theorem SetV.cell (h : SetV base w b0 os a) {i : Nat} {o : Option Nat} (ho : os[i]? = some o) : w.cell? ⟨b0, i, none⟩ = some (.map o) ∧ w.frozen? ⟨b0, i, none⟩ = false := by
  refine ⟨?_, Lib.frozen_of_heap h.blk _⟩
  rw [Lib.cell_of_heap h.blk]
  simp [ho, mapV]
theorem SetV.made {n : Nat} (hb : base ≤ b0) (h : w.heap[b0]? = some (.cells (Array.replicate n (.map none)) 52 (0, 0))) : SetV base w b0 (List.replicate n none) (List.replicate n []) := by
  refine ⟨hb, ?_, by simp, fun i o l h1 h2 => ?_, fun i j q h1 => ?_⟩
  · rw [h]; simp [mapV]
  · rw [List.getElem?_replicate] at h1 h2
    split at h1 <;> split at h2 <;> cases h1 <;> cases h2 <;> exact ⟨.inl ⟨rfl, rfl⟩, fun q h => by cases h⟩
  · rw [List.getElem?_replicate] at h1
    split at h1 <;> cases h1
/-- One set is turned within its block. -/
theorem SetV.turn (h : SetV base w b0 os a) {i q : Nat} {l' : List Int} (hq : os[i]? = some (some q)) (hg : w.grownBy w' (some q)) (hm : MapL Try.prog 3 w' q l') : SetV base w' b0 os (a.set i l') := by
  have hlt := h.lt
  obtain ⟨q1, q2, q3⟩ := h.rowLt hq
  refine ⟨h.low, (hg.block b0 hlt (by intro e; injection e with e; omega)).trans h.blk, by simp [h.len], fun j o l h1 h2 => ?_, h.apart⟩
  rw [List.getElem?_set] at h2
  by_cases hj : i = j
  · subst hj
    rw [if_pos rfl] at h2
    split at h2
    · cases h2
      rw [hq] at h1
      cases h1
      exact ⟨.inr ⟨q, rfl, hm⟩, fun q' e => by cases e; exact ⟨q2, q3⟩⟩
    · cases h2
  · rw [if_neg hj] at h2
    obtain ⟨k1, k2⟩ := h.row j o l h1 h2
    exact ⟨k1.block fun q' e => hg.block q' (k1.lt e) (by intro e2; injection e2 with e2; subst e2; exact hj (h.apart i j q' hq (e ▸ h1))), k2⟩
/-- A new set is put in. -/
theorem SetV.put (h : SetV base w b0 os a) (hbase : base ≤ w.heap.size) {i q : Nat} (hi : i < os.length) (hb : Below w.heap.size w w') (hq : w.heap.size ≤ q) (hm : MapL Try.prog 3 w' q []) : SetV base (w'.setCell ⟨b0, i, none⟩ (.map (some q))) b0 (os.set i (some q)) (a.set i []) := by
  have hlt := h.lt
  have hne : ∀ b, b ≠ b0 → (w'.setCell ⟨b0, i, none⟩ (.map (some q))).heap[b]? = w'.heap[b]? := by
    intro b hb
    simp only [World.setCell, Array.getElem?_modify]
    rw [if_neg (Ne.symm hb)]
  have hget : ∀ (j : Nat) (x : Option Nat), (os.set i (some q))[j]? = some x → (j = i ∧ x = some q) ∨ (j ≠ i ∧ os[j]? = some x) := by
    intro j x hx
    rw [List.getElem?_set] at hx
    by_cases e : i = j
    · rw [if_pos e, if_pos hi] at hx
      exact .inl ⟨e.symm, (Option.some.inj hx).symm⟩
    · rw [if_neg e] at hx
      exact .inr ⟨fun h => e h.symm, hx⟩
  refine ⟨h.low, ?_, by simp [h.len], fun j o l h1 h2 => ?_, fun j j' q' h1 h2 => ?_⟩
  · simp only [World.setCell, Array.getElem?_modify, if_true, (hb.block b0 hlt).trans h.blk]
    simp [mapV]
  · rw [List.getElem?_set] at h2
    rcases hget j o h1 with ⟨rfl, rfl⟩ | ⟨hj, h1⟩
    · rw [if_pos rfl] at h2
      split at h2
      · cases h2
        exact ⟨.inr ⟨q, rfl, hm.block (hne q (by omega))⟩, fun q' e => by cases e; omega⟩
      · cases h2
    · rw [if_neg (Ne.symm hj)] at h2
      obtain ⟨k1, k2⟩ := h.row j o l h1 h2
      exact ⟨k1.block fun q' e => (hne q' (k2 q' e).2).trans (hb.block q' (k1.lt e)), k2⟩
  · rcases hget j _ h1 with ⟨e1, e2⟩ | ⟨hj, k1⟩
    · rcases hget j' _ h2 with ⟨e3, e4⟩ | ⟨hj', k2⟩
      · rw [e1, e3]
      · injection e2 with e2
        have := (h.rowLt k2).1
        omega
    · rcases hget j' _ h2 with ⟨e3, e4⟩ | ⟨hj', k2⟩
      · injection e4 with e4
        have := (h.rowLt k1).1
        omega
      · exact h.apart j j' q' k1 k2
end
/-- What sets answers. -/
def setsOf (n : Nat) (m : List (List Int)) : List (List Int) := (List.range n).map fun (i : Nat) => Sol.passL [] [] (Sol.rowI m i)
def Full (os : List (Option Nat)) (k : Nat) : Prop := ∀ i, i < k → ∃ q, os[i]? = some (some q)
def SetsP (w : World) (a : List (List Int)) (e : Ending) (w' : World) : Prop := e = .returned (.slice (some ⟨w.heap.size, 0, none⟩) a.length a.length) ∧ (∃ os, SetV w.heap.size w' w.heap.size os a ∧ Full os a.length) ∧ Below w.heap.size w w'
theorem set_info : (Try.prog.info? 52).map (fun i => (i.zero, i.size, i.bytes)) = some (some (.map none), 1, 8) := by kernel_rfl
end Go.Proofs.Ytadcjmfednachaa
