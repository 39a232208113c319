/-
  For every input the law 'MemoryPlays' answers true, and the input reads as it did: the statement Rows.MemoryPlaysSaid, with no condition ahead of it.
-/
import Derived.Test.YtddipbpllogbaaaRows
import Derived.Test.YtddipbpllogbaaaFrame
import Derived.Test.YtddipbpllogbaaaMachWf
import Derived.Test.YtddipbpllogbaaaArgs
import Derived.SizedLaws
import Derived.Test.YtddipbpllogbaaaPlays
namespace Go.Proofs.Ytddipbpllogbaaa.memoryPlays
open Go.ChangeShapes Go.WideShapes Go.ChangeAt Go.RowKit Go.Joins
set_option linter.unusedVariables false

theorem own : ownKnob Try.prog.godebug = none := by kernel_rfl
theorem laidOut : laidOutB Try.prog = true := by kernel_rfl

theorem cells_op : Try.prog.cellsOf 34 = 9 := by kernel_rfl
theorem bytes_op : Try.prog.bytesOf 34 = 72 := by kernel_rfl
theorem cells_V : Try.prog.cellsOf 32 = 3 := by kernel_rfl
theorem cells_int : Try.prog.cellsOf 3 = 1 := by kernel_rfl
theorem cells_u64 : Try.prog.cellsOf 30 = 1 := by kernel_rfl
theorem getx {α : Type} {xs : List α} {n i : Nat} (h : xs.length = n) (hi : i < n) : ∃ a, xs[i]? = some a := ⟨xs[i]'(by omega), List.getElem?_eq_getElem (by omega)⟩
section
variable {H : Type} {enc : TypeId × Value → H} {w : World} {base : Nat} {spare : Nat → Bool} {held : Bool} {n : Nat} {cs : List Value}
set_option maxRecDepth 100000 in
theorem trod_V {y : DataW H × List MemPlace} (h : DataW.trod enc Try.prog w base spare held n 32 cs = some y) : ∃ v : V, cs = [.int .i64 v.k, .int .u64 v.b, .int .i64 v.l] ∧ (I64 v.k ∧ U64 v.b ∧ I64 v.l) := by
  obtain ⟨xs, m, _, _, hl, hx, hi⟩ := DataW.trod_struct Try.underlying32 h
  rw [cells_V] at hl
  have hx3 : xs.length = 3 := hx
  obtain ⟨y0, e0⟩ := getx (i := 0) hx3 (by omega)
  obtain ⟨y1, e1⟩ := getx (i := 1) hx3 (by omega)
  obtain ⟨y2, e2⟩ := getx (i := 2) hx3 (by omega)
  match cs, hl with
  | [c0, c1, c2], _ =>
    have h0 : DataW.trod enc Try.prog w base spare held m 3 (([c0, c1, c2].drop 0).take (Try.prog.cellsOf 3)) = some y0 := (hi 0 _ rfl).trans e0
    have h1 : DataW.trod enc Try.prog w base spare held m 30 (([c0, c1, c2].drop 1).take (Try.prog.cellsOf 30)) = some y1 := (hi 1 _ rfl).trans e1
    have h2 : DataW.trod enc Try.prog w base spare held m 3 (([c0, c1, c2].drop 2).take (Try.prog.cellsOf 3)) = some y2 := (hi 2 _ rfl).trans e2
    obtain ⟨k, f0, _, w0⟩ := DataW.trod_int Try.underlying3 h0
    obtain ⟨b, f1, _, w1⟩ := DataW.trod_int Try.underlying30 h1
    obtain ⟨l, f2, _, w2⟩ := DataW.trod_int Try.underlying3 h2
    rw [cells_int] at f0 f2
    rw [cells_u64] at f1
    simp at f0 f1 f2
    subst f0 f1 f2
    exact ⟨⟨k, b, l⟩, rfl, wf_i64 w0, wf_u64 w1, wf_i64 w2⟩
set_option maxRecDepth 100000 in
theorem trod_op {y : DataW H × List MemPlace} (h : DataW.trod enc Try.prog w base spare held n 34 cs = some y) : ∃ o : OpV, cs = opCells o ∧ OkOp o := by
  obtain ⟨xs, m, _, _, hl, hx, hi⟩ := DataW.trod_struct Try.underlying34 h
  rw [cells_op] at hl
  have hx5 : xs.length = 5 := hx
  obtain ⟨y0, e0⟩ := getx (i := 0) hx5 (by omega)
  obtain ⟨y1, e1⟩ := getx (i := 1) hx5 (by omega)
  obtain ⟨y2, e2⟩ := getx (i := 2) hx5 (by omega)
  obtain ⟨y3, e3⟩ := getx (i := 3) hx5 (by omega)
  obtain ⟨y4, e4⟩ := getx (i := 4) hx5 (by omega)
  match cs, hl with
  | [c0, c1, c2, c3, c4, c5, c6, c7, c8], _ =>
    have h0 : DataW.trod enc Try.prog w base spare held m 3 (([c0, c1, c2, c3, c4, c5, c6, c7, c8].drop 0).take (Try.prog.cellsOf 3)) = some y0 := (hi 0 _ rfl).trans e0
    have h1 : DataW.trod enc Try.prog w base spare held m 3 (([c0, c1, c2, c3, c4, c5, c6, c7, c8].drop 1).take (Try.prog.cellsOf 3)) = some y1 := (hi 1 _ rfl).trans e1
    have h2 : DataW.trod enc Try.prog w base spare held m 3 (([c0, c1, c2, c3, c4, c5, c6, c7, c8].drop 2).take (Try.prog.cellsOf 3)) = some y2 := (hi 2 _ rfl).trans e2
    have h3 : DataW.trod enc Try.prog w base spare held m 32 (([c0, c1, c2, c3, c4, c5, c6, c7, c8].drop 3).take (Try.prog.cellsOf 32)) = some y3 := (hi 3 _ rfl).trans e3
    have h4 : DataW.trod enc Try.prog w base spare held m 32 (([c0, c1, c2, c3, c4, c5, c6, c7, c8].drop 6).take (Try.prog.cellsOf 32)) = some y4 := (hi 4 _ rfl).trans e4
    obtain ⟨kd, f0, _, w0⟩ := DataW.trod_int Try.underlying3 h0
    obtain ⟨nn, f1, _, w1⟩ := DataW.trod_int Try.underlying3 h1
    obtain ⟨ch, f2, _, w2⟩ := DataW.trod_int Try.underlying3 h2
    obtain ⟨a, f3, ha⟩ := trod_V h3
    obtain ⟨v, f4, hv⟩ := trod_V h4
    rw [cells_int] at f0 f1 f2
    rw [cells_V] at f3 f4
    simp at f0 f1 f2 f3 f4
    obtain ⟨g3, g4, g5⟩ := f3
    obtain ⟨g6, g7, g8⟩ := f4
    subst f0 f1 f2 g3 g4 g5 g6 g7 g8
    exact ⟨⟨kd, nn, ch, a, v⟩, rfl, ⟨wf_i64 w1, ha.2.1, ha.2.2, hv.2.1, hv.2.2⟩⟩
end
set_option maxRecDepth 100000 in
theorem lifted (os : Os) (started : os.Started) (H : Type) (enc : TypeId × Value → H) :
    ReturnsInHanded {} Try.checked os 3 .any (Rows.memoryPlaysSpec.pre6 enc Try.prog Try.f3 Rows.memoryPlaysRow.domain false) (Rows.memoryPlaysSpec.post enc Try.prog Try.f3 false true false false) := by
  refine returnsInHanded_of_change_sized (C := Try.checked) own started (by kernel_rfl) Try.func3
    (ChangeSpec.witness6 (enc := enc) (C := Try.checked) false ⟨#[], #[.slice none 0 0], []⟩ 8 (by kernel_rfl) (by kernel_rfl) (by kernel_rfl) (by kernel_rfl)) ?_
  intro W base args ds gs before hval0 hW hcnd hsz hholds
  have hval : ∀ (j : Nat) t v, Try.f3.params[j]? = some t → args[j]? = some v → Value.okWide Try.prog W .any base t v := hval0
  have hW' := hW
  obtain ⟨p, q, hA0, hV, rfl, hfz, hnd⟩ := hW
  have hA : DataW.TrodAll enc Try.prog W 0 (fun _ => true) true Try.f3.params.toList args.toList ds p := hA0
  have hAk := hA
  rw [Try.params3] at hA hval
  obtain ⟨v0, vs0, d0, ds0, p0, q0, hargs, rfl, rfl, h0, r0⟩ := trodAll_cons hA
  obtain ⟨rfl, rfl, rfl⟩ := trodAll_nil r0
  obtain rfl : args = #[v0] := by cases args; simp_all
  obtain ⟨rfl, rfl⟩ := trodVars_none hV
  simp only [List.append_nil] at hW' hAk
  obtain ⟨A0, c0, l, e0, hl, hok, hd⟩ := arg_rdl opCells OkOp Try.underlying22 (by rw [cells_op]; decide) (fun n cs y h => trod_op h) (hval 0 22 v0 rfl rfl) h0
  rw [cells_op] at hl
  have hlen : l.length * 72 ≤ 140737488351232 := by
    rcases hd with hd | ⟨elems, sp, hd, hel⟩
    · omega
    · have hsz' : (DataW.weightsEach Try.prog [22] [d0]).all (· ≤ reachBytes) = true := hsz
      have := sized_slice hsz' (j := 0) (t := 22) (e := 34) (elems := elems) (spare := sp) rfl (by rw [hd]; rfl) Try.underlying22
      rw [bytes_op] at this
      simp only [reachBytes] at this
      have h2 : l.length * 72 ≤ (elems.length + sp.length) * 72 := Nat.mul_le_mul_right _ (by omega)
      omega
  have hw := plays_core A0 c0 l W hl hok hlen
  rw [← e0] at hw
  refine hw.mono fun e W' ⟨he, hb⟩ => ?_
  exact ⟨_, he, law_post laidOut (by rw [Try.params3]; intro t ht; simp only [List.mem_cons, List.not_mem_nil, or_false] at ht; subst ht; exact ⟨by kernel_rfl, of_decide_eq_true (by kernel_rfl)⟩) rfl hAk hW' rfl (by kernel_rfl) Try.underlying4 hb rfl⟩

theorem over : Rows.memoryPlaysRow.holds Try.pinned (OpenSpec.ofChange Rows.memoryPlaysSpec) :=
  OpenClaim.holds_of_wide 3 Try.f3 rfl rfl rfl rfl rfl rfl rfl ⟨rfl, rfl, rfl, rfl, rfl⟩ rfl rfl rfl rfl rfl (by kernel_rfl) Try.func3 (by kernel_rfl)
    (of_decide_eq_true (by kernel_rfl)) (by unfold Func.isWrapper; first | (rw [if_pos (by decide +kernel)]; kernel_rfl) | (rw [if_neg (by decide +kernel)]; exact ⟨rfl, rfl⟩))
    (fun os started H enc _ => lifted os started H enc)

theorem proved : Rows.MemoryPlaysSaid :=
  over
end Go.Proofs.Ytddipbpllogbaaa.memoryPlays
