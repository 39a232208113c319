/-
  Structs, arrays and slices: what the reckoner yields is what the program yields. No program in sight.
-/
import Derived.Test.YtpilmdfnbfcmkaaGreatEvOp2
import Derived.Great.FillDense
namespace Go.Proofs.YtpilmdfnbfcmkaaGreat.Ev
set_option linter.unusedVariables false
set_option linter.unusedSimpArgs false

theorem cellsL_eq (v : Value) : cellsL v = v.cells.toList := by unfold cellsL Value.cells; cases v <;> rfl
/-- cells set one by one are a list laid over another -/
theorem lay_fold (off : Nat) (cs : Array Value) (cells : Array Value) (h : off + cs.size ≤ cells.size) :
    (cs.zipIdx.foldl (fun r (x : Value × Nat) => r.setIfInBounds (off + x.2) x.1) cells).toList = cells.toList.take off ++ (cs.toList ++ cells.toList.drop (off + cs.toList.length)) := by
  obtain ⟨g1, g2⟩ := Go.Great.foldl_set off cs.toList 0 cells
  have e : cs.zipIdx.foldl (fun r (x : Value × Nat) => r.setIfInBounds (off + x.2) x.1) cells = (cs.toList.zipIdx 0).foldl (fun r (x : Value × Nat) => r.setIfInBounds (off + x.2) x.1) cells := by
    rw [← Array.foldl_toList, Array.toList_zipIdx]
  rw [e]
  generalize (cs.toList.zipIdx 0).foldl (fun r (x : Value × Nat) => r.setIfInBounds (off + x.2) x.1) cells = r at g1 g2
  apply List.ext_getElem?
  intro k
  have hcs : cs.toList.length = cs.size := Array.length_toList
  have hce : cells.toList.length = cells.size := Array.length_toList
  rw [Array.getElem?_toList, g2 k]
  simp only [Nat.add_zero]
  by_cases h1 : k < off
  · rw [if_neg (by omega), List.getElem?_append_left (by rw [List.length_take]; omega), List.getElem?_take_of_lt h1, Array.getElem?_toList]
  · rw [List.getElem?_append_right (by rw [List.length_take]; omega), List.length_take, Nat.min_eq_left (by omega)]
    by_cases h2 : k < off + cs.size
    · rw [if_pos (by omega), List.getElem?_append_left (by omega)]
    · rw [if_neg (by omega), List.getElem?_append_right (by omega), List.getElem?_drop, Array.getElem?_toList]
      congr 1
      omega
/-- parts, by what they read as -/
inductive PR (ρ : Ren) : List (Nat × Value) → List (Nat × Value) → Prop
  | nil : PR ρ [] []
  | cons {i : Nat} {v v' : Value} {l l' : List (Nat × Value)} (h : VR ρ v v') (hl : PR ρ l l') : PR ρ ((i, v) :: l) ((i, v') :: l')

section
variable {P : Program} {T : Tab} {call : CallF} {env : L2} {m : Mem} {k : K} {a : Value} {mm : Mem}
theorem fill_ok : ∀ {vs : List (Nat × Value)} {place : Nat → (Nat → Nat → Ans) → Ans} {place' : Nat → Option (Nat × Nat)} {cells : List Value} {c : List Value → Ans},
    (∀ (i : Nat) (f : Nat → Nat → Ans), place i f = .ok a mm → ∃ off s, place' i = some (off, s) ∧ f off s = .ok a mm) → fillK vs place cells c = .ok a mm →
    ∃ out, c out = .ok a mm ∧ ∀ (ρ : Ren) (vs' : List (Nat × Value)) (cells' : Array Value), PR ρ vs vs' → LR ρ cells cells'.toList → ∃ out', Instr.fill place' cells' vs' = some out' ∧ LR ρ out out'.toList
  | [], place, place', cells, c, hp, h => ⟨cells, h, fun ρ vs' cells' hv hc => by cases hv; exact ⟨cells', rfl, hc⟩⟩
  | (i, v) :: vs, place, place', cells, c, hp, h => by
    obtain ⟨off, s, h1, h2⟩ := hp i _ (show place i (fun off size => iteB (and (Nat.beq (cellsL v).length size) (Nat.ble (Nat.add off (cellsL v).length) cells.length)) (.no 63)
      (layK off (cellsL v) cells (fun cells' => fillK vs place cells' c))) = .ok a mm from h)
    obtain ⟨hb, h3⟩ := iteB_yes h2
    rw [Bool.and_eq_true] at hb
    have hs : (cellsL v).length = s := Nat.eq_of_beq_eq_true hb.1
    have hle : off + (cellsL v).length ≤ cells.length := Nat.le_of_ble_eq_true hb.2
    rw [layK_eq] at h3
    obtain ⟨out, h4, h5⟩ := fill_ok hp h3
    refine ⟨out, h4, fun ρ vs' cells' hv hc => ?_⟩
    cases hv with
    | cons hv hvs =>
      rename_i v' l'
      have hcv := hv.cells
      have hl1 := hcv.length
      have hl2 := hc.length
      simp only [Array.length_toList] at hl1 hl2
      obtain ⟨out', g1, g2⟩ := h5 ρ l' (v'.cells.zipIdx.foldl (fun r (x : Value × Nat) => r.setIfInBounds (off + x.2) x.1) cells') hvs (by
        rw [lay_fold off v'.cells cells' (by omega)]
        rw [hcv.length]
        exact (hc.take off).app (hcv.app (hc.drop _)))
      refine ⟨out', ?_, g2⟩
      unfold Instr.fill
      rw [h1]
      show (if v'.cells.size ≠ s || off + v'.cells.size > cells'.size then none else _) = _
      rw [if_neg (by simp; omega)]
      exact g1
theorem evalP_ok : ∀ {l : List (Nat × Operand)} {k : List (Nat × Value) → Ans}, evalP env l k = .ok a mm → ∃ vs, k vs = .ok a mm ∧ ∀ (ρ : Ren) (c : Act), (∀ x v, x ∈ l.map (·.2) → look env x = some v → VR ρ v (c.eval x)) → PR ρ vs (l.map fun x => (x.1, c.eval x.2))
  | [], k, h => ⟨[], h, fun _ _ _ => .nil⟩
  | x :: l, k, h => by
    obtain ⟨v, h1, h2⟩ := evalO_ok (show evalO x.2 env (fun v => evalP env l (fun vs => k ((x.1, v) :: vs))) = .ok a mm from h)
    obtain ⟨vs, h3, h4⟩ := evalP_ok h2
    exact ⟨_, h3, fun ρ c hS => .cons (hS _ _ (by simp) h1) (h4 ρ c fun y u hy => hS y u (by simp only [List.map_cons]; exact List.mem_cons_of_mem _ hy))⟩
theorem mapM_places : ∀ (fs : List Field), (∀ f ∈ fs, ∃ i, P.info? f.type = some i) → fs.mapM (fun f => (P.info? f.type).map fun i => (f.offset, i.size)) = some (fs.map fun f => (f.offset, P.cellsOf f.type))
  | [], _ => rfl
  | f :: fs, h => by
    obtain ⟨i, hi⟩ := h f (by simp)
    rw [List.mapM_cons, mapM_places fs (fun g hg => h g (by simp [hg]))]
    simp [hi, Program.cellsOf]
theorem TabOk.cells (hT : TabOk P T) {t : TypeId} {d : TyR} (h : T.tys.find t = some d) : P.cellsOf t = d.size := by
  obtain ⟨_, _, i, h1, h2, _⟩ := hT.ty t d h
  simp [Program.cellsOf, h1, h2]
theorem build_ok (hT : TabOk P T) {t : TypeId} {ps : Array (Nat × Operand)} (h : buildOp t ps T call env m k = .ok a mm) : ∃ v, k v m = .ok a mm ∧ PureS P (.build t ps) env v := by
  obtain ⟨vs, h1, h2⟩ := evalP_ok h
  obtain ⟨d, hd, h3⟩ := ty_ok h1
  obtain ⟨z, hz, h4⟩ := withO_ok h3
  obtain ⟨hg, h5⟩ := iteB_yes h4
  obtain ⟨fs, hfs, h6⟩ := asStruct_ok h5
  have hfld : ∀ f ∈ fs.toList, ∃ i, P.info? f.type = some i := fun f hf => hT.fld t d fs f hd hfs hf
  obtain ⟨out, h7, h8⟩ := fill_ok (place' := (((fs.toList.map fun f => (f.offset, P.cellsOf f.type)).toArray)[·]?)) (fun i f hf => by
    obtain ⟨g, g1, g2⟩ := withO_ok hf
    obtain ⟨dg, g3, g4⟩ := ty_ok g2
    rw [nth_eq] at g1
    refine ⟨g.offset, dg.size, ?_, g4⟩
    simp only [List.getElem?_toArray, List.getElem?_map, g1, Option.map_some, hT.cells g3]) h6
  refine ⟨_, h7, fun ρ w o c ho hS => ?_⟩
  obtain ⟨out', g1, g2⟩ := h8 ρ _ z.cells (h2 ρ c fun x v hx => hS x v (by
    simp only [Op.operands]
    simpa using hx)) (by rw [← cellsL_eq]; exact LR.ground hg)
  refine ⟨.agg out', .agg (by simpa using g2), ?_⟩
  obtain ⟨hu, _, i, hi, _, _, hiz⟩ := hT.ty t d hd
  have hb : P.built t (ps.map fun (i, x) => (i, c.eval x)).toList = some out' := by
    unfold Program.built
    rw [hi, hu, hfs]
    simp only [hiz, hz, mapM_places fs.toList hfld]
    rw [← g1]
    simp
  unfold execOp
  rw [ho]
  simp only [Sem.run_bind, run_build w t _ out' hb, Result.andThen_ok]
  rfl

/-! new rows -/
theorem newRow_ok {e : TypeId} {s n : Nat} {cs : List Value} {opn : Bool} {c : Nat → Mem → Ans} (hs : 0 < s) (h : Ev.newRow m e s n cs opn c = .ok a mm) :
    ∃ els m', c m.next m' = .ok a mm ∧ m'.next = m.next + 1 ∧ (∀ j, m'.heap.find j = if j = m.next then some (.row els s n e opn) else m.heap.find j) ∧ cs.length = n * s ∧ Lens els s ∧
      ∀ o, cellAt els s o = if o < n * s then cs[o]? else none := by
  obtain ⟨hb, h1⟩ := iteB_yes h
  have hl : cs.length = n * s := Nat.eq_of_beq_eq_true hb
  obtain ⟨els, h2, h3⟩ := scatter_ok hs h1
  obtain ⟨h4, h5⟩ := h3 (by omega)
  obtain ⟨m', h6, h7, h8⟩ := new_ok h2
  refine ⟨els, m', h6, h7, h8, hl, h4 (fun i c hc => by cases hc), fun o => ?_⟩
  rw [h5]
  simp only [Nat.zero_mul, Nat.zero_le, true_and, Nat.zero_add, Nat.sub_zero]
  split
  · rfl
  · rfl
theorem BR_row {ρ : Ren} {w : World} {e : TypeId} {s n ext : Nat} {els : PT (List Value)} {cs cs' more : List Value} {opn : Bool} (hl : cs.length = n * s) (hL : Lens els s) (hc : ∀ o, cellAt els s o = if o < n * s then cs[o]? else none)
    (hv : LR ρ cs cs') (hm : more.length = ext * s) (ho : opn = false → ext = 0) : BR ρ { w with heap := w.heap.push (.cells (cs' ++ more).toArray e) } ⟨w.heap.size, 0, ext⟩ (.row els s n e opn) := by
  refine ⟨(cs' ++ more).toArray, by simp, hL, fun off v h => ?_, ho, ?_⟩
  · rw [hc] at h
    split at h
    · obtain ⟨v', h1, h2⟩ := hv.get h
      refine ⟨v', ?_, h2⟩
      have hlt : off < cs'.length := (List.getElem?_eq_some_iff.1 h1).1
      simp only [Nat.zero_add, List.getElem?_toArray]
      rw [List.getElem?_append_left hlt]
      exact h1
    · cases h
  · simp only [List.size_toArray, List.length_append, ← hv.length, hl, hm, Nat.add_mul]
    omega
theorem zeros_eq {z : Array Value} {s n : Nat} (hz : z.size = s) (hs : 0 < s) : ((Array.range (n * s)).map (z[· % z.size]!)).toList = (List.replicate n z.toList).flatten := by
  induction n with
  | zero => simp
  | succ n ih =>
    rw [List.replicate_succ', List.flatten_append, ← ih]
    simp only [List.flatten_cons, List.flatten_nil, List.append_nil]
    apply List.ext_getElem?
    intro i
    simp only [Array.toList_map, Array.toList_range, List.getElem?_map]
    have e1 : (n + 1) * s = n * s + s := Nat.succ_mul n s
    by_cases h1 : i < n * s
    · rw [List.getElem?_append_left (by simpa using h1)]
      simp only [List.getElem?_map, List.getElem?_range, h1, show i < (n + 1) * s by omega, if_true]
    · rw [List.getElem?_append_right (by simpa using Nat.le_of_not_lt h1)]
      simp only [List.length_map, List.length_range]
      by_cases h2 : i < (n + 1) * s
      · rw [List.getElem?_range h2]
        have hj : i - n * s < s := by omega
        have := divmod_elem (i := n) hj
        rw [show n * s + (i - n * s) = i by omega] at this
        rw [Option.map_some, hz, this.2, Array.getElem?_toList, Array.getElem?_eq_getElem (by omega), getElem!_pos z _ (by omega)]
      · rw [List.getElem?_eq_none (by simp; omega), List.getElem?_eq_none (by rw [Array.length_toList]; omega)]
        rfl
theorem buildSlice_ok (hT : TabOk P T) {t : TypeId} {n : Nat} {ps : Array (Nat × Operand)} (h : buildSliceOp t n ps T call env m k = .ok a mm) :
    ∃ v b m', k v m' = .ok a mm ∧ MakeS P (.buildSlice t n ps) env m.next v b ∧ m'.next = m.next + 1 ∧ ∀ j, m'.heap.find j = if j = m.next then some b else m.heap.find j := by
  obtain ⟨vs, h1, h2⟩ := evalP_ok h
  obtain ⟨d, hd, h3⟩ := ty_ok h1
  obtain ⟨e, he, h4⟩ := asSliceT_ok h3
  obtain ⟨de, hde, h5⟩ := ty_ok h4
  obtain ⟨z, hz, h6⟩ := withO_ok h5
  obtain ⟨hb, h7⟩ := iteB_yes h6
  simp only [Bool.and_eq_true] at hb
  obtain ⟨⟨b1, b2⟩, b3, b4⟩ := hb
  have hs : 0 < de.size := by simpa [Nat.blt_eq] using b1
  have hzs : z.cells.size = de.size := by rw [← Nat.eq_of_beq_eq_true b2, cellsL_eq, Array.length_toList]
  have hle : n * de.size ≤ 1000000 := Nat.le_of_ble_eq_true b4
  rw [repK_eq] at h7
  obtain ⟨out, h8, h9⟩ := fill_ok (place' := fun i => some (i * de.size, de.size)) (fun i f hf => ⟨i * de.size, de.size, rfl, by have := hf; rw [placeE, forceN_eq] at this; exact this⟩) h7
  obtain ⟨els, m', g1, g2, g3, g4, g5, g6⟩ := newRow_ok hs h8
  refine ⟨_, _, m', g1, fun ρ w o c ho hS hL => ?_, g2, g3⟩
  have hz0 : LR ρ (List.replicate n (cellsL z)).flatten ((Array.range (n * de.size)).map (z.cells[· % z.cells.size]!)).toList := by
    rw [zeros_eq hzs hs, ← cellsL_eq]
    exact LR.rep (LR.ground b3) n
  obtain ⟨out', q1, q2⟩ := h9 ρ _ _ (h2 ρ c fun x v hx => hS x v (by
    simp only [Op.operands]
    simpa using hx)) hz0
  refine ⟨.slice (some ⟨w.heap.size, 0, none⟩) n n, _, ⟨w.heap.size, 0, 0⟩, .slice (r := ⟨w.heap.size, 0, 0⟩) n n Ren.put_same, BR_row (more := []) g4 g5 g6 (q2.put hL) (by simp) (fun _ => rfl), .inl ⟨_, 0, rfl, rfl⟩, ?_⟩
  have hf : Instr.fill (fun i => some (i * de.size, de.size)) ((Array.range (n * de.size)).map (z.cells[· % z.cells.size]!)) (ps.map fun (i, x) => (i, c.eval x)).toList = some out' := by
    rw [← q1]; simp
  unfold execOp
  rw [ho]
  simp only [Instr.buildSlice, Sem.run_bind, hT.under hd w, he, Result.andThen_ok, hT.size hde w]
  rw [if_neg (by omega)]
  by_cases hn0 : n * de.size = 0
  · rw [if_pos hn0]
    have hn : n = 0 := by
      rcases Nat.mul_eq_zero.1 hn0 with h' | h'
      · exact h'
      · omega
    subst hn
    have hf' : Instr.fill (fun i => some (i * de.size, de.size)) ((Array.range (0 * de.size)).map ((#[] : Array Value)[· % (#[] : Array Value).size]!)) (ps.map fun (i, x) => (i, c.eval x)).toList = some out' := by
      rw [← hf]; congr 1; simp
    simp only [Sem.run_pure, Result.andThen_ok, hf', Go.newRow, newObj, Sem.run_bind, List.append_nil, Array.toArray_toList]
    rfl
  · rw [if_neg hn0]
    simp only [Sem.run_bind, hT.zero hde hz w, Sem.run_pure, Result.andThen_ok, hf, Go.newRow, newObj, List.append_nil, Array.toArray_toList]
    rfl
theorem map_ok {t : TypeId} {r : Option Operand} (h : mapOp t r T call env m k = .ok a mm) :
    ∃ v b m', k v m' = .ok a mm ∧ MakeS P (.makeMap t r) env m.next v b ∧ m'.next = m.next + 1 ∧ ∀ j, m'.heap.find j = if j = m.next then some b else m.heap.find j := by
  cases r with
  | some x => cases h
  | none =>
    obtain ⟨m', g1, g2, g3⟩ := new_ok (show m.new (.map [] 0) (fun L m' => k (.map (some L)) m') = .ok a mm from h)
    refine ⟨_, _, m', g1, fun ρ w o c ho hS hL => ?_, g2, g3⟩
    refine ⟨.map (some w.heap.size), { w with heap := w.heap.push (.map #[] 0) }, ⟨w.heap.size, 0, 0⟩, .map (r := ⟨w.heap.size, 0, 0⟩) Ren.put_same, ⟨#[], by simp, .nil⟩, .inl ⟨_, 0, rfl, rfl⟩, ?_⟩
    unfold execOp
    rw [ho]
    rfl
theorem and3 {x y z : Bool} (h : (x && y && z) = true) : x = true ∧ y = true ∧ z = true := by simpa [Bool.and_eq_true, and_assoc] using h
theorem makeSlice_ok (hT : TabOk P T) {t : TypeId} {x y : Operand} (h : makeSliceOp t x y T call env m k = .ok a mm) :
    ∃ v b m', k v m' = .ok a mm ∧ MakeS P (.makeSlice t x y) env m.next v b ∧ m'.next = m.next + 1 ∧ ∀ j, m'.heap.find j = if j = m.next then some b else m.heap.find j := by
  obtain ⟨lv, h1, h2⟩ := evalO_ok h
  obtain ⟨cv, h3, h4⟩ := evalO_ok h2
  obtain ⟨jl, l, rfl, h5⟩ := asInt_ok h4
  obtain ⟨jc, cc, rfl, h6⟩ := asInt_ok h5
  obtain ⟨d, hd, h7⟩ := ty_ok h6
  obtain ⟨e, he, h8⟩ := asSliceT_ok h7
  obtain ⟨de, hde, h9⟩ := ty_ok h8
  obtain ⟨z, hz, h10⟩ := withO_ok h9
  obtain ⟨hb, h11⟩ := iteB_yes h10
  simp only [Bool.and_eq_true, Bool.not_eq_true', ltI_eq, decide_eq_false_iff_not, Int.not_lt] at hb
  obtain ⟨⟨⟨b1, b2⟩, b3⟩, ⟨b4, b5⟩, b6⟩ := hb
  have hs : 0 < de.size := by simpa [Nat.blt_eq] using b4
  have hzs : z.cells.size = de.size := by rw [← Nat.eq_of_beq_eq_true b5, cellsL_eq, Array.length_toList]
  have hle : cc.toNat * de.bytes + cc.toNat ≤ 1099511627776 := Nat.le_of_ble_eq_true b3
  simp only [forceN_eq, repK_eq] at h11
  obtain ⟨els, m', g1, g2, g3, g4, g5, g6⟩ := newRow_ok hs h11
  refine ⟨_, _, m', g1, fun ρ w o c ho hS hL => ?_, g2, g3⟩
  have hl := hS x _ (by simp [Op.operands]) h1
  have hc := hS y _ (by simp [Op.operands]) h3
  have hcc : (cc.toNat : Int) = cc := by omega
  have hll : (l.toNat : Int) = l := by omega
  have hz0 : LR ρ (List.replicate cc.toNat (cellsL z)).flatten ((Array.range (cc.toNat * de.size)).map (z.cells[· % z.cells.size]!)).toList := by
    rw [zeros_eq hzs hs, ← cellsL_eq]
    exact LR.rep (LR.ground b6) _
  have hcb : de.bytes * cc ≤ 1099511627776 := by
    have : ((cc.toNat * de.bytes : Nat) : Int) ≤ 1099511627776 := by omega
    rw [Int.natCast_mul, hcc, Int.mul_comm] at this
    exact this
  have hc64 : IntKind.i64.wrap cc = cc := IntWalk.i64_in _ ⟨by omega, by omega⟩
  have hl64 : IntKind.i64.wrap l = l := IntWalk.i64_in _ ⟨by omega, by omega⟩
  refine ⟨.slice (some ⟨w.heap.size, 0, none⟩) l.toNat cc.toNat, _, ⟨w.heap.size, 0, 0⟩, .slice (r := ⟨w.heap.size, 0, 0⟩) _ _ Ren.put_same, BR_row (more := []) g4 g5 g6 (hz0.put hL) (by simp) (fun _ => rfl), .inl ⟨_, 0, rfl, rfl⟩, ?_⟩
  obtain ⟨i, i1, i2, i3, i4⟩ := hT.info hde w
  cases hle1 : c.eval x <;> rw [hle1] at hl <;> cases hl
  cases hce1 : c.eval y <;> rw [hce1] at hc <;> cases hc
  unfold execOp
  rw [ho]
  have hroom : ∀ (b : Nat) (w : World), (askRoom b).run P w = .ok () w := fun b w => by unfold askRoom; split <;> rfl
  simp only [Instr.makeSlice, Sem.run_bind, hT.under hd w, he, Result.andThen_ok, hle1, hce1, Go.asInt, Go.asIntOf, Sem.run_pure, i1, i3, hc64, hl64]
  rw [if_neg (by simp; omega)]
  simp only [Sem.run_bind, hroom, Result.andThen_ok, hT.size hde w]
  by_cases hn0 : cc.toNat * de.size = 0
  · rw [if_pos hn0]
    have e0 : ∀ f : Nat → Value, (Array.range (cc.toNat * de.size)).map f = #[] := fun f => by rw [hn0]; simp
    simp only [Sem.run_pure, Result.andThen_ok, Go.newRow, newObj, Sem.run_bind, List.append_nil, Array.toArray_toList, e0]
    rfl
  · rw [if_neg hn0]
    simp only [Sem.run_bind, hT.zero hde hz w, Sem.run_pure, Result.andThen_ok, Go.newRow, newObj, List.append_nil, Array.toArray_toList]
    rfl
/-! places -/
theorem add_off (b o n : Nat) : (⟨b, o, none⟩ : Addr).add n = ⟨b, o + n, none⟩ := by
  unfold Addr.add
  split
  · subst n; rfl
  · rfl
theorem VR.shift {ρ : Ren} {b o n : Nat} {v' : Value} (h : VR ρ (.pointer (some ⟨b, o, none⟩)) v') : ∃ b' o', v' = .pointer (some ⟨b', o', none⟩) ∧ VR ρ (.pointer (some ⟨b, o + n, none⟩)) (.pointer (some ⟨b', o' + n, none⟩)) := by
  cases h with
  | ptr h => exact ⟨_, _, rfl, by rw [Nat.add_assoc]; exact .ptr h⟩
theorem ptr_at {ρ : Ren} {L o n : Nat} {r : Rn} (h : ρ L = some r) : VR ρ (.pointer (some ⟨L, o + n, none⟩)) (.pointer (some ⟨r.blk, r.base + o + n, none⟩)) := by
  rw [Nat.add_assoc]; exact .ptr h
theorem fieldAddr_ok (hT : TabOk P T) {s : TypeId} {x : Operand} {f : Nat} (h : fieldAddrOp s x f T call env m k = .ok a mm) : ∃ v, k v m = .ok a mm ∧ PureS P (.fieldAddr s x f) env v := by
  obtain ⟨d, hd, h1⟩ := ty_ok h
  obtain ⟨fs, hfs, h2⟩ := asStruct_ok h1
  obtain ⟨g, hg, h3⟩ := withO_ok h2
  obtain ⟨dg, hdg, h4⟩ := ty_ok h3
  obtain ⟨hz, h5⟩ := iteB_not h4
  obtain ⟨v, h6, h7⟩ := evalO_ok h5
  obtain ⟨b, o, rfl, h8⟩ := asPtr_ok h7
  rw [forceN_eq] at h8
  rw [nth_eq] at hg
  refine ⟨_, h8, fun ρ w oo c ho hS => ?_⟩
  have hv := hS x _ (by simp [Op.operands]) h6
  obtain ⟨b', o', e1, e2⟩ := hv.shift (n := g.offset)
  refine ⟨_, e2, ?_⟩
  have hne : dg.size ≠ 0 := by intro e; rw [e] at hz; cases hz
  rw [Array.getElem?_toList] at hg
  unfold execOp
  rw [ho]
  simp only [Instr.fieldAt, Sem.run_bind, hT.under hd w, hfs, Result.andThen_ok, hg, e1, Instr.sureAddr, Sem.run_pure, fieldPlace, hT.size hdg w]
  rw [if_neg hne]
  simp only [Sem.run_pure, Result.andThen_ok, add_off]
theorem field_ok (hT : TabOk P T) {t : TypeId} {x : Operand} {f : Nat} (h : fieldOp t x f T call env m k = .ok a mm) : ∃ v, k v m = .ok a mm ∧ PureS P (.field t x f) env v := by
  obtain ⟨d, hd, h1⟩ := ty_ok h
  obtain ⟨fs, hfs, h2⟩ := asStruct_ok h1
  obtain ⟨g, hg, h3⟩ := withO_ok h2
  obtain ⟨v, h6, h7⟩ := evalO_ok h3
  obtain ⟨cs, rfl, h8⟩ := asAgg_ok h7
  obtain ⟨u, h9, h10⟩ := part_ok hT h8
  rw [nth_eq, Array.getElem?_toList] at hg
  refine ⟨u, h9, fun ρ w oo c ho hS => ?_⟩
  have hv := hS x _ (by simp [Op.operands]) h6
  generalize hbe : c.eval x = y at hv
  cases hv with
  | agg hl =>
    rename_i cs'
    obtain ⟨u', g1, g2⟩ := h10 ρ w cs' hl
    refine ⟨u', g1, ?_⟩
    unfold execOp
    rw [ho]
    simp only [Instr.field, Sem.run_bind, hT.under hd w, hfs, Result.andThen_ok, hg, hbe, Go.asAgg, Sem.run_pure, g2]
theorem inB_iff {i : Int} {n : Nat} (h : inB i n = true) : 0 ≤ i ∧ i < n := by
  cases i with
  | ofNat i => have : i < n := by simpa [Nat.blt_eq] using (show Nat.blt i n = true from h)
               exact ⟨by simp only [Int.ofNat_eq_natCast]; omega, by simp only [Int.ofNat_eq_natCast]; omega⟩
  | negSucc i => cases h
theorem indexAddr_ok (hT : TabOk P T) {t : TypeId} {x y : Operand} (h : indexAddrOp t x y T call env m k = .ok a mm) : ∃ v, k v m = .ok a mm ∧ PureS P (.indexAddr t x y) env v := by
  obtain ⟨v, h1, h2⟩ := evalO_ok h
  obtain ⟨iv, h3, h4⟩ := evalO_ok h2
  obtain ⟨j, i, rfl, h5⟩ := asInt_ok h4
  obtain ⟨d, hd, h6⟩ := ty_ok h5
  have at_ : ∀ {e b o n}, atElem T e b o i n m k = .ok a mm → (0 ≤ i ∧ i < (n : Int)) ∧ ∃ de, T.tys.find e = some de ∧ k (.pointer (some ⟨b, o + i.toNat * de.size, none⟩)) m = .ok a mm := by
    intro e b o n hh
    obtain ⟨g1, g2⟩ := iteB_yes hh
    obtain ⟨de, g3, g4⟩ := ty_ok g2
    rw [forceN_eq] at g4
    exact ⟨inB_iff g1, de, g3, g4⟩
  split at h6
  · rename_i e b o n cp hde
    obtain ⟨hi, de, g1, g2⟩ := at_ h6
    refine ⟨_, g2, fun ρ w oo c ho hS => ?_⟩
    have hv := hS x _ (by simp [Op.operands]) h1
    have hy := hS y _ (by simp [Op.operands]) h3
    generalize hx : c.eval x = x' at hv
    generalize hyy : c.eval y = y' at hy
    cases hy
    cases hv with
    | slice n c0 hr =>
      refine ⟨_, ptr_at hr, ?_⟩
      unfold execOp
      rw [ho]
      simp only [Instr.indexAt, Sem.run_bind, hyy, hx, Go.asIntOf, Sem.run_pure, Result.andThen_ok, hT.under hd w, hde]
      rw [if_pos hi]
      simp only [Sem.run_bind, hT.size g1 w, Result.andThen_ok, Sem.run_pure, add_off]
  · rename_i n e b o hde
    obtain ⟨hi, de, g1, g2⟩ := at_ h6
    refine ⟨_, g2, fun ρ w oo c ho hS => ?_⟩
    have hv := hS x _ (by simp [Op.operands]) h1
    have hy := hS y _ (by simp [Op.operands]) h3
    generalize hx : c.eval x = x' at hv
    generalize hyy : c.eval y = y' at hy
    cases hy
    cases hv with
    | ptr hr =>
      refine ⟨_, ptr_at hr, ?_⟩
      unfold execOp
      rw [ho]
      simp only [Instr.indexAt, Sem.run_bind, hyy, hx, Go.asIntOf, Sem.run_pure, Result.andThen_ok, hT.under hd w, hde, Instr.sureAddr]
      rw [if_pos hi]
      simp only [Sem.run_bind, hT.size g1 w, Result.andThen_ok, Sem.run_pure, add_off]
  · cases h6
theorem index_ok (hT : TabOk P T) {t : TypeId} {x y : Operand} (h : indexOp t x y T call env m k = .ok a mm) : ∃ v, k v m = .ok a mm ∧ PureS P (.index t x y) env v := by
  obtain ⟨v, h1, h2⟩ := evalO_ok h
  obtain ⟨iv, h3, h4⟩ := evalO_ok h2
  obtain ⟨j, i, rfl, h5⟩ := asInt_ok h4
  obtain ⟨d, hd, h6⟩ := ty_ok h5
  split at h6
  · rename_i n e cs hde
    obtain ⟨g1, g2⟩ := iteB_yes h6
    obtain ⟨de, g3, g4⟩ := ty_ok g2
    rw [forceN_eq] at g4
    obtain ⟨u, g5, g6⟩ := part_ok hT g4
    refine ⟨u, g5, fun ρ w oo c ho hS => ?_⟩
    have hv := hS x _ (by simp [Op.operands]) h1
    have hy := hS y _ (by simp [Op.operands]) h3
    generalize hx : c.eval x = x' at hv
    generalize hyy : c.eval y = y' at hy
    cases hy
    cases hv with
    | agg hl =>
      obtain ⟨u', q1, q2⟩ := g6 ρ w _ hl
      refine ⟨u', q1, ?_⟩
      unfold execOp
      rw [ho]
      simp only [Instr.index, Sem.run_bind, hyy, hx, Go.asIntOf, Sem.run_pure, Result.andThen_ok, hT.under hd w, hde]
      rw [if_pos (inB_iff g1)]
      simp only [Sem.run_bind, hT.size g3 w, Result.andThen_ok]
      rw [show i.toNat * de.size = Nat.mul i.toNat de.size from rfl, q2]
      rfl
  · rename_i s hde
    obtain ⟨g1, g2⟩ := iteB_not h6
    obtain ⟨b, g3, g4⟩ := withO_ok g2
    rw [forceN_eq] at g4
    rw [nth_eq] at g3
    have hi : 0 ≤ i := by rw [ltI_eq] at g1; simpa using g1
    refine ⟨_, g4, fun ρ w oo c ho hS => ?_⟩
    have hv := hS x _ (by simp [Op.operands]) h1
    have hy := hS y _ (by simp [Op.operands]) h3
    generalize hx : c.eval x = x' at hv
    generalize hyy : c.eval y = y' at hy
    cases hy
    cases hv
    refine ⟨_, .int _ _, ?_⟩
    have hb : s[i.toNat]? = some b := by
      rw [← g3, Array.getElem?_toList]
      have hlt : i.toNat < s.data.toList.length := (List.getElem?_eq_some_iff.1 g3).1
      have hlt' : i.toNat < s.size := by rw [size_data]; exact hlt
      rw [getElem?_pos s i.toNat hlt', Array.getElem?_eq_getElem (by simpa using hlt)]
      rfl
    unfold execOp
    rw [ho]
    simp only [Instr.index, Sem.run_bind, hyy, hx, Go.asIntOf, Sem.run_pure, Result.andThen_ok, hT.under hd w, hde]
    rw [if_pos hi, hb]
    rfl
  · cases h6
theorem assert_ok (hT : TabOk P T) {x : Operand} {xt t : TypeId} {ok : Bool} (h : typeAssertOp x xt t ok T call env m k = .ok a mm) : ∃ v, k v m = .ok a mm ∧ PureS P (.typeAssert x xt t ok) env v := by
  obtain ⟨v, h1, h2⟩ := evalO_ok h
  obtain ⟨d, hd, h3⟩ := ty_ok h2
  obtain ⟨hi, h4⟩ := iteB_not h3
  have nofail : ∀ {c : Value → Ans}, failT ok d c = .ok a mm → ∃ z, ok = true ∧ d.zero = some z ∧ groundB (.tuple #[z, .bool false]) = groundB (.tuple #[z, .bool false]) ∧ (cellsL z).all groundB = true ∧ c (.tuple ⟨[z, .bool false]⟩) = .ok a mm := by
    intro c hh
    obtain ⟨g1, g2⟩ := iteB_yes hh
    obtain ⟨z, g3, g4⟩ := withO_ok g2
    obtain ⟨g5, g6⟩ := iteB_yes g4
    exact ⟨z, g1, g3, rfl, g5, g6⟩
  have zero : ∀ {ρ : Ren} {z : Value}, (cellsL z).all groundB = true → VR ρ z z := by
    intro ρ z hz
    cases z with
    | agg cs => exact .agg (LR.ground hz)
    | tuple cs => simp [cellsL, groundB] at hz
    | _ => exact VR.ground (by simpa [cellsL] using hz)
  split at h4
  · obtain ⟨z, rfl, hz, _, hg, h5⟩ := nofail h4
    refine ⟨_, h5, fun ρ w oo c ho hS => ?_⟩
    have hv := hS x _ (by simp [Op.operands]) h1
    generalize hx : c.eval x = x' at hv
    cases hv
    refine ⟨.tuple #[z, .bool false], .tuple (.cons (zero hg) (.cons (.bool _) .nil)), ?_⟩
    unfold execOp
    rw [ho]
    simp only [Instr.typeAssert, Sem.run_bind, hx, hT.under hd w, Result.andThen_ok]
    cases hde : d.desc <;> first | (rw [hde] at hi; cases hi; done) | (simp only [if_true, Sem.run_bind, hT.zero hd hz w, Result.andThen_ok]; rfl)
  · rename_i tt u
    rcases iteB_ok h4 with ⟨hb, h5⟩ | ⟨hb, h5⟩
    · have htt : tt = t := Nat.eq_of_beq_eq_true hb
      subst htt
      have fin : ∀ r, k r m = .ok a mm → (∀ (ρ : Ren) u', VR ρ u u' → VR ρ r (if ok = true then .tuple #[u', .bool true] else u')) → ∃ v, k v m = .ok a mm ∧ PureS P (.typeAssert x xt tt ok) env v := by
        intro r hk hr
        refine ⟨r, hk, fun ρ w oo c ho hS => ?_⟩
        have hv := hS x _ (by simp [Op.operands]) h1
        generalize hx : c.eval x = x' at hv
        cases hv with
        | iface _ hu =>
          rename_i u'
          refine ⟨_, hr ρ u' hu, ?_⟩
          unfold execOp
          rw [ho]
          simp only [Instr.typeAssert, Sem.run_bind, hx, hT.under hd w, Result.andThen_ok]
          cases hde : d.desc <;> first | (rw [hde] at hi; cases hi; done) | (simp only [if_true]; cases ok <;> rfl)
      rcases iteB_ok h5 with ⟨rfl, h6⟩ | ⟨rfl, h6⟩
      · exact fin _ h6 fun ρ u' hu => by simp only [if_true]; exact .tuple (.cons hu (.cons (.bool _) .nil))
      · exact fin _ h6 fun ρ u' hu => by simpa using hu
    · have htt : tt ≠ t := fun e => by subst e; rw [Nat.beq_refl] at hb; cases hb
      obtain ⟨z, rfl, hz, _, hg, h6⟩ := nofail h5
      refine ⟨_, h6, fun ρ w oo c ho hS => ?_⟩
      have hv := hS x _ (by simp [Op.operands]) h1
      generalize hx : c.eval x = x' at hv
      cases hv with
      | iface _ hu =>
        refine ⟨.tuple #[z, .bool false], .tuple (.cons (zero hg) (.cons (.bool _) .nil)), ?_⟩
        unfold execOp
        rw [ho]
        simp only [Instr.typeAssert, Sem.run_bind, hx, hT.under hd w, Result.andThen_ok]
        cases hde : d.desc <;> first | (rw [hde] at hi; cases hi; done) | (simp only [htt, if_false, if_true, Sem.run_bind, hT.zero hd hz w, Result.andThen_ok]; rfl)
  · cases h4
end
end Go.Proofs.YtpilmdfnbfcmkaaGreat.Ev
