/-
  Reading and writing rows of cells: what the reckoner does, and what the program does in every world in which its memory lies. No program in sight.
-/
import Derived.Test.YtpilmdfnbfcmkaaGreatEvRel
import Derived.Laws.Entries
import Derived.ChangeKeysEq
namespace Go.Proofs.YtpilmdfnbfcmkaaGreat.Ev
set_option linter.unusedVariables false
set_option linter.unusedSimpArgs false

theorem divmod {s off j : Nat} (h : off % s + j < s) : (off + j) / s = off / s ∧ (off + j) % s = off % s + j := by
  have hs : 0 < s := by omega
  have h1 := Nat.div_add_mod off s
  have e : off + j = (off % s + j) + s * (off / s) := by omega
  refine ⟨?_, ?_⟩
  · rw [e, Nat.add_mul_div_left _ _ hs, Nat.div_eq_of_lt h, Nat.zero_add]
  · rw [e, Nat.add_mul_mod_self_left, Nat.mod_eq_of_lt h]
theorem divmod_elem {s i j : Nat} (h : j < s) : (i * s + j) / s = i ∧ (i * s + j) % s = j := by
  have hs : 0 < s := by omega
  rw [Nat.add_comm, Nat.mul_comm]
  exact ⟨by rw [Nat.add_mul_div_left _ _ hs, Nat.div_eq_of_lt h, Nat.zero_add], by rw [Nat.add_mul_mod_self_left, Nat.mod_eq_of_lt h]⟩

section
variable {a : Value} {mm : Mem}
def Lens (els : PT (List Value)) (s : Nat) : Prop := ∀ i c, els.find i = some c → c.length = s

theorem gather_ok {els : PT (List Value)} {s : Nat} : ∀ {n i : Nat} {k : List Value → Ans}, gather els n i k = .ok a mm →
    ∃ cs, k cs = .ok a mm ∧ (Lens els s → cs.length = n * s ∧ ∀ j v, cs[j]? = some v → cellAt els s (i * s + j) = some v)
  | 0, i, k, h => ⟨[], h, fun _ => ⟨by simp, fun j v hv => by simp at hv⟩⟩
  | n + 1, i, k, h => by
    obtain ⟨c, hc, h1⟩ := PT.get_ok (show PT.get 13 els i (fun c => gather els n (Nat.succ i) (fun r => appK c r k)) = .ok a mm from h)
    obtain ⟨cs, h2, h34⟩ := gather_ok h1
    rw [appK_eq] at h2
    refine ⟨_, h2, fun hl => ?_⟩
    obtain ⟨h3, h4⟩ := h34 hl
    have hcl := hl i c hc
    refine ⟨by rw [List.length_append, hcl, h3, Nat.succ_mul]; omega, fun j v hv => ?_⟩
    by_cases hj : j < s
    · rw [List.getElem?_append_left (by omega)] at hv
      have := divmod_elem (i := i) hj
      unfold cellAt
      rw [this.1, this.2, hc]
      exact hv
    · rw [List.getElem?_append_right (by omega), hcl] at hv
      have := h4 _ _ hv
      rw [show (Nat.succ i) * s + (j - s) = i * s + j by rw [Nat.succ_mul]; omega] at this
      exact this

theorem readCells_ok {els : PT (List Value)} {s off cnt : Nat} (hc0 : 0 < cnt) {k : List Value → Ans} (h : readCells els s off cnt k = .ok a mm) :
    ∃ cs, k cs = .ok a mm ∧ (Lens els s → cs.length = cnt ∧ ∀ j v, cs[j]? = some v → cellAt els s (off + j) = some v) := by
  unfold readCells at h
  rcases iteB_ok h with ⟨hb, h1⟩ | ⟨hb, h1⟩
  · have hle : off % s + cnt ≤ s := Nat.le_of_ble_eq_true hb
    obtain ⟨c, hc, h2⟩ := PT.get_ok h1
    rcases iteB_ok h2 with ⟨hb2, h3⟩ | ⟨hb2, h3⟩
    · have hcs : cnt = s := Nat.eq_of_beq_eq_true hb2
      refine ⟨c, h3, fun hl => ?_⟩
      have hcl := hl _ _ hc
      refine ⟨by omega, fun j v hv => ?_⟩
      have hj : j < c.length := (List.getElem?_eq_some_iff.1 hv).1
      have := divmod (s := s) (off := off) (j := j) (by omega)
      unfold cellAt
      rw [this.1, this.2, show off / s = Nat.div off s from rfl, hc]
      rw [show off % s + j = j by omega]
      exact hv
    · rw [dropK_eq, takeK_eq] at h3
      refine ⟨_, h3, fun hl => ?_⟩
      have hcl := hl _ _ hc
      refine ⟨by rw [List.length_take, List.length_drop, hcl, show Nat.mod off s = off % s from rfl]; omega, fun j v hv => ?_⟩
      have hj : j < cnt := by
        have := (List.getElem?_eq_some_iff.1 hv).1
        rw [List.length_take] at this; omega
      rw [List.getElem?_take_of_lt hj, List.getElem?_drop] at hv
      have := divmod (s := s) (off := off) (j := j) (by omega)
      unfold cellAt
      rw [this.1, this.2, show off / s = Nat.div off s from rfl, hc]
      exact hv
  · obtain ⟨hb2, h2⟩ := iteB_yes h1
    have h0 : off % s + cnt % s = 0 := Nat.eq_of_beq_eq_true hb2
    obtain ⟨cs, h3, h45⟩ := gather_ok (s := s) h2
    refine ⟨cs, h3, fun hl => ?_⟩
    obtain ⟨h4, h5⟩ := h45 hl
    have e1 := Nat.div_add_mod off s
    have e2 := Nat.div_add_mod cnt s
    refine ⟨?_, fun j v hv => ?_⟩
    · rw [h4, Nat.mul_comm]; show s * (cnt / s) = cnt; omega
    · have := h5 j v hv
      rw [show Nat.div off s * s + j = off + j by rw [Nat.mul_comm]; show s * (off / s) + j = off + j; omega] at this
      exact this

/-- cells that were read lie in the world -/
theorem load_ok {m : Mem} {b off cnt : Nat} {k : List Value → Ans} (h : load m b off cnt k = .ok a mm) :
    ∃ cs, k cs = .ok a mm ∧ ∀ (ρ : Ren) (w : World) (r : Rn), SeeF m.heap.find ρ w → ρ b = some r →
      cs.length = cnt ∧ ∃ cs', LR ρ cs cs' ∧ ∀ j v, cs'[j]? = some v → w.cell? ⟨r.blk, r.base + off + j, none⟩ = some v := by
  cases cnt with
  | zero => exact ⟨[], h, fun ρ w r _ _ => ⟨rfl, [], .nil, fun j v hv => by simp at hv⟩⟩
  | succ n =>
    obtain ⟨bk, hbk, h1⟩ := bk_ok (show m.bk b (fun bk => asRow bk (fun els s _ _ _ => readCells els s off (n + 1) k)) = .ok a mm from h)
    obtain ⟨els, s, N, e, o, rfl, h2⟩ := asRow_ok h1
    obtain ⟨cs, h3, h45⟩ := readCells_ok (by omega) h2
    refine ⟨cs, h3, fun ρ w r hR hr => ?_⟩
    have e2 := hR b _ r hbk hr
    obtain ⟨arr, g1, g2, g3, g4, g5⟩ := e2
    obtain ⟨h4, h5⟩ := h45 g2
    have hex : ∀ j v, cs[j]? = some v → ∃ v', arr[r.base + off + j]? = some v' ∧ VR ρ v v' := fun j v hv => by
      obtain ⟨v', q1, q2⟩ := g3 _ _ (h5 j v hv)
      exact ⟨v', by rw [Nat.add_assoc]; exact q1, q2⟩
    refine ⟨h4, (arr.toList.drop (r.base + off)).take (n + 1), LR.ofGet ?_ (fun j v hv => ?_), fun j v hv => ?_⟩
    · rw [h4, List.length_take, List.length_drop]
      obtain ⟨v', q1, _⟩ := hex n cs[n] (List.getElem?_eq_getElem (by omega))
      have := (Array.getElem?_eq_some_iff.1 q1).1
      simp only [Array.length_toList]
      omega
    · obtain ⟨v', q1, q2⟩ := hex j v hv
      have hj : j < n + 1 := by have := (List.getElem?_eq_some_iff.1 hv).1; omega
      exact ⟨v', by rw [List.getElem?_take_of_lt hj, List.getElem?_drop, Array.getElem?_toList]; exact q1, q2⟩
    · have hj : j < n + 1 := by
        have := (List.getElem?_eq_some_iff.1 hv).1
        rw [List.length_take] at this; omega
      rw [List.getElem?_take_of_lt hj, List.getElem?_drop, Array.getElem?_toList] at hv
      simp [World.cell?, g1, hv]

/-! types and functions -/
def aggB (d : TypeDesc) : Bool := match d with | .struct _ | .array _ _ => true | _ => false
/-- The tables are the program's. -/
structure TabOk (P : Program) (T : Tab) : Prop where
  ty : ∀ t d, T.tys.find t = some d → P.underlying t = some d.desc ∧ d.agg = aggB d.desc ∧ ∃ i, P.info? t = some i ∧ i.size = d.size ∧ i.bytes = d.bytes ∧ i.zero = d.zero
  fld : ∀ t d fs f, T.tys.find t = some d → d.desc = .struct fs → f ∈ fs.toList → ∃ i, P.info? f.type = some i
  flt : ∀ t d, T.tys.find t = some d → d.flat = true → P.stoodInHeld t = false ∧ P.eqGuardType P.depth t = false
  fn : ∀ g f, T.fns.find g = some f → P.funcs[g]? = some f ∧ (f.name == "runtime.NumGoroutine") = false
section
variable {P : Program} {T : Tab}
theorem ty_ok {t : TypeId} {f : TyR → Ans} (h : T.ty t f = .ok a mm) : ∃ d, T.tys.find t = some d ∧ f d = .ok a mm := PT.get_ok h
theorem TabOk.under (hT : TabOk P T) {t : TypeId} {d : TyR} (h : T.tys.find t = some d) (w : World) : (underlying t).run P w = .ok d.desc w := run_underlying (hT.ty t d h).1 w
theorem TabOk.info (hT : TabOk P T) {t : TypeId} {d : TyR} (h : T.tys.find t = some d) (w : World) : ∃ i, (typeInfo t).run P w = .ok i w ∧ i.size = d.size ∧ i.bytes = d.bytes ∧ i.zero = d.zero := by
  obtain ⟨_, _, i, h1, h2⟩ := hT.ty t d h
  exact ⟨i, run_typeInfo w h1, h2⟩
theorem TabOk.size (hT : TabOk P T) {t : TypeId} {d : TyR} (h : T.tys.find t = some d) (w : World) : (sizeOf t).run P w = .ok d.size w := by
  obtain ⟨i, h1, h2, _⟩ := hT.info h w
  simp only [sizeOf, Sem.run_bind, h1, Result.andThen_ok, h2]
  rfl
theorem TabOk.isAgg (hT : TabOk P T) {t : TypeId} {d : TyR} (h : T.tys.find t = some d) (w : World) : (isAgg t).run P w = .ok d.agg w := by
  obtain ⟨h1, h2, _⟩ := hT.ty t d h
  simp only [Go.isAgg, Sem.run_bind, run_underlying h1, Result.andThen_ok, h2]
  cases d.desc <;> rfl
theorem TabOk.zero (hT : TabOk P T) {t : TypeId} {d : TyR} (h : T.tys.find t = some d) {z : Value} (hz : d.zero = some z) (w : World) : (zeroValue t).run P w = .ok z w := by
  obtain ⟨i, h1, _, _, h2⟩ := hT.info h w
  simp only [zeroValue, Sem.run_bind, h1, Result.andThen_ok, h2, hz]
  rfl

/-- a variable's value -/
theorem loadVar_ok (hT : TabOk P T) {m : Mem} {t : TypeId} {b off : Nat} {k : Value → Ans} (h : Ev.loadVar T m t b off k = .ok a mm) :
    ∃ v, k v = .ok a mm ∧ ∀ (ρ : Ren) (w : World) (r : Rn), SeeF m.heap.find ρ w → ρ b = some r → ∃ v', VR ρ v v' ∧ (Go.loadVar t ⟨r.blk, r.base + off, none⟩).run P w = .ok v' w := by
  obtain ⟨d, hd, h1⟩ := ty_ok h
  rcases iteB_ok h1 with ⟨hb, h2⟩ | ⟨hb, h2⟩
  · obtain ⟨cs, h3, h4⟩ := load_ok h2
    refine ⟨_, h3, fun ρ w r hR hr => ?_⟩
    obtain ⟨hl, cs', hc, hcell⟩ := h4 ρ w r hR hr
    refine ⟨.agg cs'.toArray, .agg (by simpa using hc), ?_⟩
    have := run_loadCells_list (P := P) w ⟨r.blk, r.base + off, none⟩ cs' (fun j v hv => by
      have := hcell j v hv
      unfold Addr.add
      split
      · subst j; simpa using this
      · exact this)
    rw [← hc.length, hl] at this
    simp only [Go.loadVar, Sem.run_bind, hT.isAgg hd w, hb, Result.andThen_ok, if_true, hT.size hd w, this]
    rfl
  · obtain ⟨cs, h3, h4⟩ := load_ok h2
    cases cs with
    | nil => cases h3
    | cons v l =>
      refine ⟨v, h3, fun ρ w r hR hr => ?_⟩
      obtain ⟨hl, cs', hc, hcell⟩ := h4 ρ w r hR hr
      cases hc with
      | cons hv hrest =>
        rename_i v' l'
        refine ⟨v', hv, ?_⟩
        have := hcell 0 v' rfl
        simp only [Nat.add_zero] at this
        simp only [Go.loadVar, Sem.run_bind, hT.isAgg hd w, hb, Result.andThen_ok, if_false, Bool.false_eq_true, run_load, this]
end

/-! writing -/
theorem scatter_ok {s : Nat} (hs : 0 < s) : ∀ {n i : Nat} {vs : List Value} {els : PT (List Value)} {k : PT (List Value) → Ans}, scatter s n i vs els k = .ok a mm →
    ∃ els', k els' = .ok a mm ∧ (n * s ≤ vs.length → (Lens els s → Lens els' s) ∧
      ∀ o, cellAt els' s o = if i * s ≤ o ∧ o < (i + n) * s then vs[o - i * s]? else cellAt els s o)
  | 0, i, vs, els, k, h => ⟨els, h, fun _ => ⟨id, fun o => by rw [if_neg (by simp only [Nat.add_zero]; omega)]⟩⟩
  | n + 1, i, vs, els, k, h => by
    have h0 : takeK s vs (fun hd => dropK s vs (fun d => PT.set els i (some hd) (fun els' => scatter s n (Nat.succ i) d els' k))) = .ok a mm := h
    rw [takeK_eq, dropK_eq] at h0
    obtain ⟨t, h1, hf⟩ := PT.set_ok h0
    obtain ⟨els', h2, h3⟩ := scatter_ok hs h1
    refine ⟨els', h2, fun hlen => ?_⟩
    have hm : (n + 1) * s = n * s + s := Nat.succ_mul n s
    obtain ⟨h4, h5⟩ := h3 (by rw [List.length_drop]; omega)
    refine ⟨fun hl => h4 fun j c hc => ?_, fun o => ?_⟩
    · rw [hf] at hc
      split at hc
      · cases hc; rw [List.length_take]; omega
      · exact hl j c hc
    · rw [h5]
      have e1 : (Nat.succ i) * s = i * s + s := Nat.succ_mul i s
      have e2 : (i + (n + 1)) * s = i * s + (n + 1) * s := Nat.add_mul _ _ _
      have e3 : (Nat.succ i + n) * s = i * s + s + n * s := by rw [Nat.add_mul, e1]
      rw [e1, e2, e3, hm]
      by_cases c1 : i * s + s ≤ o ∧ o < i * s + s + n * s
      · rw [if_pos c1, if_pos (by omega), List.getElem?_drop]
        congr 1
        omega
      · rw [if_neg c1]
        by_cases c2 : i * s ≤ o ∧ o < i * s + s
        · rw [if_pos (by omega)]
          have hj : o - i * s < s := by omega
          have := divmod_elem (i := i) hj
          rw [show i * s + (o - i * s) = o by omega] at this
          unfold cellAt
          rw [this.1, this.2, hf, if_pos rfl]
          show (vs.take s)[o - i * s]? = _
          rw [List.getElem?_take_of_lt hj]
        · rw [if_neg (by omega)]
          unfold cellAt
          rw [hf, if_neg]
          intro e
          apply c2
          have h6 := Nat.div_add_mod o s
          rw [e, Nat.mul_comm] at h6
          have := Nat.mod_lt o hs
          omega
theorem writeCells_ok {els : PT (List Value)} {s off : Nat} {vs : List Value} {k : PT (List Value) → Ans} (h : writeCells els s off vs k = .ok a mm) :
    ∃ els', k els' = .ok a mm ∧ (Lens els s → Lens els' s ∧ (∀ o, cellAt els' s o = if off ≤ o ∧ o < off + vs.length then vs[o - off]? else cellAt els s o) ∧
      ∀ o, off ≤ o → o < off + vs.length → ∃ v, cellAt els s o = some v) := by
  unfold writeCells at h
  obtain ⟨hb, h1⟩ := iteB_yes h
  have hle : off % s + vs.length ≤ s := Nat.le_of_ble_eq_true hb
  obtain ⟨c, hc', h2⟩ := PT.get_ok h1
  have hc : els.find (off / s) = some c := hc'
  -- what lies at the place, old and new
  have main : ∀ (els' : PT (List Value)) (c' : List Value), (∀ j, els'.find j = if j = off / s then some c' else els.find j) → (c.length = s → c' = c.take (off % s) ++ (vs ++ c.drop (off % s + vs.length))) →
      Lens els s → Lens els' s ∧ (∀ o, cellAt els' s o = if off ≤ o ∧ o < off + vs.length then vs[o - off]? else cellAt els s o) ∧
      ∀ o, off ≤ o → o < off + vs.length → ∃ v, cellAt els s o = some v := by
    intro els' c' hf hcc hl
    have hcl := hl _ _ hc
    have hc2 := hcc hcl
    have hcl' : c'.length = s := by rw [hc2]; simp only [List.length_append, List.length_take, List.length_drop]; omega
    have here : ∀ o, off ≤ o → o < off + vs.length → o / s = off / s ∧ o % s = off % s + (o - off) := fun o h1 h2 => by
      have := divmod (s := s) (off := off) (j := o - off) (by omega)
      rw [show off + (o - off) = o by omega] at this
      exact this
    refine ⟨fun j x hx => ?_, fun o => ?_, fun o h1 h2 => ?_⟩
    · rw [hf] at hx
      split at hx
      · cases hx; exact hcl'
      · exact hl j x hx
    · split
      · rename_i ho
        obtain ⟨g1, g2⟩ := here o ho.1 ho.2
        unfold cellAt
        rw [g1, g2, hf, if_pos rfl]
        show c'[off % s + (o - off)]? = _
        rw [hc2, List.getElem?_append_right (by rw [List.length_take]; omega), List.length_take, Nat.min_eq_left (by omega), Nat.add_sub_cancel_left, List.getElem?_append_left (by omega)]
      · rename_i ho
        unfold cellAt
        rw [hf]
        split
        · rename_i e
          have e' : o / s = off / s := e
          rw [e', hc]
          show c'[o % s]? = c[o % s]?
          have h6 := Nat.div_add_mod o s
          have h7 := Nat.div_add_mod off s
          rw [e'] at h6
          rw [hc2]
          by_cases hlt : o % s < off % s
          · rw [List.getElem?_append_left (by rw [List.length_take]; omega), List.getElem?_take_of_lt hlt]
          · have hge : off % s + vs.length ≤ o % s := by omega
            rw [List.getElem?_append_right (by rw [List.length_take]; omega), List.length_take, Nat.min_eq_left (by omega), List.getElem?_append_right (by omega), List.getElem?_drop]
            congr 1
            omega
        · rfl
    · obtain ⟨g1, g2⟩ := here o h1 h2
      refine ⟨c[off % s + (o - off)]'(by omega), ?_⟩
      unfold cellAt
      rw [g1, g2, hc]
      exact List.getElem?_eq_getElem _
  rcases iteB_ok h2 with ⟨hb2, h3⟩ | ⟨hb2, h3⟩
  · have hcs : vs.length = s := Nat.eq_of_beq_eq_true hb2
    obtain ⟨t, h4, hf⟩ := PT.set_ok h3
    refine ⟨t, h4, main t vs hf fun hcl => ?_⟩
    have h0 : off % s = 0 := by omega
    rw [h0, List.take_zero, List.nil_append, Nat.zero_add, List.drop_of_length_le (by omega), List.append_nil]
  · rw [layK_eq] at h3
    obtain ⟨t, h4, hf⟩ := PT.set_ok h3
    exact ⟨t, h4, main t _ hf fun _ => rfl⟩

/-- a row's block -/
theorem row_of {m : Mem} {b : Nat} {els : PT (List Value)} {s n : Nat} {e : TypeId} {o : Bool} (hb : m.heap.find b = some (.row els s n e o)) {ρ : Ren} {w : World} {r : Rn} (hR : RelF m.heap.find ρ w) (hr : ρ b = some r) :
    BR ρ w r (.row els s n e o) := by
  obtain ⟨r', e1, e2⟩ := hR.blk b _ hb
  rw [hr] at e1; cases e1
  exact e2
theorem any_false {vs : List Value} (h : vs.any isBad = false) : ∀ v ∈ vs, isBad v = false := by
  intro v hv
  cases hb : isBad v with
  | false => rfl
  | true => rw [List.any_eq_true.2 ⟨v, hv, hb⟩] at h; cases h
theorem LR.one {ρ : Ren} : ∀ {l l' : List Value}, LR ρ l l' → (∀ v ∈ l, isBad v = false) → ∀ v' ∈ l', v'.oneCell' = true
  | _, _, .nil, _, v', hv => by cases hv
  | _, _, .cons h hl, hb, v', hv => by
    cases hv with
    | head => exact h.one (hb _ (by simp))
    | tail _ hv => exact LR.one hl (fun v hx => hb v (by simp [hx])) v' hv
/-- cells of a row are overlaid: what lies in the world then -/
theorem lay_row {m m' : Mem} {b off : Nat} {els els' : PT (List Value)} {s n : Nat} {e : TypeId} {o : Bool} {vs : List Value} (hb : m.heap.find b = some (.row els s n e o)) (hbad : vs.any isBad = false)
    (hnx : m'.next = m.next) (hm : ∀ j, m'.heap.find j = if j = b then some (.row els' s n e o) else m.heap.find j)
    (hw : Lens els s → Lens els' s ∧ (∀ x, cellAt els' s x = if off ≤ x ∧ x < off + vs.length then vs[x - off]? else cellAt els s x))
    {P : Program} {ρ : Ren} {w : World} {r : Rn} {vs' : List Value} (hR : RelF m.heap.find ρ w) (hr : ρ b = some r) (hv : LR ρ vs vs') (hfit : off + vs.length ≤ (n + r.ext) * s ∨ vs = [] ∨ ∃ v, cellAt els s (off + vs.length - 1) = some v) :
    ∃ w', (storeCells ⟨r.blk, r.base + off, none⟩ vs' 0).run P w = .ok () w' ∧ RelF m'.heap.find ρ w' ∧ EX m ρ w m' ρ w' := by
  have hB := row_of hb hR hr
  obtain ⟨arr, g1, g2, g3, g4, g5⟩ := hB
  obtain ⟨w1, w2⟩ := hw g2
  by_cases hnil : vs = []
  · subst hnil
    cases hv
    refine ⟨w, rfl, ?_⟩
    refine stepR hR b (.row els' s n e o) r (fun _ _ h => h) (fun _ _ h => .inl h) (fun L x hx => ?_) (.inl ⟨_, hb⟩) hr ⟨arr, g1, w1, fun x v hx => ?_, g4, g5⟩ (Nat.le_refl _) (fun _ _ _ => rfl) (fun _ => .inr ⟨⟨b, _, r, hb, trivial, hr, rfl⟩, fun L x q hL hx hn hq he => ?_⟩)
    · rw [hm] at hx
      split at hx
      · cases hx; exact .inl ⟨‹_›, rfl⟩
      · exact .inr ⟨‹_›, hx⟩
    · rw [w2, if_neg (by simp only [List.length_nil]; omega)] at hx
      exact g3 x v hx
    · rw [hm, if_neg hL] at hx
      exact hL (hR.inj L b x _ q r hx hb hn trivial hq hr he)
  · have hpos : 0 < vs.length := List.length_pos_iff.2 hnil
    have hl' := hv.length
    have hal : arr.toList.length = arr.size := Array.length_toList
    have hbound : r.base + off + vs'.length ≤ arr.size := by
      rcases hfit with hfit | hfit | ⟨v, hfit⟩
      · omega
      · exact absurd hfit hnil
      · obtain ⟨v', q1, _⟩ := g3 _ v hfit
        have := (Array.getElem?_eq_some_iff.1 q1).1
        omega
    refine ⟨_, run_storeCells_at P r.blk (r.base + off) e vs' 0 arr w g1 (by simpa using hbound) (hv.one (any_false hbad)), ?_⟩
    refine stepR hR b (.row els' s n e o) r (fun _ _ h => h) (fun _ _ h => .inl h) (fun L x hx => ?_) (.inl ⟨_, hb⟩) hr ⟨_, setRow_heap w r.blk arr _ e (0, 0) g1, w1, fun x v hx => ?_, g4, ?_⟩ (by simp) (fun x _ hx => ?_) (fun _ => .inr ⟨⟨b, _, r, hb, trivial, hr, rfl⟩, fun L x q hL hx hn hq he => ?_⟩)
    · rw [hm] at hx
      split at hx
      · cases hx; exact .inl ⟨‹_›, rfl⟩
      · exact .inr ⟨‹_›, hx⟩
    · rw [w2] at hx
      simp only [Nat.add_zero, List.getElem?_toArray]
      split at hx
      · rename_i ho
        obtain ⟨v', q1, q2⟩ := hv.get hx
        refine ⟨v', ?_, q2⟩
        rw [List.append_assoc, List.getElem?_append_right (by rw [List.length_take]; omega), List.length_take, Array.length_toList, Nat.min_eq_left (by omega), List.getElem?_append_left (by omega)]
        rw [← q1]; congr 1; omega
      · rename_i ho
        obtain ⟨v', q1, q2⟩ := g3 x v hx
        refine ⟨v', ?_, q2⟩
        rw [← q1, ← Array.getElem?_toList]
        by_cases hlt : x < off
        · rw [List.append_assoc, List.getElem?_append_left (by rw [List.length_take, Array.length_toList]; omega), List.getElem?_take_of_lt (by omega)]
        · rw [List.append_assoc, List.getElem?_append_right (by rw [List.length_take]; omega), List.length_take, Array.length_toList, Nat.min_eq_left (by omega), List.getElem?_append_right (by omega), List.getElem?_drop]
          congr 1
          simp only [List.size_toArray]
          omega
    · simp only [List.size_toArray, List.length_append, List.length_take, List.length_drop, Array.length_toList, Nat.add_zero]
      omega
    · rcases hx with hx | hx
      · exact setRow_other w r.blk x _ hx
      · exact absurd trivial hx
    · rw [hm, if_neg hL] at hx
      exact hL (hR.inj L b x _ q r hx hb hn trivial hq hr he)
theorem store_ok {m : Mem} {b off : Nat} {vs : List Value} {k : Mem → Ans} (h : Ev.store m b off vs k = .ok a mm) :
    ∃ m', k m' = .ok a mm ∧ m'.next = m.next ∧ ∀ (P : Program) (ρ : Ren) (w : World) (r : Rn) (vs' : List Value), RelF m.heap.find ρ w → ρ b = some r → LR ρ vs vs' →
      ∃ w', (storeCells ⟨r.blk, r.base + off, none⟩ vs' 0).run P w = .ok () w' ∧ RelF m'.heap.find ρ w' ∧ EX m ρ w m' ρ w' := by
  obtain ⟨hbad, h0⟩ := iteB_not h
  obtain ⟨bk, hbk, h1⟩ := bk_ok h0
  obtain ⟨els, s, n, e, o, rfl, h2⟩ := asRow_ok h1
  obtain ⟨els', h3, h4⟩ := writeCells_ok h2
  obtain ⟨m', h5, h6, h7⟩ := put_ok h3
  refine ⟨m', h5, h6, fun P ρ w r vs' hR hr hv => ?_⟩
  have hB := row_of hbk hR hr
  obtain ⟨arr, g1, g2, g3, g4, g5⟩ := hB
  refine lay_row hbk hbad h6 h7 (fun hl => ⟨(h4 hl).1, (h4 hl).2.1⟩) hR hr hv ?_
  by_cases hnil : vs = []
  · exact .inr (.inl hnil)
  · have hpos : 0 < vs.length := List.length_pos_iff.2 hnil
    exact .inr (.inr ((h4 g2).2.2 (off + vs.length - 1) (by omega) (by omega)))
/-- a variable's new value -/
theorem storeVar_ok {P : Program} {T : Tab} (hT : TabOk P T) {m : Mem} {t : TypeId} {b off : Nat} {v : Value} {k : Mem → Ans} (h : Ev.storeVar T m t b off v k = .ok a mm) :
    ∃ m', k m' = .ok a mm ∧ m'.next = m.next ∧ ∀ (ρ : Ren) (w : World) (r : Rn) (v' : Value), RelF m.heap.find ρ w → ρ b = some r → VR ρ v v' →
      ∃ w', (Go.storeVar t ⟨r.blk, r.base + off, none⟩ v').run P w = .ok () w' ∧ RelF m'.heap.find ρ w' ∧ EX m ρ w m' ρ w' := by
  obtain ⟨d, hd, h1⟩ := ty_ok h
  obtain ⟨hb, h2⟩ := iteB_yes h1
  have hsz : (cellsL v).length = d.size := Nat.eq_of_beq_eq_true hb
  obtain ⟨m', h3, h4, h5⟩ := store_ok h2
  refine ⟨m', h3, h4, fun ρ w r v' hR hr hv => ?_⟩
  have hc := hv.cells
  obtain ⟨w', q1, q2⟩ := h5 P ρ w r _ hR hr hc
  refine ⟨w', ?_, q2⟩
  have hl : v'.cells.size = d.size := by rw [← hsz, hc.length, Array.length_toList]
  simp only [Go.storeVar, Sem.run_bind, hT.size hd w, Result.andThen_ok, hl, ne_eq, not_true_eq_false, if_false, q1]
end
end Go.Proofs.YtpilmdfnbfcmkaaGreat.Ev
