/-
  Steps through strings and maps; appends; calls; all operations together. No program in sight.
-/
import Derived.Test.YtpilmdfnbfcmkaaGreatEvOp5
namespace Go.Proofs.YtpilmdfnbfcmkaaGreat.Ev
set_option linter.unusedVariables false
set_option linter.unusedSimpArgs false

section
variable {P : Program} {T : Tab} {call : CallF} {env : L2} {m : Mem} {k : K} {a : Value} {mm : Mem}
theorem next_ok {it : Operand} {str : Bool} (h : nextOp it str T call env m k = .ok a mm) : ∃ v m', k v m' = .ok a mm ∧ OpS P (.next it str) env m v m' := by
  obtain ⟨p, h1, h2⟩ := evalO_ok h
  obtain ⟨b, o, rfl, h3⟩ := asPtr_ok h2
  obtain ⟨ho0, h4⟩ := iteB_yes h3
  obtain rfl : o = 0 := Nat.eq_of_beq_eq_true ho0
  obtain ⟨bk, hb, h5⟩ := bk_ok h4
  -- nothing moves
  have still : ∀ v, k v m = .ok a mm → (∀ (ρ : Ren) (w : World) (r : Rn) (ty : TypeId), RelF m.heap.find ρ w → ρ b = some r → ∃ v', VR ρ v v' ∧ (Instr.next (.pointer (some ⟨r.blk, r.base + 0, none⟩)) str ty).run P w = .ok v' w) →
      ∃ v m', k v m' = .ok a mm ∧ OpS P (.next it str) env m v m' := by
    intro v hk hh
    refine ⟨v, m, hk, Nat.le_refl _, fun ρ w oo c K Q ho hR _ hS hK => ?_⟩
    obtain ⟨r, hr, e⟩ := ptr_of (hS it _ (by simp [Op.operands]) h1)
    obtain ⟨v', g1, g2⟩ := hh ρ w r oo.type hR hr
    refine wp_value (v := v') (w' := w) ?_ (hK ρ v' w g1 hR (EX.refl _ _ _))
    unfold execOp
    rw [ho]
    simp only [e, Sem.run_bind, g2, Result.andThen_ok]
    rfl
  have moves : ∀ (v : Value) (b2 : Bk) (m' : Mem), k v m' = .ok a mm → notTail bk → notTail b2 → m'.next = m.next → (∀ j, m'.heap.find j = if j = b then some b2 else m.heap.find j) →
      (∀ (ρ : Ren) (w : World) (r : Rn) (ty : TypeId), RelF m.heap.find ρ w → ρ b = some r → ∃ v' obj, VR ρ v v' ∧ BR ρ { w with heap := w.heap.setIfInBounds r.blk obj } r b2 ∧
        (Instr.next (.pointer (some ⟨r.blk, r.base + 0, none⟩)) str ty).run P w = .ok v' { w with heap := w.heap.setIfInBounds r.blk obj }) →
      ∃ v m', k v m' = .ok a mm ∧ OpS P (.next it str) env m v m' := by
    intro v b2 m' hk n1 n2 hn hf hh
    refine ⟨v, m', hk, by omega, fun ρ w oo c K Q ho hR _ hS hK => ?_⟩
    obtain ⟨r, hr, e⟩ := ptr_of (hS it _ (by simp [Op.operands]) h1)
    obtain ⟨v', obj, g1, g2, g3⟩ := hh ρ w r oo.type hR hr
    obtain ⟨g4, g5⟩ := objR hR hb n1 hr n2 hn hf g2
    refine wp_value ?_ (hK ρ v' _ g1 g4 g5)
    unfold execOp
    rw [ho]
    simp only [e, Sem.run_bind, g3, Result.andThen_ok]
    rfl
  have nc : ∀ {o : Obj}, (∀ c t f, o ≠ .cells c t f) → ∀ c t f, o ≠ .cells c t f := fun h => h
  unfold nextF at h5
  split at h5
  · rename_i s pos
    obtain ⟨hstr, h6⟩ := iteB_yes h5
    subst hstr
    rcases iteB_ok h6 with ⟨hb2, h7⟩ | ⟨hb2, h7⟩
    · rw [forceN_eq, forceN_eq] at h7
      obtain ⟨m', g1, g2, g3⟩ := put_ok h7
      refine moves _ (.iter s (pos + (Utf8.decode s pos).2)) m' g1 trivial trivial g2 g3 fun ρ w r ty hR hr => ?_
      obtain ⟨q1, q2⟩ := of_blk hR.see hb hr
      have hlt : r.blk < w.heap.size := (Array.getElem?_eq_some_iff.1 q2).1
      have hpos : pos < s.size := by rw [size_data]; simpa [Nat.blt_eq] using hb2
      refine ⟨.tuple #[.bool true, goInt pos, .int .i32 (Utf8.decode s pos).1], .stringIter s (pos + (Utf8.decode s pos).2), .tuple (.cons (.bool _) (.cons (.int _ _) (.cons (.int _ _) .nil))), ⟨q1, by simp [hlt]⟩, ?_⟩
      simp only [Instr.next, q1, Nat.add_zero, Sem.run_bind, getObj_run q2 (fun _ _ _ e => by cases e), Result.andThen_ok]
      rw [if_pos hpos]
      simp only [Sem.run_bind, setObj_run q2 (fun _ _ _ e => by cases e), Result.andThen_ok]
      rfl
    · refine still _ h7 fun ρ w r ty hR hr => ?_
      obtain ⟨q1, q2⟩ := of_blk hR.see hb hr
      have hpos : ¬ pos < s.size := by
        rw [size_data]
        intro hh
        rw [show Nat.blt pos s.data.toList.length = true from by simpa [Nat.blt_eq] using hh] at hb2
        cases hb2
      refine ⟨.tuple #[.bool false], .tuple (.cons (.bool _) .nil), ?_⟩
      simp only [Instr.next, q1, Nat.add_zero, Sem.run_bind, getObj_run q2 (fun _ _ _ e => by cases e), Result.andThen_ok]
      rw [if_neg hpos]
      rfl
  · rename_i since seen last
    obtain ⟨hstr, h6⟩ := iteB_not h5
    subst hstr
    refine still _ h6 fun ρ w r ty hR hr => ?_
    obtain ⟨q1, mo', q2, rfl⟩ := of_blk hR.see hb hr
    refine ⟨.tuple #[.bool false], .tuple (.cons (.bool _) .nil), ?_⟩
    simp only [Instr.next, q1, Nat.add_zero, Sem.run_bind, getObj_run q2 (fun _ _ _ e => by cases e), Result.andThen_ok]
    rfl
  · rename_i L since seen last
    obtain ⟨hstr, h6⟩ := iteB_not h5
    subst hstr
    obtain ⟨bk2, hb2, h7⟩ := bk_ok h6
    obtain ⟨es, clock, rfl, h8⟩ := asMapB_ok h7
    have fe : ∀ (p : MapEntry → Bool), Array.filter p #[] 0 0 = #[] := fun p => by simp
    have forced : ∀ {n : Nat} {w : World}, n ≤ 1 → (choose (.mapNext n)).run P w = .ok 0 w := fun h => by
      show Sem.run P (.choose _ .pure) _ = _
      unfold Sem.run
      rw [if_pos (by simp [Question.forced, h])]
      rfl
    split at h8
    · refine still _ h8 fun ρ w r ty hR hr => ?_
      obtain ⟨q1, mo', q2, r', q3, rfl⟩ := of_blk hR.see hb hr
      obtain ⟨es', q4, q5⟩ := of_blk hR.see hb2 q3
      have he : es' = #[] := by
        apply Array.ext'
        generalize es'.toList = l at q5
        cases q5; rfl
      subst he
      refine ⟨.tuple #[.bool false], .tuple (.cons (.bool _) .nil), ?_⟩
      simp only [Instr.next, q1, Nat.add_zero, Sem.run_bind, getObj_run q2 (fun _ _ _ e => by cases e), getObj_run q4 (fun _ _ _ e => by cases e), Result.andThen_ok]
      have h0 : (!seen.toArray.isEmpty && !(#[] : Array MapEntry).isEmpty && (#[] : Array MapEntry).all fun e => decide (e.born ≥ last)) = false := by simp
      rw [h0]
      simp only [Bool.false_eq_true, if_false]
      have hc : (choose (.mapNext 1) : Sem Nat).run P w = .ok 0 w := forced (Nat.le_refl _)
      simp only [fe, Array.isEmpty_empty, if_true, Array.append_empty, Array.map_empty, List.size_toArray, List.length_cons, List.length_nil, Nat.zero_add, hc, Sem.run_bind, Result.andThen_ok]
      rfl
    · rename_i e
      obtain ⟨hb3, h9⟩ := iteB_yes h8
      have hlt : e.born < since := by simpa [Nat.blt_eq] using hb3
      obtain ⟨m', g1, g2, g3⟩ := put_ok h9
      refine moves _ (.miter (some L) since [e.born] clock) m' g1 trivial trivial g2 g3 fun ρ w r ty hR hr => ?_
      obtain ⟨q1, mo', q2, r', q3, rfl⟩ := of_blk hR.see hb hr
      obtain ⟨es', q4, q5⟩ := of_blk hR.see hb2 q3
      generalize hes : es'.toList = l' at q5
      cases q5 with
      | cons hk hv hbn hl =>
        cases hl
        rename_i e'
        have hes' : es' = #[e'] := by apply Array.ext'; rw [hes]
        subst hes'
        have hbl : r.blk < w.heap.size := (Array.getElem?_eq_some_iff.1 q2).1
        refine ⟨.tuple #[.bool true, e'.key, e'.val], .mapIter (some r'.blk) since #[e'.born] clock, .tuple (.cons (.bool _) (.cons hk (.cons hv .nil))), ⟨q1, some r'.blk, by simp [hbl, hbn], r', q3, rfl⟩, ?_⟩
        simp only [Instr.next, q1, Nat.add_zero, Sem.run_bind, getObj_run q2 (fun _ _ _ e => by cases e), getObj_run q4 (fun _ _ _ e => by cases e), Result.andThen_ok]
        have h0 : (!([] : List Nat).toArray.isEmpty && !#[e'].isEmpty && #[e'].all fun e => decide (e.born ≥ last)) = false := by simp
        rw [h0]
        simp only [Bool.false_eq_true, if_false]
        have f1 : (#[e'].filter fun e => !([] : List Nat).toArray.contains e.born) = #[e'] := by simp
        have f2 : (#[e'].filter fun e => decide (e.born < since)) = #[e'] := by simp [← hbn, hlt]
        have f3 : (#[e'].filter fun e => decide (e.born ≥ since)) = #[] := by simp [← hbn]; omega
        rw [f1, f2, f3]
        have hc : (choose (.mapNext 1) : Sem Nat).run P w = .ok 0 w := forced (Nat.le_refl _)
        simp only [Array.append_empty]
        have f4 : ((if (#[e'] : Array MapEntry).isEmpty = true then (#[none] : Array (Option MapEntry)) else #[]) ++ Array.map some #[e']) = #[some e'] := by simp
        rw [f4]
        simp only [List.size_toArray, List.length_cons, List.length_nil, Nat.zero_add, hc, Sem.run_bind, Result.andThen_ok]
        have f5 : (#[some e'] : Array (Option MapEntry))[0]? = some (some e') := rfl
        rw [f5]
        simp only [Sem.run_bind, setObj_run q2 (fun _ _ _ e => by cases e), Result.andThen_ok]
        rfl
    · rename_i e s
      obtain ⟨hb3, h9⟩ := iteB_yes h8
      rw [Bool.and_eq_true] at hb3
      have e2 : e.born = s := Nat.eq_of_beq_eq_true hb3.1
      have hlt : e.born < last := by simpa [Nat.blt_eq] using hb3.2
      refine still _ h9 fun ρ w r ty hR hr => ?_
      obtain ⟨q1, mo', q2, r', q3, rfl⟩ := of_blk hR.see hb hr
      obtain ⟨es', q4, q5⟩ := of_blk hR.see hb2 q3
      generalize hes : es'.toList = l' at q5
      cases q5 with
      | cons hk hv hbn hl =>
        cases hl
        rename_i e'
        have hes' : es' = #[e'] := by apply Array.ext'; rw [hes]
        subst hes'
        refine ⟨.tuple #[.bool false], .tuple (.cons (.bool _) .nil), ?_⟩
        simp only [Instr.next, q1, Nat.add_zero, Sem.run_bind, getObj_run q2 (fun _ _ _ e => by cases e), getObj_run q4 (fun _ _ _ e => by cases e), Result.andThen_ok]
        have h0 : (![s].toArray.isEmpty && !#[e'].isEmpty && #[e'].all fun e => decide (e.born ≥ last)) = false := by simp [← hbn]; omega
        rw [h0]
        simp only [Bool.false_eq_true, if_false]
        have f1 : (#[e'].filter fun e => ![s].toArray.contains e.born) = #[] := by simp [← hbn, e2]
        rw [f1]
        have hc : (choose (.mapNext 1) : Sem Nat).run P w = .ok 0 w := forced (Nat.le_refl _)
        simp only [fe, Array.isEmpty_empty, if_true, Array.append_empty, Array.map_empty, List.size_toArray, List.length_cons, List.length_nil, Nat.zero_add, hc, Sem.run_bind, Result.andThen_ok]
        rfl
    · cases h8
  · cases h5
/-! appends -/
theorem run_append_new {w : World} {t t' ty e : TypeId} {du : TypeDesc} {i : TypeInfo} {z x' : Value} {base : Option Addr} {sLen sCap n : Nat} {olds news : List Value} (ht : P.underlying t = some (.slice e)) (hu : P.underlying t' = some du) (hd : (∃ e', du = .slice e') ∨ du = .string)
    (hi : P.info? e = some i) (hz : i.zero = some z) (ho : (Builtin.firstCells i.size sLen (.slice base sLen sCap)).run P w.drew = .ok olds.toArray w.drew) (hl : ∀ w, (Builtin.lenOf x').run P w = .ok n w)
    (hn : (Builtin.firstCells i.size n x').run P w.drew = .ok news.toArray w.drew) (hg : sCap < sLen + n) (hb : (sLen + n) * i.bytes + (sLen + n) ≤ 4294967296) :
    (Builtin.append_ #[t, t'] ty #[.slice base sLen sCap, x']).run P w = .ok (.slice (some ⟨w.heap.size, 0, none⟩) (sLen + n) (grownCap w (sLen + n) sCap e))
      (w.drew.alloc (.cells (olds ++ news ++ (Builtin.zeroCells z.cells (grownCap w (sLen + n) sCap e - (sLen + n))).toList).toArray e)) := by
  have hn' : ¬ (sLen + n ≤ sCap) := by omega
  have h63' : ¬ (9223372036854775807 < ((sLen : Int) + (n : Int))) := by omega
  have hfit := growslice_fits (bytes := i.bytes) hg (by omega)
  have h48' : ¬ (281474976710656 < Builtin.nextslicecap (sLen + n) sCap * i.bytes) := by omega
  rcases hd with ⟨e', rfl⟩ | rfl <;> simp [Builtin.append_, run_underlying ht, run_underlying hu, sizeOf, typeInfo, zeroValue, hi, hz, hl, hn', h63', h48', Question.forced, ho, hn, Go.newRow, grownCap]
  all_goals (congr 2; apply Array.ext'; simp)
theorem run_append_here {w w' : World} {t t' ty e : TypeId} {du : TypeDesc} {i : TypeInfo} {x' : Value} {ad : Addr} {sLen sCap n : Nat} {news : List Value} (ht : P.underlying t = some (.slice e)) (hu : P.underlying t' = some du) (hd : (∃ e', du = .slice e') ∨ du = .string)
    (hi : P.info? e = some i) (hl : ∀ w, (Builtin.lenOf x').run P w = .ok n w) (hn : (Builtin.firstCells i.size n x').run P w = .ok news.toArray w) (hg : sLen + n ≤ sCap)
    (hs : (storeCells (ad.add (sLen * i.size)) news 0).run P w = .ok () w') :
    (Builtin.append_ #[t, t'] ty #[.slice (some ad) sLen sCap, x']).run P w = .ok (.slice (some ad) (sLen + n) sCap) w' := by
  rcases hd with ⟨e', rfl⟩ | rfl <;> simp [Builtin.append_, run_underlying ht, run_underlying hu, sizeOf, typeInfo, hi, hl, hg, hn, hs]
theorem added_ok {s : Nat} {x : Value} {c : Nat → List Value → Ans} (h : added m s x c = .ok a mm) : ∃ n new, c n new = .ok a mm ∧ ∀ (ρ : Ren) (w : World) (x' : Value), RelF m.heap.find ρ w → VR ρ x x' →
    new.length = n * s ∧ ∃ new', LR ρ new new' ∧ (∀ w2, (Builtin.lenOf x').run P w2 = .ok n w2) ∧ ∀ w2 : World, w2.heap = w.heap → (Builtin.firstCells s n x').run P w2 = .ok new'.toArray w2 := by
  unfold added at h
  split at h
  · rename_i n _
    cases n with
    | zero => exact ⟨0, [], h, fun ρ w x' hR hx => by cases hx; exact ⟨by simp, [], .nil, fun _ => rfl, fun _ _ => rfl⟩⟩
    | succ n => cases h
  · rename_i b o n _
    obtain ⟨cs, h1, h2⟩ := load_ok h
    refine ⟨n, cs, h1, fun ρ w x' hR hx => ?_⟩
    cases hx with
    | slice n c0 hr =>
      rename_i r
      obtain ⟨g1, cs', g2, g3⟩ := h2 ρ w r hR.see hr
      refine ⟨g1, cs', g2, fun _ => rfl, fun w2 hw => ?_⟩
      exact run_firstCells_some (P := P) w2 s n _ n _ cs' (by rw [← g2.length, g1]; rfl) fun j v hv => by
        rw [add_off]
        have := g3 j v hv
        simp only [World.cell?, hw] at this ⊢
        exact this
  · rename_i b
    obtain ⟨hs, h1⟩ := iteB_yes h
    obtain rfl : s = 1 := Nat.eq_of_beq_eq_true hs
    refine ⟨_, _, h1, fun ρ w x' hR hx => ?_⟩
    cases hx
    refine ⟨by simp, b.data.toList.map fun (b : UInt8) => Value.int .u8 (Int.ofNat b.toNat), LR.ground (by rw [List.all_eq_true]; intro v hv; obtain ⟨y, _, rfl⟩ := List.mem_map.1 hv; rfl), fun _ => rfl, fun w2 _ => ?_⟩
    show (pure ((b.extract 0 b.data.toList.length).data.map fun b => Value.int .u8 b.toNat) : Sem (Array Value)).run P w2 = _
    have he : (b.extract 0 b.data.toList.length) = b := Go.WideShapes.bytes_inj (by rw [Lib.extract_data, List.drop_zero, Nat.sub_zero, List.take_length])
    rw [he]
    show Result.ok _ w2 = _
    congr 1
    apply Array.ext'
    simp
  · cases h
theorem EX.of_heap {m m' : Mem} {ρ ρ' : Ren} {w w0 w' : World} (hh : w0.heap = w.heap) (hs : SameO w w0) (h : EX m ρ w0 m' ρ' w') : EX m ρ w m' ρ' w' :=
  ⟨h.sub, h.dom, by rw [← hh]; exact h.size, fun b hb hi => by rw [← hh] at hb ⊢; exact h.frame b hb hi, fun b hb => by rw [← hh]; exact h.img b hb, h.lab, hs.trans h.same⟩
theorem RelF.of_heap {f : Nat → Option Bk} {ρ : Ren} {w w0 : World} (hh : w0.heap = w.heap) (h : RelF f ρ w) : RelF f ρ w0 :=
  ⟨fun L b hb => by obtain ⟨r, h1, h2⟩ := h.blk L b hb; exact ⟨r, h1, h2.keep (fun _ _ h => h) fun _ => by rw [hh]⟩, h.inj⟩
/-- an append that makes a new row -/
theorem app_new {m m1 m' : Mem} {ρ : Ren} {w : World} {e : TypeId} {s n cap : Nat} {els : PT (List Value)} {cs cs' : List Value} {z : Value} (hR : RelF m.heap.find ρ w) (hfree : ρ m.next = none)
    (h1 : m1.next = m.next) (hsub : ∀ L b, m1.heap.find L = some b → m.heap.find L = some b) (hn : m'.next = m1.next + 1) (hf : ∀ j, m'.heap.find j = if j = m1.next then some (.row els s n e true) else m1.heap.find j)
    (hl : cs.length = n * s) (hL : Lens els s) (hc : ∀ o, cellAt els s o = if o < n * s then cs[o]? else none) (hv : LR ρ cs cs') (hz : z.cells.size = s) (hcap : n ≤ cap) :
    RelF m'.heap.find (ρ.put m.next ⟨w.heap.size, 0, cap - n⟩) (w.drew.alloc (.cells (cs' ++ (Builtin.zeroCells z.cells (cap - n)).toList).toArray e)) ∧
      EX m ρ w m' (ρ.put m.next ⟨w.heap.size, 0, cap - n⟩) (w.drew.alloc (.cells (cs' ++ (Builtin.zeroCells z.cells (cap - n)).toList).toArray e)) := by
  rw [h1] at hn hf
  refine stepR hR m.next (.row els s n e true) ⟨w.heap.size, 0, cap - n⟩ (Ren.put_sub hfree) (Ren.put_dom (Nat.le_refl _) (by omega)) (fun L b hb => ?_) (.inr ⟨Nat.le_refl _, by omega⟩) Ren.put_same
    (BR_row (w := w.drew) hl hL hc (hv.put hfree) (by rw [Array.length_toList, size_zeroCells, hz]) (fun h => by cases h)) ?_ (fun b hb _ => ?_) (fun _ => .inl (Nat.le_refl _))
  · rw [hf] at hb
    split at hb
    · cases hb; exact .inl ⟨‹_›, rfl⟩
    · exact .inr ⟨‹_›, hsub _ _ hb⟩
  · show w.heap.size ≤ (w.heap.push _).size
    simp
  · show (w.heap.push _)[b]? = _
    rw [Array.getElem?_push, if_neg (by omega)]
/-- an append that stays in its row: X is the new number, p the row's -/
theorem app_here {m m1 m' : Mem} {ρ : Ren} {w : World} {e : TypeId} {s n rn p base ext : Nat} {els els0 : PT (List Value)} {cs new new' : List Value} {r : Rn} {opn : Bool} (hR : RelF m.heap.find ρ w) (hfree : ρ m.next = none) (hs : 0 < s)
    (hp : m.heap.find p = some (.row els0 s rn e opn)) (hr : ρ p = some r) (hpl : m1.heap.find p = none)
    (h1 : m1.next = m.next) (hsub : ∀ L b, m1.heap.find L = some b → m.heap.find L = some b) (hn : m'.next = m1.next + 1) (hf : ∀ j, m'.heap.find j = if j = m1.next then some (.row els s n e true) else m1.heap.find j)
    (hl : cs.length = n * s) (hL : Lens els s) (hc : ∀ o, cellAt els s o = if o < n * s then cs[o]? else none)
    (old : List Value) (hcs : cs = old ++ new) (hold : ∀ j v, old[j]? = some v → ∃ v', w.cell? ⟨r.blk, base + j, none⟩ = some v' ∧ VR ρ v v') (hv : LR ρ new new') (hbad : new.any isBad = false)
    (hfit : base + (n + ext) * s ≤ r.base + (rn + r.ext) * s) :
    ∃ w', (storeCells ⟨r.blk, base + old.length, none⟩ new' 0).run P w = .ok () w' ∧ RelF m'.heap.find (ρ.put m.next ⟨r.blk, base, ext⟩) w' ∧ EX m ρ w m' (ρ.put m.next ⟨r.blk, base, ext⟩) w' := by
  rw [h1] at hn hf
  obtain ⟨arr, g1, g2, g3, g4, g5⟩ := row_of hp hR hr
  have hlen : old.length + new'.length = n * s := by rw [← hv.length, ← hl, hcs, List.length_append]
  have hms : (n + ext) * s = n * s + ext * s := Nat.add_mul _ _ _
  have hal : arr.toList.length = arr.size := Array.length_toList
  have hbound : base + old.length + new'.length ≤ arr.size := by omega
  refine ⟨_, run_storeCells_at P r.blk (base + old.length) e new' 0 arr w g1 (by simpa using hbound) (hv.one (any_false hbad)), ?_⟩
  refine stepR hR m.next (.row els s n e true) ⟨r.blk, base, ext⟩ (Ren.put_sub hfree) (Ren.put_dom (Nat.le_refl _) (by omega)) (fun L b hb => ?_) (.inr ⟨Nat.le_refl _, by omega⟩) Ren.put_same
    ⟨_, setRow_heap w r.blk arr _ e (0, 0) g1, hL, fun x v hx => ?_, (fun h => by cases h), ?_⟩ (by simp) (fun x _ hx => ?_) (fun _ => .inr ⟨⟨p, _, r, hp, trivial, hr, rfl⟩, fun L x q hL hx hn' hq he => ?_⟩)
  · rw [hf] at hb
    split at hb
    · cases hb; exact .inl ⟨‹_›, rfl⟩
    · exact .inr ⟨‹_›, hsub _ _ hb⟩
  · rw [hc] at hx
    split at hx
    · rename_i hlt
      simp only [Nat.add_zero, List.getElem?_toArray]
      rw [hcs] at hx
      by_cases ho : x < old.length
      · rw [List.getElem?_append_left ho] at hx
        obtain ⟨v', q1, q2⟩ := hold x v hx
        refine ⟨v', ?_, q2.mono (Ren.put_sub hfree)⟩
        have q1' : arr[base + x]? = some v' := by simpa [World.cell?, g1] using q1
        rw [List.append_assoc, List.getElem?_append_left (by rw [List.length_take, hal]; omega), List.getElem?_take_of_lt (by omega), Array.getElem?_toList]
        exact q1'
      · rw [List.getElem?_append_right (by omega)] at hx
        obtain ⟨v', q1, q2⟩ := hv.get hx
        refine ⟨v', ?_, q2.mono (Ren.put_sub hfree)⟩
        have hlt' : x - old.length < new'.length := (List.getElem?_eq_some_iff.1 q1).1
        rw [List.append_assoc, List.getElem?_append_right (by rw [List.length_take]; omega), List.length_take, hal, Nat.min_eq_left (by omega), List.getElem?_append_left (by omega)]
        rw [← q1]; congr 1; omega
    · cases hx
  · simp only [List.size_toArray, List.length_append, List.length_take, List.length_drop, Array.length_toList, Nat.add_zero]
    omega
  · rcases hx with hx | hx
    · exact setRow_other w r.blk x _ hx
    · exact absurd trivial hx
  · rw [hf, if_neg hL] at hx
    have hx' := hsub _ _ hx
    have := hR.inj L p x _ q r hx' hp hn' trivial hq hr he
    subst this
    rw [hpl] at hx; cases hx
/-- what an append comes to -/
def AppS (P : Program) (t t' : TypeId) (s x : Value) (m : Mem) (v : Value) (m' : Mem) : Prop :=
  m.next ≤ m'.next ∧ ∀ (ρ : Ren) (w : World) (ty : TypeId) (s' x' : Value), RelF m.heap.find ρ w → Free ρ m m' → VR ρ s s' → VR ρ x x' →
    ∃ ρ' w' v', VR ρ' v v' ∧ RelF m'.heap.find ρ' w' ∧ EX m ρ w m' ρ' w' ∧ (Builtin.append_ #[t, t'] ty #[s', x']).run P w = .ok v' w'
theorem grow_ok (hT : TabOk P T) {t t' e : TypeId} {d dx de : TyR} {z : Value} {b o len cap n : Nat} {x : Value} {new : List Value} (hd : T.tys.find t = some d) (he : d.desc = .slice e) (hdx : T.tys.find t' = some dx) (hseq : (∃ e', dx.desc = .slice e') ∨ dx.desc = .string)
    (hde : T.tys.find e = some de) (hz : de.zero = some z) (hs : 0 < de.size) (hzs : z.cells.size = de.size) (hn0 : 0 < n)
    (hadd : ∀ (ρ : Ren) (w : World) (x' : Value), RelF m.heap.find ρ w → VR ρ x x' → new.length = n * de.size ∧ ∃ new', LR ρ new new' ∧ (∀ w2, (Builtin.lenOf x').run P w2 = .ok n w2) ∧ ∀ w2 : World, w2.heap = w.heap → (Builtin.firstCells de.size n x').run P w2 = .ok new'.toArray w2)
    (h : growK m e de b o len cap n new k = .ok a mm) : ∃ v m', k v m' = .ok a mm ∧ AppS P t t' (.slice (some ⟨b, o, none⟩) len cap) x m v m' := by
  obtain ⟨hu, _, i, hi, i1, i2, i3⟩ := hT.ty e de hde
  have ht : P.underlying t = some (.slice e) := by rw [← he]; exact (hT.ty t d hd).1
  have hu' := (hT.ty t' dx hdx).1
  obtain ⟨bk, hb, h1⟩ := bk_ok h
  -- the two ways of the program, where the reckoner makes a new row
  have fin : ∀ (m1 m' : Mem) (els0 els : PT (List Value)) (s rn p q : Nat) (opn : Bool) (old : List Value), s = de.size → 
      m.heap.find p = some (.row els0 s rn e opn) → (opn = true → m1.heap.find p = none) → m1.next = m.next → (∀ L b, m1.heap.find L = some b → m.heap.find L = some b) → m'.next = m1.next + 1 →
      (∀ j, m'.heap.find j = if j = m1.next then some (.row els s (len + n) e true) else m1.heap.find j) → (old ++ new).length = (len + n) * s → Lens els s → (∀ o, cellAt els s o = if o < (len + n) * s then (old ++ new)[o]? else none) →
      new.any isBad = false → (len + n) * de.bytes + (len + n) ≤ 4294967296 → cap < len + n →
      (∀ (ρ : Ren) (w : World) (r rb : Rn), RelF m.heap.find ρ w → ρ p = some r → ρ b = some rb → old.length = len * s ∧ (opn = false → rb.ext = 0) ∧ (rb.ext ≠ 0 → rb.blk = r.blk ∧ rb.base + o + (cap + rb.ext) * s ≤ r.base + (rn + r.ext) * s) ∧
        ∃ old', LR ρ old old' ∧ (∀ j v, old'[j]? = some v → w.cell? ⟨rb.blk, rb.base + o + j, none⟩ = some v)) →
      (∀ ρ w, RelF m.heap.find ρ w → ∀ rb, ρ b = some rb → ∃ r, ρ p = some r) →
      AppS P t t' (.slice (some ⟨b, o, none⟩) len cap) x m (.slice (some ⟨m1.next, 0, none⟩) (len + n) (len + n)) m' := by
    intro m1 m' els0 els s rn p q opn old hs' hp hk h1n hsub hn' hf hl hL hc hbad hbytes hcap hold hpr
    subst hs'
    refine ⟨by omega, fun ρ w ty s' x' hR hF hS hX => ?_⟩
    have hfree : ρ m.next = none := hF _ (Nat.le_refl _) (by omega)
    cases hS with
    | slice n0 c0 hrb =>
      rename_i rb
      obtain ⟨r, hr⟩ := hpr ρ w hR rb hrb
      obtain ⟨q1, q2, q3, old', q4, q5⟩ := hold ρ w r rb hR hr hrb
      obtain ⟨a1, new', a2, a3, a4⟩ := hadd ρ w x' hR hX
      by_cases hgo : cap + rb.ext < len + n
      · -- a new row
        have ho : (Builtin.firstCells i.size len (.slice (some ⟨rb.blk, rb.base + o, none⟩) len (cap + rb.ext))).run P w.drew = .ok old'.toArray w.drew := by
          rw [i1]
          exact run_firstCells_some (P := P) w.drew de.size len _ len _ old' (by rw [← q4.length, q1]) fun j v hv => by rw [add_off]; exact q5 j v hv
        have hn2 := a4 w.drew rfl
        rw [← i1] at hn2
        have hrun := run_append_new (w := w) (ty := ty) ht hu' hseq hi (i3.trans hz) ho a3 hn2 hgo (by rw [i2]; exact hbytes)
        have hge := grownCap_ge w (len + n) (cap + rb.ext) e
        obtain ⟨g1, g2⟩ := app_new hR hfree h1n hsub hn' hf hl hL hc (q4.app a2) hzs hge
        refine ⟨_, _, _, ?_, g1, g2, hrun⟩
        have := VR.slice (ρ := ρ.put m.next ⟨w.heap.size, 0, grownCap w (len + n) (cap + rb.ext) e - (len + n)⟩) (L := m.next) (o := 0) (r := ⟨w.heap.size, 0, grownCap w (len + n) (cap + rb.ext) e - (len + n)⟩) (len + n) (len + n) Ren.put_same
        rw [h1n]
        rw [show len + n + (grownCap w (len + n) (cap + rb.ext) e - (len + n)) = grownCap w (len + n) (cap + rb.ext) e by omega] at this
        exact this
      · -- in its row
        have hext : rb.ext ≠ 0 := by omega
        have hopn : opn = true := by
          cases opn with
          | true => rfl
          | false => exact absurd (q2 rfl) hext
        obtain ⟨b1, b2⟩ := q3 hext
        obtain ⟨w', g1, g2, g3⟩ := app_here (P := P) (base := rb.base + o) (ext := cap + rb.ext - (len + n)) hR hfree hs hp hr (hk hopn) h1n hsub hn' hf hl hL hc old rfl (fun j v hv => by
          obtain ⟨v', c1, c2⟩ := q4.get hv
          exact ⟨v', by rw [← b1]; exact q5 j v' c1, c2⟩) a2 hbad (by rw [show len + n + (cap + rb.ext - (len + n)) = cap + rb.ext by omega]; exact b2)
        have hn2 := a4 w rfl
        rw [← i1] at hn2
        rw [q1, ← b1] at g1
        have hrun := run_append_here (w := w) (ty := ty) (sLen := len) (sCap := cap + rb.ext) (ad := ⟨rb.blk, rb.base + o, none⟩) ht hu' hseq hi a3 hn2 (by omega) (by rw [add_off, i1]; exact g1)
        refine ⟨_, _, _, ?_, g2, g3, hrun⟩
        have := VR.slice (ρ := ρ.put m.next ⟨r.blk, rb.base + o, cap + rb.ext - (len + n)⟩) (L := m.next) (o := 0) (r := ⟨r.blk, rb.base + o, cap + rb.ext - (len + n)⟩) (len + n) (len + n) Ren.put_same
        rw [h1n, b1]
        rw [show len + n + (cap + rb.ext - (len + n)) = cap + rb.ext by omega] at this
        exact this
  split at h1
  · -- behind the end of a row
    rename_i p q
    obtain ⟨bk2, hp, h2⟩ := bk_ok h1
    obtain ⟨els0, es, rn, re, opn, rfl, h3⟩ := asRow_ok h2
    obtain ⟨hc, h4⟩ := iteB_yes h3
    simp only [Bool.and_eq_true, Bool.not_eq_true'] at hc
    obtain ⟨⟨⟨c1, c2⟩, c3, c4, c5⟩, c6, c7, c8⟩ := hc
    obtain rfl : es = de.size := Nat.eq_of_beq_eq_true c1
    obtain rfl : re = e := Nat.eq_of_beq_eq_true c2
    obtain rfl : o = 0 := Nat.eq_of_beq_eq_true c3
    obtain rfl : len = 0 := Nat.eq_of_beq_eq_true c4
    obtain rfl : cap = 0 := Nat.eq_of_beq_eq_true c5
    have c6' : q ≤ rn * de.size := Nat.le_of_ble_eq_true c6
    have c8' : n * de.bytes + n ≤ 4294967296 := Nat.le_of_ble_eq_true c8
    obtain ⟨m1, h5, h6, h7⟩ := kill_ok h4
    obtain ⟨m2, h8, h9, h10⟩ := kill_ok h5
    obtain ⟨els, m', h11, h12, h13, h14, h15, h16⟩ := newRow_ok hs h8
    have hsub : ∀ L b', m2.heap.find L = some b' → m.heap.find L = some b' := fun L b' hb' => by
      rw [h10] at hb'
      split at hb'
      · cases hb'
      · rw [h7] at hb'
        split at hb'
        · cases hb'
        · exact hb'
    refine ⟨_, m', h11, ?_⟩
    have := fin m2 m' els0 els de.size rn p q opn [] rfl hp (fun _ => by rw [h10]; split <;> first | rfl | (rw [h7, if_pos rfl])) (by omega) hsub h12 (by rw [Nat.zero_add]; exact h13) (by rw [Nat.zero_add, List.nil_append]; exact h14) h15 (by rw [Nat.zero_add, List.nil_append]; exact h16) c7 (by rw [Nat.zero_add]; exact c8') (by omega)
      (fun ρ w r rb hR hr hrb => by
        obtain ⟨rp, g1, g2⟩ := of_blk hR.see hb hrb
        rw [hr] at g1; cases g1
        refine ⟨by simp, fun ho => ?_, fun hne => ?_, [], .nil, fun j v hv => by simp at hv⟩
        · rcases g2 with g2 | ⟨_, _, g2⟩
          · exact g2
          · obtain ⟨arr, _, _, _, g4, _⟩ := row_of hp hR hr
            rw [g2]; exact g4 ho
        · rcases g2 with g2 | ⟨g2, g3, g4⟩
          · exact absurd g2 hne
          · refine ⟨g2, ?_⟩
            rw [g3, g4, Nat.zero_add, Nat.add_mul]
            omega)
      (fun ρ w hR rb hrb => by
        obtain ⟨rp, g1, g2⟩ := of_blk hR.see hb hrb
        exact ⟨rp, g1⟩)
    rw [Nat.zero_add] at this
    exact this
  · rename_i els0 es rn re opn
    rw [forceN_eq] at h1
    obtain ⟨hc, h2⟩ := iteB_yes h1
    simp only [Bool.and_eq_true, Bool.not_eq_true'] at hc
    obtain ⟨⟨c1, c2, c3⟩, c4, c5⟩ := hc
    obtain rfl : es = de.size := Nat.eq_of_beq_eq_true c1
    obtain rfl : re = e := Nat.eq_of_beq_eq_true c2
    have c3' : o % de.size = 0 := Nat.eq_of_beq_eq_true c3
    have c5' : (len + n) * de.bytes + (len + n) ≤ 4294967296 := Nat.le_of_ble_eq_true c5
    rcases iteB_ok h2 with ⟨c6, h3⟩ | ⟨c6, h3⟩
    · -- there is room
      have c6' : len + n ≤ cap := Nat.le_of_ble_eq_true c6
      obtain ⟨c7, h4⟩ := iteB_yes h3
      have c7' : o + (len + n) * de.size ≤ rn * de.size := Nat.le_of_ble_eq_true c7
      obtain ⟨els', h5, h6⟩ := scatter_ok hs h4
      obtain ⟨m', h7, h8, h9⟩ := put_ok h5
      refine ⟨_, m', h7, by omega, fun ρ w ty s' x' hR hF hS hX => ?_⟩
      cases hS with
      | slice n0 c0 hrb =>
        rename_i rb
        obtain ⟨a1, new', a2, a3, a4⟩ := hadd ρ w x' hR hX
        obtain ⟨h10, h11⟩ := h6 (by omega)
        have hoff : (Nat.add (Nat.div o de.size) len) * de.size = o + len * de.size := by
          show (o / de.size + len) * de.size = _
          have := Nat.div_add_mod o de.size
          rw [Nat.add_mul, Nat.mul_comm (o / de.size)]
          omega
        have hoff2 : (Nat.add (Nat.div o de.size) len + n) * de.size = o + len * de.size + new.length := by
          rw [Nat.add_mul, hoff, a1]
        obtain ⟨w', g1, g2, g3⟩ := lay_row (P := P) (off := o + len * de.size) hb c4 h8 h9 (fun hl => ⟨h10 hl, fun y => by rw [h11, hoff, hoff2]⟩) hR hrb a2 (by
          left
          rw [a1, Nat.add_mul] at *
          omega)
        have hn2 := a4 w rfl
        rw [← i1] at hn2
        have hrun := run_append_here (w := w) (ty := ty) (sLen := len) (sCap := cap + rb.ext) (ad := ⟨rb.blk, rb.base + o, none⟩) ht hu' hseq hi a3 hn2 (by omega) (by rw [add_off, i1, Nat.add_assoc]; exact g1)
        exact ⟨ρ, w', _, .slice (len + n) cap hrb, g2, g3, hrun⟩
    · have c6' : cap < len + n := by
        rcases Nat.lt_or_ge cap (len + n) with h' | h'
        · exact h'
        · rw [show Nat.ble (Nat.add len n) cap = true from Nat.ble_eq_true_of_le h'] at c6; cases c6
      obtain ⟨c7, h4⟩ := iteB_yes h3
      have c7' : o + cap * de.size ≤ rn * de.size := Nat.le_of_ble_eq_true c7
      obtain ⟨old, h5, h6⟩ := load_ok h4
      rw [appK_eq] at h5
      have hold : ∀ (ρ : Ren) (w : World) (r rb : Rn), RelF m.heap.find ρ w → ρ b = some r → ρ b = some rb → old.length = len * de.size ∧ (opn = false → rb.ext = 0) ∧ (rb.ext ≠ 0 → rb.blk = r.blk ∧ rb.base + o + (cap + rb.ext) * de.size ≤ r.base + (rn + r.ext) * de.size) ∧
          ∃ old', LR ρ old old' ∧ (∀ (j : Nat) v, old'[j]? = some v → w.cell? ⟨rb.blk, rb.base + o + j, none⟩ = some v) := by
        intro ρ w r rb hR hr hrb
        rw [hr] at hrb; cases hrb
        obtain ⟨g1, old', g2, g3⟩ := h6 ρ w r hR.see hr
        obtain ⟨arr, _, _, _, g4, _⟩ := row_of hb hR hr
        refine ⟨g1, g4, fun _ => ⟨rfl, ?_⟩, old', g2, g3⟩
        rw [Nat.add_mul, Nat.add_mul]
        omega
      rcases iteB_ok h5 with ⟨hopn, h7⟩ | ⟨hopn, h7⟩
      · obtain ⟨m1, h8, h9, h10⟩ := kill_ok h7
        obtain ⟨els, m', h11, h12, h13, h14, h15, h16⟩ := newRow_ok hs h8
        refine ⟨_, m', h11, fin m1 m' els0 els de.size rn b 0 opn old rfl hb (fun _ => by rw [h10, if_pos rfl]) h9 (fun L b' hb' => ?_) h12 h13 h14 h15 h16 c4 c5' c6' hold (fun ρ w hR rb hrb => ⟨rb, hrb⟩)⟩
        rw [h10] at hb'
        split at hb'
        · cases hb'
        · exact hb'
      · obtain ⟨els, m', h11, h12, h13, h14, h15, h16⟩ := newRow_ok hs h7
        exact ⟨_, m', h11, fin m m' els0 els de.size rn b 0 opn old rfl hb (fun ho => by rw [ho] at hopn; cases hopn) rfl (fun L b' hb' => hb') h12 h13 h14 h15 h16 c4 c5' c6' hold (fun ρ w hR rb hrb => ⟨rb, hrb⟩)⟩
  · cases h1
end
end Go.Proofs.YtpilmdfnbfcmkaaGreat.Ev
