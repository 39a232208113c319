/-
  Maps, lengths, what goes through strings and maps: what the reckoner yields is what the program yields. No program in sight.
-/
import Derived.Test.YtpilmdfnbfcmkaaGreatEvOp4
namespace Go.Proofs.YtpilmdfnbfcmkaaGreat.Ev
set_option linter.unusedVariables false
set_option linter.unusedSimpArgs false

theorem VR.zero {ρ : Ren} {z : Value} (hz : (cellsL z).all groundB = true) : VR ρ z z := by
  cases z with
  | agg cs => exact .agg (LR.ground hz)
  | tuple cs => simp [cellsL, groundB] at hz
  | _ => exact VR.ground (by simpa [cellsL] using hz)
/-- a block that is no row gets another content -/
theorem objR {m m' : Mem} {ρ : Ren} {w : World} {L : Nat} {b0 b2 : Bk} {r : Rn} {obj : Obj} (hR : RelF m.heap.find ρ w) (hb : m.heap.find L = some b0) (h0 : notTail b0) (hr : ρ L = some r) (h2 : notTail b2)
    (hn : m'.next = m.next) (hf : ∀ j, m'.heap.find j = if j = L then some b2 else m.heap.find j) (hB : BR ρ { w with heap := w.heap.setIfInBounds r.blk obj } r b2) :
    RelF m'.heap.find ρ { w with heap := w.heap.setIfInBounds r.blk obj } ∧ EX m ρ w m' ρ { w with heap := w.heap.setIfInBounds r.blk obj } := by
  refine stepR hR L b2 r (fun _ _ h => h) (fun _ _ h => .inl h) (fun K x hx => ?_) (.inl ⟨_, hb⟩) hr hB (by simp) (fun x hx hne => ?_) (fun _ => .inr ⟨⟨L, b0, r, hb, h0, hr, rfl⟩, fun K x q hK hx hn' hq he => ?_⟩)
  · rw [hf] at hx
    split at hx
    · cases hx; exact .inl ⟨‹_›, rfl⟩
    · exact .inr ⟨‹_›, hx⟩
  · rcases hne with hne | hne
    · simp [Array.getElem?_setIfInBounds_ne (Ne.symm hne)]
    · exact absurd h2 hne
  · rw [hf, if_neg hK] at hx
    exact hK (hR.inj K L x b0 q r hx hb hn' h0 hq hr he)

section
variable {P : Program} {T : Tab} {call : CallF} {env : L2} {m : Mem} {k : K} {a : Value} {mm : Mem}
theorem getObj_run {w : World} {r : Nat} {o : Obj} (h : w.heap[r]? = some o) (hc : ∀ c t f, o ≠ .cells c t f) : (getObj r).run P w = .ok o w := by
  show Sem.run P (.getObj r .pure) w = _
  unfold Sem.run
  rw [h]
  cases o <;> first | rfl | exact absurd rfl (hc _ _ _)
theorem setObj_run {w : World} {r : Nat} {o o' : Obj} (h : w.heap[r]? = some o) (hc : ∀ c t f, o ≠ .cells c t f) : (setObj r o').run P w = .ok () { w with heap := w.heap.setIfInBounds r o' } := by
  show Sem.run P (.setObj r o' (.pure ())) w = _
  unfold Sem.run
  rw [h]
  cases o <;> first | rfl | exact absurd rfl (hc _ _ _)
theorem of_blk {L : Nat} {b : Bk} {ρ : Ren} {w : World} {r : Rn} (hR : SeeF m.heap.find ρ w) (hb : m.heap.find L = some b) (hr : ρ L = some r) : BR ρ w r b := hR L b r hb hr
/-- a map's entries -/
theorem mapOf_ok {x : Value} {f : List MapEntry → Ans} (h : mapOf x m f = .ok a mm) : ∃ es, f es = .ok a mm ∧ ∀ (ρ : Ren) (w : World) (x' : Value), SeeF m.heap.find ρ w → VR ρ x x' →
    (x' = .map none ∧ es = []) ∨ ∃ L rr c, x = .map (some L) ∧ x' = .map (some rr) ∧ ∃ es' : Array MapEntry, w.heap[rr]? = some (.map es' c) ∧ ER ρ es es'.toList := by
  unfold mapOf at h
  split at h
  · exact ⟨[], h, fun ρ w x' hR hx => by cases hx; exact .inl ⟨rfl, rfl⟩⟩
  · rename_i L
    obtain ⟨b, hb, h1⟩ := bk_ok h
    obtain ⟨es, c, rfl, h2⟩ := asMapB_ok h1
    refine ⟨es, h2, fun ρ w x' hR hx => ?_⟩
    cases hx with
    | map hr =>
      obtain ⟨es', g1, g2⟩ := of_blk hR hb hr
      exact .inr ⟨L, _, c, rfl, rfl, es', g1, g2⟩
  · cases h
theorem checkKey_run (hT : TabOk P T) {kt : TypeId} {dk : TyR} (hk : T.tys.find kt = some dk) {key key' : Value} {ρ : Ren} (hp : plainKey dk.desc key = true) (hv : VR ρ key key') {e : Bool} {w : World} : (Instr.checkKey e 10000 kt key').run P w = .ok () w := by
  show (Instr.checkKey e (9999 + 1) kt key').run P w = _
  unfold Instr.checkKey
  simp only [Sem.run_bind, hT.under hk w, Result.andThen_ok]
  generalize dk.desc = d at hp
  cases d <;> cases key <;> first | (simp only [plainKey] at hp; cases hp; done) | (cases hv; rfl)
theorem findKey_run (hT : TabOk P T) {kt : TypeId} {dk : TyR} (hk : T.tys.find kt = some dk) {key' : Value} {es : List MapEntry} {r : Option (Nat × Value)} (h : Instr.findNow dk.desc key' es 0 = some r) {w : World} : (Instr.findKey kt key' es).run P w = .ok r w := by
  unfold Instr.findKey
  simp only [Sem.run_bind, hT.under hk w, Result.andThen_ok, h]
  rfl
theorem lookup_ok (hT : TabOk P T) {t : TypeId} {x y : Operand} {ok : Bool} (h : lookupOp t x y ok T call env m k = .ok a mm) : ∃ v, k v m = .ok a mm ∧ ReadS P (.lookup t x y ok) env m v := by
  obtain ⟨xv, h1, h2⟩ := evalO_ok h
  obtain ⟨key, h3, h4⟩ := evalO_ok h2
  obtain ⟨d, hd, h5⟩ := ty_ok h4
  obtain ⟨kt, e, hm, h6⟩ := asMapT_ok h5
  obtain ⟨dk, hdk, h7⟩ := ty_ok h6
  obtain ⟨hp, h8⟩ := iteB_yes h7
  obtain ⟨es, h9, h10⟩ := mapOf_ok h8
  obtain ⟨r, h11, h12⟩ := findE_ok hp h9
  have fin : ∀ v, k v m = .ok a mm → (∀ (ρ : Ren) (w : World) (x' key' : Value), SeeF m.heap.find ρ w → VR ρ xv x' → VR ρ key key' → ∃ v', VR ρ v v' ∧ (Instr.lookup t x' key' ok).run P w = .ok v' w) → ∃ v, k v m = .ok a mm ∧ ReadS P (.lookup t x y ok) env m v := by
    intro v hk hh
    refine ⟨v, hk, fun ρ w oo c ho hR hS => ?_⟩
    obtain ⟨v', g1, g2⟩ := hh ρ w _ _ hR (hS x xv (by simp [Op.operands]) h1) (hS y key (by simp [Op.operands]) h3)
    refine ⟨v', g1, ?_⟩
    unfold execOp
    rw [ho]
    simp only [Sem.run_bind, g2, Result.andThen_ok]
    rfl
  have base : ∀ {ρ : Ren} {w : World} {x' key' : Value}, SeeF m.heap.find ρ w → VR ρ xv x' → VR ρ key key' → ∃ l', ER ρ es l' ∧
      (Instr.findNow dk.desc key' l' 0 = some none → ∀ z, (zeroValue e).run P w = .ok z w → (Instr.lookup t x' key' ok).run P w = .ok (if ok = true then .tuple #[z, .bool false] else z) w) ∧
      (∀ q, Instr.findNow dk.desc key' l' 0 = some (some q) → (Instr.lookup t x' key' ok).run P w = .ok (if ok = true then .tuple #[q.2, .bool true] else q.2) w) := by
    intro ρ w x' key' hR hx hk
    rcases h10 ρ w x' hR hx with ⟨rfl, rfl⟩ | ⟨L, rr, c, rfl, rfl, es', g1, g2⟩
    · refine ⟨[], .nil, fun hf z hz => ?_, fun q hf => by cases hf⟩
      unfold Instr.lookup
      simp only [Sem.run_bind, hT.under hd w, hm, Result.andThen_ok, Sem.run_pure, checkKey_run hT hdk hp hk, findKey_run hT hdk (es := []) hf, hz]
    · refine ⟨_, g2, fun hf z hz => ?_, fun q hf => ?_⟩
      · unfold Instr.lookup
        simp only [Sem.run_bind, hT.under hd w, hm, Result.andThen_ok, Sem.run_pure, getObj_run g1 (fun _ _ _ e => by cases e), checkKey_run hT hdk hp hk, findKey_run hT hdk hf, hz]
      · unfold Instr.lookup
        simp only [Sem.run_bind, hT.under hd w, hm, Result.andThen_ok, Sem.run_pure, getObj_run g1 (fun _ _ _ e => by cases e), checkKey_run hT hdk hp hk, findKey_run hT hdk hf]
  cases r with
  | none =>
    obtain ⟨de, hde, h13⟩ := ty_ok (show T.ty e (fun de => withO 94 de.zero (fun z => iteB ((cellsL z).all groundB) (.no 62) (iteB ok (k z m) (k (.tuple ⟨[z, .bool false]⟩) m)))) = .ok a mm from h11)
    obtain ⟨z, hz, h14⟩ := withO_ok h13
    obtain ⟨hg, h15⟩ := iteB_yes h14
    have go : ∀ v, k v m = .ok a mm → v = (if ok = true then .tuple #[z, .bool false] else z) → ∃ v, k v m = .ok a mm ∧ ReadS P (.lookup t x y ok) env m v := by
      intro v hk hv
      refine fin v hk fun ρ w x' key' hR hx hkk => ⟨v, ?_, ?_⟩
      · rw [hv]; split
        · exact .tuple (.cons (VR.zero hg) (.cons (.bool _) .nil))
        · exact VR.zero hg
      · rw [hv]
        obtain ⟨l', hl, q1, _⟩ := base hR hx hkk
        exact q1 (h12 ρ key' l' hkk hl) z (hT.zero hde hz w)
    rcases iteB_ok h15 with ⟨rfl, h16⟩ | ⟨rfl, h16⟩
    · exact go _ h16 rfl
    · exact go _ h16 rfl
  | some p =>
    have h13 : iteB ok (k p.2 m) (k (.tuple ⟨[p.2, .bool true]⟩) m) = .ok a mm := h11
    have go : ∀ v, k v m = .ok a mm → (∀ (ρ : Ren) u', VR ρ p.2 u' → VR ρ v (if ok = true then .tuple #[u', .bool true] else u')) → ∃ v, k v m = .ok a mm ∧ ReadS P (.lookup t x y ok) env m v := by
      intro v hk hv
      refine fin v hk fun ρ w x' key' hR hx hkk => ?_
      obtain ⟨l', hl, _, q2⟩ := base hR hx hkk
      obtain ⟨v', g1, g2, _⟩ := h12 ρ key' l' hkk hl
      exact ⟨_, hv ρ v' g2, q2 _ g1⟩
    rcases iteB_ok h13 with ⟨rfl, h16⟩ | ⟨rfl, h16⟩
    · exact go _ h16 fun ρ u' hu => by simp only [if_true]; exact .tuple (.cons hu (.cons (.bool _) .nil))
    · exact go _ h16 fun ρ u' hu => by simpa using hu
theorem entry_ok {it : Operand} (h : entryOp it T call env m k = .ok a mm) : ∃ v, k v m = .ok a mm ∧ ReadS P (.entry it) env m v := by
  obtain ⟨p, h1, h2⟩ := evalO_ok h
  obtain ⟨b, o, rfl, h3⟩ := asPtr_ok h2
  obtain ⟨ho0, h4⟩ := iteB_yes h3
  obtain rfl : o = 0 := Nat.eq_of_beq_eq_true ho0
  obtain ⟨bk, hb, h5⟩ := bk_ok h4
  unfold entryF at h5
  split at h5
  · rename_i L since s last
    obtain ⟨bk2, hb2, h6⟩ := bk_ok h5
    obtain ⟨es, c, rfl, h7⟩ := asMapB_ok h6
    split at h7
    · rename_i e
      obtain ⟨hb3, h8⟩ := iteB_yes h7
      rw [Bool.and_eq_true] at hb3
      have e1 : c = last := Nat.eq_of_beq_eq_true hb3.1
      have e2 : e.born = s := Nat.eq_of_beq_eq_true hb3.2
      refine ⟨_, h8, fun ρ w oo ac ho hR hS => ?_⟩
      obtain ⟨r, hr, ev⟩ := ptr_of (hS it _ (by simp [Op.operands]) h1)
      obtain ⟨hbase, mo', g1, r', g2, rfl⟩ := of_blk hR hb hr
      obtain ⟨es', g3, g4⟩ := of_blk hR hb2 g2
      generalize hes : es'.toList = l' at g4
      cases g4 with
      | cons hk hv hbn hl =>
        cases hl
        rename_i e'
        have hes' : es' = #[e'] := by apply Array.ext'; rw [hes]
        subst hes'
        refine ⟨.tuple #[e'.key, e'.val], .tuple (.cons hk (.cons hv .nil)), ?_⟩
        unfold execOp
        rw [ho]
        simp only [Instr.entry, ev, hbase, Nat.add_zero, Sem.run_bind, getObj_run g1 (fun _ _ _ e => by cases e), getObj_run g3 (fun _ _ _ e => by cases e), Result.andThen_ok]
        have hst : (e'.born == s) = true := by rw [← hbn, e2]; simp
        subst e1
        simp only [List.back?_toArray, List.getLast?_singleton, Sem.run_bind, getObj_run g3 (fun _ _ _ e => by cases e), Result.andThen_ok, bne_self_eq_false, Bool.false_eq_true, if_false]
        have hf : #[e'].find? (fun x => x.born == s) = some e' := by simp [hst]
        rw [hf]
        rfl
    · cases h7
  · cases h5
/-! builtins that only read -/
theorem builtin_run {b : Builtin} {c : Call} {o : Oper} {ac : Act} {w : World} {nx : Result Next} (hc : c.callee = .builtin b) (ho : o.op = .call c)
    (h : (Go.builtin b c.argTypes o.type (c.args.map fun | .const _ => true | _ => false) (c.args.map ac.eval)).run P w = nx) : (execOp ac.eval o).run P w = nx := by
  unfold execOp
  rw [ho]
  simp only [resolve, hc, Sem.run_bind, Sem.run_pure, Result.andThen_ok, invoke]
  exact h
theorem len_ok (hT : TabOk P T) {t : TypeId} {x : Value} (h : lenK T t x m k = .ok a mm) : ∃ v, k v m = .ok a mm ∧ ∀ (ρ : Ren) (w : World) (x' : Value) (ts : Array TypeId) (ty : TypeId) (args : Array Value),
    SeeF m.heap.find ρ w → VR ρ x x' → ts[0]? = some t → args[0]? = some x' → ∃ v', VR ρ v v' ∧ (Go.Builtin.len_ ts ty args).run P w = .ok v' w := by
  obtain ⟨d, hd, h1⟩ := ty_ok h
  split at h1
  · rename_i s hde
    rw [forceN_eq] at h1
    refine ⟨_, h1, fun ρ w x' ts ty args hR hx h2 h3 => ?_⟩
    cases hx
    refine ⟨_, .int _ _, ?_⟩
    unfold Go.Builtin.len_
    rw [h2, h3]
    simp only [Sem.run_bind, hT.under hd w, hde, Result.andThen_ok]
    rfl
  · rename_i e A n c hde
    refine ⟨_, h1, fun ρ w x' ts ty args hR hx h2 h3 => ?_⟩
    refine ⟨_, .int _ _, ?_⟩
    unfold Go.Builtin.len_
    rw [h2, h3]
    cases hx <;> (simp only [Sem.run_bind, hT.under hd w, hde, Result.andThen_ok]; rfl)
  · rename_i n e hde
    refine ⟨_, h1, fun ρ w x' ts ty args hR hx h2 h3 => ?_⟩
    refine ⟨_, .int _ _, ?_⟩
    unfold Go.Builtin.len_
    rw [h2, h3]
    simp only [Sem.run_bind, hT.under hd w, hde, Result.andThen_ok]
    rfl
  · rename_i kt e hde
    obtain ⟨es, h4, h5⟩ := mapOf_ok h1
    rw [forceN_eq] at h4
    refine ⟨_, h4, fun ρ w x' ts ty args hR hx h2 h3 => ?_⟩
    refine ⟨_, .int _ _, ?_⟩
    unfold Go.Builtin.len_
    rw [h2, h3]
    rcases h5 ρ w x' hR hx with ⟨rfl, rfl⟩ | ⟨L, rr, c, rfl, rfl, es', g1, g2⟩
    · simp only [Sem.run_bind, hT.under hd w, hde, Result.andThen_ok]
      rfl
    · simp only [Sem.run_bind, hT.under hd w, hde, Result.andThen_ok, getObj_run g1 (fun _ _ _ e => by cases e)]
      have : es.length = es'.size := by rw [g2.length, Array.length_toList]
      rw [this]
      rfl
  · cases h1
theorem mm_ok {f : IntKind → Int → Int → (Value → Ans) → Ans} {g : Value → Value → Sem Value} (hf : ∀ j a' b' j' c, f j a' b' c = .ok a mm → ∃ n, c (.int j n) = .ok a mm ∧ g (.int j a') (.int j' b') = .pure (.int j n)) :
    ∀ {l : List Value} {x : Value} {c : Value → Ans}, mmK f l x c = .ok a mm → ∃ v, c v = .ok a mm ∧ ∀ (ρ : Ren) (w : World) (x' : Value) (l' : List Value), VR ρ x x' → LR ρ l l' → ∃ v', VR ρ v v' ∧ (l'.foldlM g x').run P w = .ok v' w
  | [], x, c, h => ⟨x, h, fun ρ w x' l' hx hl => by cases hl; exact ⟨x', hx, rfl⟩⟩
  | y :: l, x, c, h => by
    obtain ⟨j, a', rfl, h1⟩ := asInt_ok (show asInt x (fun j a => asInt y (fun _ b => f j a b (fun v => mmK f l v c))) = .ok a mm from h)
    obtain ⟨j', b', rfl, h2⟩ := asInt_ok h1
    obtain ⟨n, h3, h4⟩ := hf j a' b' j' _ h2
    obtain ⟨v, h5, h6⟩ := mm_ok hf h3
    refine ⟨v, h5, fun ρ w x' l' hx hl => ?_⟩
    cases hx
    cases hl with
    | cons hy hl =>
      cases hy
      obtain ⟨v', g1, g2⟩ := h6 ρ w _ _ (.int j n) hl
      refine ⟨v', g1, ?_⟩
      rw [List.foldlM_cons, h4]
      exact g2
theorem maxF_ok {j : IntKind} {a' b' : Int} {j' : IntKind} {c : Value → Ans} (h : maxF j a' b' c = .ok a mm) : ∃ n, c (.int j n) = .ok a mm ∧ Go.Builtin.max2 (.int j a') (.int j' b') = .pure (.int j n) := by
  unfold maxF at h
  rw [ltI_eq] at h
  rcases iteB_ok h with ⟨hb, h1⟩ | ⟨hb, h1⟩
  · have : a' < b' := by simpa using hb
    exact ⟨_, h1, by simp only [Go.Builtin.max2]; (first | rw [if_pos (by omega)] | rw [if_neg (by omega)]); rfl⟩
  · have : ¬ a' < b' := by simpa using hb
    exact ⟨_, h1, by simp only [Go.Builtin.max2]; (first | rw [if_pos (by omega)] | rw [if_neg (by omega)]); rfl⟩
theorem minF_ok {j : IntKind} {a' b' : Int} {j' : IntKind} {c : Value → Ans} (h : minF j a' b' c = .ok a mm) : ∃ n, c (.int j n) = .ok a mm ∧ Go.Builtin.min2 (.int j a') (.int j' b') = .pure (.int j n) := by
  unfold minF at h
  rw [ltI_eq] at h
  rcases iteB_ok h with ⟨hb, h1⟩ | ⟨hb, h1⟩
  · have : b' < a' := by simpa using hb
    exact ⟨_, h1, by simp only [Go.Builtin.min2]; rw [if_pos this]; rfl⟩
  · have : ¬ b' < a' := by simpa using hb
    exact ⟨_, h1, by simp only [Go.Builtin.min2]; rw [if_neg this]; rfl⟩

/-! acts -/
theorem store_op_ok (hT : TabOk P T) {t : TypeId} {x y : Operand} (h : storeOp t x y T call env m k = .ok a mm) : ∃ v m', k v m' = .ok a mm ∧ OpS P (.store t x y) env m v m' := by
  obtain ⟨p, h1, h2⟩ := evalO_ok h
  obtain ⟨b, o, rfl, h3⟩ := asPtr_ok h2
  obtain ⟨v, h4, h5⟩ := evalO_ok h3
  obtain ⟨m', h6, h7, h8⟩ := storeVar_ok hT h5
  refine ⟨_, m', h6, by omega, fun ρ w oo c K Q ho hR _ hS hK => ?_⟩
  obtain ⟨r, hr, e⟩ := ptr_of (hS x _ (by simp [Op.operands]) h1)
  obtain ⟨w', g1, g2, g3⟩ := h8 ρ w r _ hR hr (hS y _ (by simp [Op.operands]) h4)
  refine wp_skip' (w' := w') ?_ (hK ρ undef w' (.tuple .nil) g2 g3)
  unfold execOp
  rw [ho]
  simp only [Instr.storeAt, Instr.sureAddr, e, Sem.run_bind, Sem.run_pure, Result.andThen_ok, g1]
theorem ER.set {ρ : Ren} {key key' v v' : Value} (hk : VR ρ key key') (hv : VR ρ v v') : ∀ {l l' : List MapEntry} {i : Nat}, ER ρ l l' → i < l.length →
    ER ρ (l.modify i fun e => ⟨key, v, e.born⟩) (l'.modify i fun e => { e with key := key', val := v' })
  | _, _, _, .nil, h => by simp at h
  | _, _, 0, .cons _ _ hb hl, _ => .cons hk hv hb hl
  | _, _, i + 1, .cons h1 h2 hb hl, h => .cons h1 h2 hb (ER.set hk hv hl (by simpa using h))
theorem setE_eq {key v : Value} : ∀ (l : List MapEntry) (i : Nat) (c : List MapEntry → Ans), setE l i key v c = c (l.modify i fun e => ⟨key, v, e.born⟩)
  | [], i, c => by cases i <;> rfl
  | e :: l, 0, c => rfl
  | e :: l, i + 1, c => by
    show setE l i key v (fun r => c (e :: r)) = _
    rw [setE_eq l i]
    rfl
theorem keyStays {d : TypeDesc} {key old : Value} {w : World} (h : Instr.sameNow d key old = some true) : (Instr.keyThatStays old key).run P w = .ok key w := by
  have hs : Instr.sameBits 10000 old key = true := by
    show Instr.sameBits (9999 + 1) old key = true
    unfold Instr.sameNow at h
    split at h
    · split at h
      · rename_i hk
        subst hk
        simp only [Option.some.injEq] at h
        simp only [Instr.sameBits, Bool.and_eq_true, beq_iff_eq] at h ⊢
        exact ⟨by simp, h.symm⟩
      · cases h
    · simp only [Option.some.injEq, bytes_beq, decide_eq_true_eq] at h
      subst h
      simp [Instr.sameBits, bytes_beq]
    · simp only [Option.some.injEq, beq_iff_eq] at h
      subst h
      simp [Instr.sameBits]
    · cases h
  unfold Instr.keyThatStays
  rw [if_pos hs]
  rfl
theorem update_ok (hT : TabOk P T) {t : TypeId} {x y z : Operand} (h : updateOp t x y z T call env m k = .ok a mm) : ∃ v m', k v m' = .ok a mm ∧ OpS P (.mapUpdate t x y z) env m v m' := by
  obtain ⟨xv, h1, h2⟩ := evalO_ok h
  obtain ⟨key, h3, h4⟩ := evalO_ok h2
  obtain ⟨v, h5, h6⟩ := evalO_ok h4
  obtain ⟨d, hd, h7⟩ := ty_ok h6
  obtain ⟨kt, e, hm, h8⟩ := asMapT_ok h7
  obtain ⟨dk, hdk, h9⟩ := ty_ok h8
  obtain ⟨hp, h10⟩ := iteB_yes h9
  split at h10
  · rename_i L
    obtain ⟨bk, hb, h11⟩ := bk_ok h10
    obtain ⟨es, c, rfl, h12⟩ := asMapB_ok h11
    obtain ⟨r, h13, h14⟩ := findE_ok hp h12
    have fin : ∀ (es2 : List MapEntry) (c2 : Nat) (m' : Mem), k undefV m' = .ok a mm → m'.next = m.next → (∀ j, m'.heap.find j = if j = L then some (.map es2 c2) else m.heap.find j) →
        (∀ (ρ : Ren) (w : World) (key' v' : Value) (rr : Rn) (es' : Array MapEntry), VR ρ key key' → VR ρ v v' → w.heap[rr.blk]? = some (.map es' c) → ER ρ es es'.toList →
          ∃ es2' : Array MapEntry, ER ρ es2 es2'.toList ∧ (Instr.mapUpdate t (.map (some rr.blk)) key' v').run P w = .ok () { w with heap := w.heap.setIfInBounds rr.blk (.map es2' c2) }) →
        ∃ v m', k v m' = .ok a mm ∧ OpS P (.mapUpdate t x y z) env m v m' := by
      intro es2 c2 m' hk hn hf hh
      refine ⟨_, m', hk, by omega, fun ρ w oo ac K Q ho hR _ hS hK => ?_⟩
      have sx := hS x _ (by simp [Op.operands]) h1
      generalize hx : ac.eval x = x' at sx
      cases sx with
      | map hr =>
        rename_i rr
        obtain ⟨es', g1, g2⟩ := of_blk hR.see hb hr
        obtain ⟨es2', g3, g4⟩ := hh ρ w _ _ rr es' (hS y _ (by simp [Op.operands]) h3) (hS z _ (by simp [Op.operands]) h5) g1 g2
        have hlt : rr.blk < w.heap.size := (Array.getElem?_eq_some_iff.1 g1).1
        obtain ⟨g5, g6⟩ := objR (obj := .map es2' c2) hR hb trivial hr (b2 := .map es2 c2) trivial hn hf ⟨es2', by simp [hlt], g3⟩
        refine wp_skip' ?_ (hK ρ undef _ (.tuple .nil) g5 g6)
        unfold execOp
        rw [ho]
        simp only [hx, Sem.run_bind, g4, Result.andThen_ok]
        rfl
    have head : ∀ {w : World} {key' v' : Value} {rr : Nat} {es' : Array MapEntry} {ρ : Ren} {r' : Option (Nat × Value)} {res : Result Unit}, w.heap[rr]? = some (.map es' c) → VR ρ key key' → Instr.findNow dk.desc key' es'.toList 0 = some r' →
        (match r' with
          | some (i, _) => (do
            let key ← Instr.keyThatStays (((es'[i]?).map (fun (e : MapEntry) => e.key)).getD key') key'
            setObj rr (.map (es'.modify i fun e => { e with key, val := v' }) c) : Sem Unit)
          | none => setObj rr (.map (es'.push { key := key', val := v', born := c }) (c + 1))).run P w = res → (Instr.mapUpdate t (.map (some rr)) key' v').run P w = res := by
      intro w key' v' rr es' ρ r' res g1 hk hf hr
      unfold Instr.mapUpdate
      simp only [Sem.run_bind, hT.under hd w, hm, Result.andThen_ok, getObj_run g1 (fun _ _ _ e => by cases e), checkKey_run hT hdk hp hk, findKey_run hT hdk hf]
      exact hr
    cases r with
    | none =>
      have h15 : forceN (Nat.succ c) (fun c' => appK es [⟨key, v, c⟩] (fun es' => m.put L (.map es' c') (fun m' => k undefV m'))) = .ok a mm := h13
      rw [forceN_eq, appK_eq] at h15
      obtain ⟨m', h16, h17, h18⟩ := put_ok h15
      refine fin _ _ m' h16 h17 h18 fun ρ w key' v' rr es' hk hv g1 g2 => ?_
      have hf := h14 ρ key' _ hk g2
      refine ⟨es'.push ⟨key', v', c⟩, by rw [Array.toList_push]; exact g2.app (.cons hk hv rfl .nil), head g1 hk hf ?_⟩
      exact setObj_run g1 (fun _ _ _ e => by cases e)
    | some p =>
      have h15 : setE es p.1 key v (fun es' => m.put L (.map es' c) (fun m' => k undefV m')) = .ok a mm := h13
      rw [setE_eq] at h15
      obtain ⟨m', h16, h17, h18⟩ := put_ok h15
      refine fin _ _ m' h16 h17 h18 fun ρ w key' v' rr es' hk hv g1 g2 => ?_
      obtain ⟨v0, q1, q2, q3, q4, e1, e2, q5, q6, q7⟩ := h14 ρ key' _ hk g2
      refine ⟨es'.modify p.1 fun e => { e with key := key', val := v' }, ?_, head g1 hk q1 ?_⟩
      · rw [Array.toList_modify]
        exact ER.set hk hv g2 (by omega)
      · have he : es'[p.1]? = some e2 := by rw [← Array.getElem?_toList]; simpa using q6
        simp only [he, Option.map_some, Option.getD_some, Sem.run_bind, keyStays q7, Result.andThen_ok]
        exact setObj_run g1 (fun _ _ _ e => by cases e)
  · cases h10
theorem range_ok (hT : TabOk P T) {t : TypeId} {x : Operand} (h : rangeOp t x T call env m k = .ok a mm) : ∃ v m', k v m' = .ok a mm ∧ OpS P (.range t x) env m v m' := by
  obtain ⟨v, h1, h2⟩ := evalO_ok h
  obtain ⟨d, hd, h3⟩ := ty_ok h2
  have fin : ∀ (b : Bk), m.new b (fun L m' => k (.pointer (some ⟨L, 0, none⟩)) m') = .ok a mm → (∀ (ρ : Ren) (w : World) (v' : Value), RelF m.heap.find ρ w → VR ρ v v' → ρ m.next = none →
      ∃ obj, BR (ρ.put m.next ⟨w.heap.size, 0, 0⟩) { w with heap := w.heap.push obj } ⟨w.heap.size, 0, 0⟩ b ∧ (Instr.range t v').run P w = .ok (.pointer (some ⟨w.heap.size, 0, none⟩)) { w with heap := w.heap.push obj }) →
      ∃ v m', k v m' = .ok a mm ∧ OpS P (.range t x) env m v m' := by
    intro b hb hh
    obtain ⟨m', g1, g2, g3⟩ := new_ok hb
    refine ⟨_, m', g1, by omega, fun ρ w oo ac K Q ho hR hF hS hK => ?_⟩
    have hfree : ρ m.next = none := hF _ (Nat.le_refl _) (by omega)
    obtain ⟨obj, q1, q2⟩ := hh ρ w _ hR (hS x v (by simp [Op.operands]) h1) hfree
    obtain ⟨q3, q4⟩ := newR hR b obj 0 hfree g2 g3 q1
    refine wp_value ?_ (hK _ (.pointer (some ⟨w.heap.size, 0, none⟩)) _ (.ptr (r := ⟨w.heap.size, 0, 0⟩) Ren.put_same) q3 q4)
    unfold execOp
    rw [ho]
    simp only [Sem.run_bind, q2, Result.andThen_ok]
    rfl
  split at h3
  · rename_i s hde
    refine fin _ h3 fun ρ w v' hR hv _ => ⟨.stringIter s 0, ⟨rfl, by simp⟩, ?_⟩
    cases hv
    simp only [Instr.range, Sem.run_bind, hT.under hd w, hde, Result.andThen_ok]
    rfl
  · rename_i kt e hde
    refine fin _ h3 fun ρ w v' hR hv _ => ⟨.mapIter none 0 #[] 0, ⟨rfl, none, by simp, rfl⟩, ?_⟩
    cases hv
    simp only [Instr.range, Sem.run_bind, hT.under hd w, hde, Result.andThen_ok]
    rfl
  · rename_i kt e L hde
    obtain ⟨bk, hb, h4⟩ := bk_ok h3
    obtain ⟨es, c, rfl, h5⟩ := asMapB_ok h4
    refine fin _ h5 fun ρ w v' hR hv hfree => ?_
    cases hv with
    | map hr =>
      rename_i rr
      obtain ⟨es', g1, g2⟩ := of_blk hR.see hb hr
      refine ⟨.mapIter (some rr.blk) c #[] c, ⟨rfl, some rr.blk, by simp, rr, Ren.put_sub hfree _ _ hr, rfl⟩, ?_⟩
      simp only [Instr.range, Sem.run_bind, hT.under hd w, hde, Result.andThen_ok, getObj_run g1 (fun _ _ _ e => by cases e)]
      rfl
  · cases h3
end
end Go.Proofs.YtpilmdfnbfcmkaaGreat.Ev
