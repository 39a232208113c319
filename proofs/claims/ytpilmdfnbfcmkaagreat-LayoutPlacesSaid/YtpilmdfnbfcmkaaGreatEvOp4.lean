/-
  Slicing; and what reads memory: loads, conversions, maps that are looked up. What the reckoner yields is what the program yields. No program in sight.
-/
import Derived.Test.YtpilmdfnbfcmkaaGreatEvOp3
import Derived.Lib.Strings
import Derived.Laws.BytesArg
import Derived.Laws.BytesString
namespace Go.Proofs.YtpilmdfnbfcmkaaGreat.Ev
set_option linter.unusedVariables false
set_option linter.unusedSimpArgs false

/-- an operation that reads no memory: it yields a value, and may make a block -/
def LightS (P : Program) (op : Op) (env : L2) (m : Mem) (v : Value) (m' : Mem) : Prop :=
  (m' = m ∧ PureS P op env v) ∨ (∃ b, MakeS P op env m.next v b ∧ m'.next = m.next + 1 ∧ ∀ j, m'.heap.find j = if j = m.next then some b else m.heap.find j)
theorem LightS.ops {P : Program} {op : Op} {env : L2} {m m' : Mem} {v : Value} (h : LightS P op env m v m') : OpS P op env m v m' := by
  rcases h with ⟨rfl, h⟩ | ⟨b, h1, h2, h3⟩
  · exact h.ops _
  · exact h1.ops rfl h2 h3

/-- an optional operand -/
inductive OR (ρ : Ren) : Option Value → Option Value → Prop
  | no : OR ρ none none
  | yes {v v' : Value} (h : VR ρ v v') : OR ρ (some v) (some v')
/-- what a bound comes to -/
def Bd (x : Option Value) (y dflt n : Nat) : Prop := match x with
  | none => n = dflt
  | some v => ∃ j i, v = .int j i ∧ 0 ≤ i ∧ i ≤ (y : Int) ∧ n = i.toNat

section
variable {P : Program} {T : Tab} {call : CallF} {env : L2} {m : Mem} {k : K} {a : Value} {mm : Mem}
theorem boundK_ok {x : Option Value} {y d : Nat} {c : Nat → Ans} (h : boundK x y d c = .ok a mm) : ∃ n, c n = .ok a mm ∧ Bd x y d n := by
  cases x with
  | none => exact ⟨d, h, rfl⟩
  | some v =>
    obtain ⟨j, i, rfl, h1⟩ := asInt_ok (show asInt v (fun _ i => iteB (and (not (ltI i 0)) (Nat.ble i.toNat y)) (.no 76) (forceN i.toNat c)) = .ok a mm from h)
    obtain ⟨hb, h2⟩ := iteB_yes h1
    rw [forceN_eq] at h2
    simp only [Bool.and_eq_true, Bool.not_eq_true', ltI_eq, decide_eq_false_iff_not, Int.not_lt] at hb
    have := Nat.le_of_ble_eq_true hb.2
    exact ⟨_, h2, j, i, rfl, hb.1, by omega, rfl⟩
theorem Bd.le {x : Option Value} {y d n : Nat} (h : Bd x y d n) (hd : d ≤ y) : n ≤ y := by
  cases x with
  | none => have : n = d := h; omega
  | some v => obtain ⟨j, i, _, h1, h2, rfl⟩ := h; omega
theorem sliceBound_run {j : IntKind} {i : Int} {y : Nat} {code : BoundsCode} {w : World} (h0 : 0 ≤ i) (h1 : i ≤ (y : Int)) : (Instr.sliceBound (.int j i) y code).run P w = .ok i.toNat w := by
  simp only [Instr.sliceBound, Go.asIntOf, Sem.run_bind, Sem.run_pure, Result.andThen_ok]
  rw [if_pos ⟨h0, h1⟩]
  rfl
theorem sliceBounds_run {ρ : Ren} {lo hi lo' hi' : Option Value} {b : Bool} {len cap capR l h : Nat} {w : World} (hc : cap ≤ capR) (h1 : Bd hi cap len h) (h2 : Bd lo h 0 l) (r1 : OR ρ hi hi') (r2 : OR ρ lo lo') :
    (Instr.sliceBounds b len capR lo' hi' none).run P w = .ok (l, h, capR) w := by
  have z : ∀ {w : World}, (pure 0 : Sem Nat).run P w = .ok 0 w := rfl
  cases r1 with
  | no =>
    have : h = len := h1
    subst this
    cases r2 with
    | no => have : l = 0 := h2; subst this; rfl
    | yes hv =>
      obtain ⟨j, i, rfl, g1, g2, rfl⟩ := h2
      cases hv
      simp only [Instr.sliceBounds, Sem.run_bind, Sem.run_pure, Result.andThen_ok, Option.isSome_none, Bool.false_eq_true, if_false]
      rw [sliceBound_run g1 g2]
      rfl
  | yes hv =>
    obtain ⟨j, i, rfl, g1, g2, rfl⟩ := h1
    cases hv
    simp only [Instr.sliceBounds, Sem.run_bind, Sem.run_pure, Result.andThen_ok, Option.isSome_none, Bool.false_eq_true, if_false]
    rw [sliceBound_run g1 (by omega)]
    cases r2 with
    | no => have : l = 0 := h2; subst this; rfl
    | yes hv =>
      obtain ⟨j', i', rfl, g1', g2', rfl⟩ := h2
      cases hv
      simp only [Result.andThen_ok, Sem.run_bind]
      rw [sliceBound_run g1' g2']
      rfl
theorem OR.of {ρ : Ren} {x : Option Operand} {v : Option Value} {c : Act} (h : LookO env x v) (hS : ∀ y u, x = some y → look env y = some u → VR ρ u (c.eval y)) : OR ρ v (x.map c.eval) := by
  cases x with
  | none => have : v = none := h; subst this; exact .no
  | some x => obtain ⟨y, h1, rfl⟩ := h; exact .yes (hS _ _ rfl h1)
theorem slice_ok (hT : TabOk P T) {t : TypeId} {x : Operand} {lo hi mx : Option Operand} (h : sliceOp t x lo hi mx T call env m k = .ok a mm) : ∃ v m', k v m' = .ok a mm ∧ LightS P (.slice t x lo hi mx) env m v m' := by
  obtain ⟨v, h1, h2⟩ := evalO_ok h
  obtain ⟨lov, h3, hlo⟩ := evalOO_ok h2
  obtain ⟨hiv, h4, hhi⟩ := evalOO_ok h3
  obtain ⟨mxv, h5, hmx⟩ := evalOO_ok h4
  obtain ⟨d, hd, h6⟩ := ty_ok h5
  obtain ⟨hm, h7⟩ := iteB_not h6
  have hmx0 : mx = none := by
    cases mx with
    | none => rfl
    | some q => obtain ⟨y, _, rfl⟩ := hmx; cases hm
  subst hmx0
  have sees : ∀ {ρ : Ren} {c : Act}, Sees ρ env c (.slice t x lo hi none) → VR ρ v (c.eval x) ∧ OR ρ lov (lo.map c.eval) ∧ OR ρ hiv (hi.map c.eval) := by
    intro ρ c hS
    refine ⟨hS x v (by simp [Op.operands]) h1, OR.of hlo fun y u hy hu => hS y u (by subst hy; simp [Op.operands]) hu, OR.of hhi fun y u hy hu => hS y u (by subst hy; simp [Op.operands]) hu⟩
  have runs : ∀ {o : Oper} {c : Act} {w w' : World} {u : Value}, o.op = .slice t x lo hi none → (Instr.sliceAt t (c.eval x) (lo.map c.eval) (hi.map c.eval) none).run P w = .ok u w' → (execOp c.eval o).run P w = .ok (.value u) w' := by
    intro o c w w' u ho hr
    unfold execOp
    rw [ho]
    simp only [Option.map_none, Sem.run_bind, hr, Result.andThen_ok]
    rfl
  split at h7
  · -- a string
    rename_i s hde
    obtain ⟨hh, h8, b1⟩ := boundK_ok h7
    obtain ⟨ll, h9, b2⟩ := boundK_ok h8
    rw [dropK_eq, takeK_eq] at h9
    refine ⟨_, m, h9, .inl ⟨rfl, fun ρ w o c ho hS => ?_⟩⟩
    obtain ⟨s1, s2, s3⟩ := sees hS
    generalize hx : c.eval x = x' at s1
    cases s1
    refine ⟨_, .string _, runs ho ?_⟩
    have hb := sliceBounds_run (P := P) (b := false) (w := w) (Nat.le_refl _) b1 b2 s3 s2
    rw [← size_data] at hb
    rw [hx]
    simp only [Instr.sliceAt, Sem.run_bind, hT.under hd w, hde, Result.andThen_ok, Instr.slice, Option.isSome_none, Bool.false_eq_true, if_false, Sem.run_pure]
    rw [hb]
    simp only [Result.andThen_ok, Sem.run_pure]
    congr 3
    exact Go.WideShapes.bytes_inj (by rw [Lib.extract_data]; rfl)
  · -- a slice
    rename_i e A len cap hde
    obtain ⟨hh, h8, b1⟩ := boundK_ok h7
    obtain ⟨ll, h9, b2⟩ := boundK_ok h8
    obtain ⟨hhc, h9a⟩ := iteB_yes h9
    have hhl : hh ≤ cap := Nat.le_of_ble_eq_true hhc
    clear h9
    obtain ⟨de, hde', h9⟩ := ty_ok h9a
    clear h9a
    rw [forceN_eq, forceN_eq] at h9
    -- what the program does
    have prog : ∀ {ρ : Ren} {c : Act} {w : World} {A' : Option Addr} {capR : Nat} {de : TyR}, cap ≤ capR → c.eval x = .slice A' len capR → T.tys.find e = some de → OR ρ lov (lo.map c.eval) → OR ρ hiv (hi.map c.eval) →
        (Instr.sliceAt t (c.eval x) (lo.map c.eval) (hi.map c.eval) none).run P w = .ok (.slice (if capR = ll then A' else A'.map (·.add (ll * de.size))) (hh - ll) (capR - ll)) w := by
      intro ρ c w A' capR de hc hx hde' s2 s3
      have hb := sliceBounds_run (P := P) (b := true) (w := w) hc b1 b2 s3 s2
      rw [hx]
      simp only [Instr.sliceAt, Sem.run_bind, hT.under hd w, hde, Result.andThen_ok, Instr.slice, hb, hT.size hde' w]
      rfl
    have hlh : ll ≤ hh := b2.le (Nat.zero_le _)
    split at h9
    · -- nil
      refine ⟨_, m, h9, .inl ⟨rfl, fun ρ w o c ho hS => ?_⟩⟩
      obtain ⟨s1, s2, s3⟩ := sees hS
      generalize hx : c.eval x = x' at s1
      cases s1
      have hb := sliceBounds_run (P := P) (b := true) (w := w) (Nat.le_refl cap) b1 b2 s3 s2
      refine ⟨_, .slice0 _ _, runs ho ?_⟩
      rw [hx]
      simp only [Instr.sliceAt, Sem.run_bind, hT.under hd w, hde, Result.andThen_ok, Instr.slice, hb, hT.size hde' w]
      show Result.ok _ w = _
      congr 2
      split <;> rfl
    · rename_i b o
      rw [forceN_eq] at h9
      rcases iteB_ok h9 with ⟨hb, h11⟩ | ⟨hb, h11⟩
      · rw [Bool.and_eq_true] at hb
        have e1 : cap = ll := Nat.eq_of_beq_eq_true hb.1
        have e2 : 0 < ll := by simpa [Nat.blt_eq] using hb.2
        obtain ⟨m', g1, g2, g3⟩ := new_ok h11
        refine ⟨_, m', g1, .inr ⟨_, fun ρ w o' c ho hS hL => ?_, g2, g3⟩⟩
        obtain ⟨s1, s2, s3⟩ := sees hS
        generalize hx : c.eval x = x' at s1
        cases s1 with
        | slice n c0 hr =>
          rename_i r
          have hp := prog (w := w) (Nat.le_add_right cap r.ext) hx hde' s2 s3
          by_cases h0 : r.ext = 0
          · refine ⟨_, w, ⟨r.blk, r.base + o, 0⟩, .slice (r := ⟨r.blk, r.base + o, 0⟩) 0 0 Ren.put_same, ⟨r, Ren.put_sub hL _ _ hr, .inl rfl⟩, .inr ⟨rfl, fun hh => hh⟩, runs ho ?_⟩
            have e3 : hh - ll = 0 := by omega
            have e4 : cap + r.ext - ll = 0 := by omega
            rw [hp, if_pos (by omega), e3, e4]
            rfl
          · refine ⟨_, w, ⟨r.blk, r.base + (o + ll * de.size), r.ext⟩, .slice (r := ⟨r.blk, r.base + (o + ll * de.size), r.ext⟩) 0 0 Ren.put_same, ⟨r, Ren.put_sub hL _ _ hr, .inr ⟨rfl, rfl, rfl⟩⟩, .inr ⟨rfl, fun hh => hh⟩, runs ho ?_⟩
            rw [hp, if_neg (by omega)]
            have e3 : hh - ll = 0 := by omega
            have e4 : cap + r.ext - ll = r.ext := by omega
            simp only [Option.map_some, add_off, e3, e4]
            rw [Nat.add_assoc, Nat.zero_add]
            rfl
      · refine ⟨_, m, h11, .inl ⟨rfl, fun ρ w o' c ho hS => ?_⟩⟩
        obtain ⟨s1, s2, s3⟩ := sees hS
        generalize hx : c.eval x = x' at s1
        cases s1 with
        | slice n c0 hr =>
          rename_i r
          have hp := prog (w := w) (Nat.le_add_right cap r.ext) hx hde' s2 s3
          refine ⟨_, .slice _ _ hr, runs ho ?_⟩
          rw [hp]
          rw [Bool.and_eq_false_iff] at hb
          by_cases hc : cap + r.ext = ll
          · rw [if_pos hc]
            have : ll = 0 := by
              rcases hb with hb | hb
              · exfalso
                have : cap = ll := by omega
                subst this
                rw [Nat.beq_refl] at hb; cases hb
              · have : ¬ 0 < ll := by intro hh; rw [show Nat.blt 0 ll = true from by simpa [Nat.blt_eq] using hh] at hb; cases hb
                omega
            subst this
            have e4 : cap + r.ext - 0 = cap - 0 + r.ext := by omega
            rw [e4]
            rw [show Nat.add o (Nat.mul 0 de.size) = o from by show o + 0 * de.size = o; omega]
            rfl
          · rw [if_neg hc]
            simp only [Option.map_some, add_off]
            have e4 : cap + r.ext - ll = cap - ll + r.ext := by omega
            rw [e4, Nat.add_assoc]
            rfl
    · cases h9
  · cases h7

/-! reading memory -/
/-- the program's block of a number -/
theorem ptr_of {ρ : Ren} {b o : Nat} {v' : Value} (h : VR ρ (.pointer (some ⟨b, o, none⟩)) v') : ∃ r, ρ b = some r ∧ v' = .pointer (some ⟨r.blk, r.base + o, none⟩) := by
  cases h with
  | ptr h => exact ⟨_, h, rfl⟩
theorem load_op_ok (hT : TabOk P T) {t : TypeId} {x : Operand} (h : loadOp t x T call env m k = .ok a mm) : ∃ v, k v m = .ok a mm ∧ ReadS P (.load t x) env m v := by
  obtain ⟨p, h1, h2⟩ := evalO_ok h
  obtain ⟨b, o, rfl, h3⟩ := asPtr_ok h2
  obtain ⟨v, h4, h5⟩ := loadVar_ok hT h3
  refine ⟨v, h4, fun ρ w oo c ho hR hS => ?_⟩
  obtain ⟨r, hr, e⟩ := ptr_of (hS x _ (by simp [Op.operands]) h1)
  obtain ⟨v', g1, g2⟩ := h5 ρ w r hR hr
  refine ⟨v', g1, ?_⟩
  unfold execOp
  rw [ho]
  simp only [Instr.loadAt, Instr.sureAddr, e, Sem.run_bind, Sem.run_pure, Result.andThen_ok, g2]
theorem bytesK_ok : ∀ {l : List Value} {c : List UInt8 → Ans}, bytesK l c = .ok a mm → ∃ bs, c bs = .ok a mm ∧ ∃ ns : List Int, l = ns.map (fun n => Value.int .u8 n) ∧ bs = ns.map fun n => UInt8.ofNat n.toNat
  | [], c, h => ⟨[], h, [], rfl, rfl⟩
  | v :: l, c, h => by
    obtain ⟨j, n, rfl, h1⟩ := asInt_ok (show asInt v (fun j n => iteB (eqK j .u8) (.no 69) (bytesK l (fun r => c (UInt8.ofNat n.toNat :: r)))) = .ok a mm from h)
    obtain ⟨hb, h2⟩ := iteB_yes h1
    obtain rfl := eqK_iff hb
    obtain ⟨bs, h3, ns, rfl, rfl⟩ := bytesK_ok h2
    exact ⟨_, h3, n :: ns, rfl, rfl⟩
theorem LR.bytes {ρ : Ren} : ∀ {ns : List Int} {l' : List Value}, LR ρ (ns.map fun n => Value.int .u8 n) l' → l' = ns.map fun n => Value.int .u8 n
  | [], _, h => by cases h; rfl
  | n :: ns, _, h => by
    cases h with
    | cons h hl => cases h; rw [LR.bytes hl]; rfl
theorem cells_add {w : World} {b o : Nat} {cs : List Value} (h : ∀ (j : Nat) v, cs[j]? = some v → w.cell? ⟨b, o + j, none⟩ = some v) : (loadCells ⟨b, o, none⟩ cs.length).run P w = .ok cs.toArray w :=
  run_loadCells_list (P := P) w ⟨b, o, none⟩ cs fun j v hv => by rw [add_off]; exact h j v hv
theorem conv_ok (hT : TabOk P T) {s d : TypeId} {x : Operand} (h : convOp s d x T call env m k = .ok a mm) : ∃ v, k v m = .ok a mm ∧ ReadS P (.convert s d x) env m v := by
  obtain ⟨u, h1, h2⟩ := evalO_ok h
  obtain ⟨ds, hds, h3⟩ := ty_ok h2
  obtain ⟨dd, hdd, h4⟩ := ty_ok h3
  have fin : ∀ v, k v m = .ok a mm → (∀ (ρ : Ren) (w : World) (u' : Value), SeeF m.heap.find ρ w → VR ρ u u' → ∃ v', VR ρ v v' ∧ (Go.convert s d u').run P w = .ok v' w) → ∃ v, k v m = .ok a mm ∧ ReadS P (.convert s d x) env m v := by
    intro v hk hh
    refine ⟨v, hk, fun ρ w oo c ho hR hS => ?_⟩
    obtain ⟨v', g1, g2⟩ := hh ρ w _ hR (hS x u (by simp [Op.operands]) h1)
    refine ⟨v', g1, ?_⟩
    unfold execOp
    rw [ho]
    simp only [Sem.run_bind, g2, Result.andThen_ok]
    rfl
  have hs := (hT.ty s ds hds).1
  have hd := (hT.ty d dd hdd).1
  unfold convF at h4
  split at h4
  · rename_i j j' n hj
    rw [wrapV_eq] at h4
    refine fin _ h4 fun ρ w u' hR hu => ?_
    cases hu
    refine ⟨_, .int _ _, ?_⟩
    rw [hj] at hd
    simp only [Go.convert, Sem.run_bind, run_underlying hs, run_underlying hd, Result.andThen_ok]
    cases ds.desc <;> rfl
  · rename_i b hb
    refine fin _ h4 fun ρ w u' hR hu => ?_
    cases hu
    refine ⟨_, .string _, ?_⟩
    rw [hb] at hd
    simp only [Go.convert, Sem.run_bind, run_underlying hs, run_underlying hd, Result.andThen_ok]
    cases ds.desc <;> rfl
  · rename_i j n hb
    rw [appK_eq, List.append_nil] at h4
    refine fin _ h4 fun ρ w u' hR hu => ?_
    cases hu
    refine ⟨_, .string _, ?_⟩
    rw [hb] at hd
    simp only [Go.convert, Sem.run_bind, run_underlying hs, run_underlying hd, Result.andThen_ok]
    cases ds.desc <;> rfl
  · rename_i e A len cp he hb
    obtain ⟨de, hde, h5⟩ := ty_ok h4
    have hee := (hT.ty e de hde).1
    rw [he] at hs
    rw [hb] at hd
    split at h5
    · rename_i h8
      refine fin _ h5 fun ρ w u' hR hu => ?_
      cases hu
      rw [h8] at hee
      refine ⟨_, .string _, ?_⟩
      rw [run_convert_bytes_string w s d e none len cp hs hee hd]
      rfl
    · rename_i b o h8
      rw [h8] at hee
      obtain ⟨cs, h6, h7⟩ := load_ok h5
      obtain ⟨bs, h9, ns, rfl, rfl⟩ := bytesK_ok h6
      refine fin _ h9 fun ρ w u' hR hu => ?_
      cases hu with
      | slice n c0 hr =>
        rename_i r
        obtain ⟨g1, cs', g2, g3⟩ := h7 ρ w r hR hr
        have hcs := LR.bytes g2
        subst hcs
        refine ⟨_, .string _, ?_⟩
        have hl := cells_add (P := P) g3
        rw [show (ns.map fun n => Value.int .u8 n).length = len from g1] at hl
        rw [run_convert_bytes_string w s d e _ len _ hs hee hd, run_bytesToString w _ len _ ns hl, foldl_push_bytes]
        congr 2
        simp [ByteArray.empty, ByteArray.emptyWithCapacity]
        rfl
    · cases h5
  · cases h4

/-! maps -/
theorem bytes_beq (s t : ByteArray) : (s == t) = decide (s = t) := by
  obtain ⟨x⟩ := s; obtain ⟨y⟩ := t
  show (x == y) = _
  rw [Bool.eq_iff_iff]; simp
theorem keyIs_ok {x y : Value} {b : Bool} (h : keyIs x y = some b) {ρ : Ren} {x' y' : Value} (hx : VR ρ x x') (hy : VR ρ y y') {d : TypeDesc} (hd : plainKey d x = true) : Instr.sameNow d x' y' = some b := by
  unfold keyIs at h
  split at h
  · rename_i j n j' n'
    cases hx; cases hy
    cases hj : eqK j j' with
    | false => rw [hj] at h; cases h
    | true =>
      rw [hj] at h
      obtain rfl := eqK_iff hj
      have hb : eqI n n' = b := by simpa using h
      cases d <;> first | (simp only [plainKey] at hd; cases hd; done) | skip
      simp only [Instr.sameNow, if_true, ← hb, eqI_eq]
      congr 1
  · rename_i s s'
    cases hx; cases hy
    have hb : eqBytes s.data.toList s'.data.toList = b := by simpa using h
    cases d <;> first | (simp only [plainKey] at hd; cases hd; done) | skip
    simp only [Instr.sameNow, ← hb, eqBytes_eq, bytes_beq]
    congr 1
    rw [Bool.eq_iff_iff]
    simp only [decide_eq_true_eq]
    exact ⟨fun e => by rw [e], fun e => Go.WideShapes.bytes_inj e⟩
  · cases h
theorem findE_ok {key : Value} {d : TypeDesc} (hp : plainKey d key = true) : ∀ {l : List MapEntry} {i : Nat} {c : Option (Nat × Value) → Ans}, findE key l i c = .ok a mm →
    ∃ r, c r = .ok a mm ∧ ∀ (ρ : Ren) (key' : Value) (l' : List MapEntry), VR ρ key key' → ER ρ l l' → (match r with
      | none => Instr.findNow d key' l' i = some none
      | some p => ∃ v', Instr.findNow d key' l' i = some (some (p.1, v')) ∧ VR ρ p.2 v' ∧ i ≤ p.1 ∧ p.1 - i < l.length ∧ ∃ e e' : MapEntry, l[p.1 - i]? = some e ∧ l'[p.1 - i]? = some e' ∧ Instr.sameNow d key' e'.key = some true)
  | [], i, c, h => ⟨none, h, fun ρ key' l' hk hl => by cases hl; rfl⟩
  | e :: l, i, c, h => by
    obtain ⟨b, hb, h1⟩ := withO_ok (show withO 91 (keyIs key e.key) (fun b => iteB b (findE key l (Nat.succ i) c) (c (some (i, e.val)))) = .ok a mm from h)
    rcases iteB_ok h1 with ⟨rfl, h2⟩ | ⟨rfl, h2⟩
    · refine ⟨_, h2, fun ρ key' l' hk hl => ?_⟩
      cases hl with
      | cons h3 h4 h5 h6 =>
        rename_i e' l'
        have hs := keyIs_ok hb hk h3 hp
        refine ⟨e'.val, ?_, h4, Nat.le_refl _, by simp, e, e', by simp, by simp, hs⟩
        simp only [Instr.findNow, hs]
    · obtain ⟨r, h3, h4⟩ := findE_ok hp h2
      refine ⟨r, h3, fun ρ key' l' hk hl => ?_⟩
      cases hl with
      | cons h5 h6 h7 h8 =>
        rename_i e' l'
        have hs := keyIs_ok hb hk h5 hp
        have ih := h4 ρ key' l' hk h8
        cases r with
        | none => simp only [Instr.findNow, hs]; exact ih
        | some p =>
          obtain ⟨v', g1, g2, g3, g4, x, x', g5, g6, g7⟩ := ih
          refine ⟨v', by simp only [Instr.findNow, hs]; exact g1, g2, by omega, by simp only [List.length_cons]; omega, x, x', ?_, ?_, g7⟩
          · rw [show p.1 - i = (p.1 - Nat.succ i) + 1 by omega, List.getElem?_cons_succ]; exact g5
          · rw [show p.1 - i = (p.1 - Nat.succ i) + 1 by omega, List.getElem?_cons_succ]; exact g6
end
end Go.Proofs.YtpilmdfnbfcmkaaGreat.Ev
