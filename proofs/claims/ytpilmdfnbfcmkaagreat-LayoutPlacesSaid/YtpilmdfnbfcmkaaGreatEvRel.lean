/-
  How the reckoner's memory lies in a world: numbers of blocks stand for real blocks (a part of one, where it grew). No program in sight.
-/
import Derived.Test.YtpilmdfnbfcmkaaGreatEvTree
import Derived.Laws.Tables
import Derived.Laws.Cells
import Derived.Laws.CopyRow
namespace Go.Proofs.YtpilmdfnbfcmkaaGreat.Ev
set_option linter.unusedVariables false
set_option linter.unusedSimpArgs false

/-- Where a block lies: the real block, the cell at which it begins, and how many elements more there may be room for. -/
structure Rn where
  blk : Nat
  base : Nat
  ext : Nat
abbrev Ren := Nat → Option Rn

mutual
inductive VR (ρ : Ren) : Value → Value → Prop
  | bool (b : Bool) : VR ρ (.bool b) (.bool b)
  | int (k : IntKind) (n : Int) : VR ρ (.int k n) (.int k n)
  | float (k : FloatKind) (b : Nat) : VR ρ (.float k b) (.float k b)
  | string (s : ByteArray) : VR ρ (.string s) (.string s)
  | ptr0 : VR ρ (.pointer none) (.pointer none)
  | ptr {L o : Nat} {r : Rn} (h : ρ L = some r) : VR ρ (.pointer (some ⟨L, o, none⟩)) (.pointer (some ⟨r.blk, r.base + o, none⟩))
  | slice0 (n c : Nat) : VR ρ (.slice none n c) (.slice none n c)
  | slice {L o : Nat} {r : Rn} (n c : Nat) (h : ρ L = some r) : VR ρ (.slice (some ⟨L, o, none⟩) n c) (.slice (some ⟨r.blk, r.base + o, none⟩) n (c + r.ext))
  | map0 : VR ρ (.map none) (.map none)
  | map {L : Nat} {r : Rn} (h : ρ L = some r) : VR ρ (.map (some L)) (.map (some r.blk))
  | func (fn : Fn) {a b a' b' : Array Value} (ha : LR ρ a.toList a'.toList) (hb : LR ρ b.toList b'.toList) : VR ρ (.func fn a b) (.func fn a' b')
  | nilFunc : VR ρ .nilFunc .nilFunc
  | nilIface : VR ρ .nilIface .nilIface
  | iface (t : TypeId) {v v' : Value} (h : VR ρ v v') : VR ρ (.iface t v) (.iface t v')
  | agg {a a' : Array Value} (h : LR ρ a.toList a'.toList) : VR ρ (.agg a) (.agg a')
  | tuple {a a' : Array Value} (h : LR ρ a.toList a'.toList) : VR ρ (.tuple a) (.tuple a')
inductive LR (ρ : Ren) : List Value → List Value → Prop
  | nil : LR ρ [] []
  | cons {v v' : Value} {l l' : List Value} (h : VR ρ v v') (hl : LR ρ l l') : LR ρ (v :: l) (v' :: l')
end

section
variable {ρ ρ' : Ren}
mutual
theorem VR.mono (hs : ∀ L r, ρ L = some r → ρ' L = some r) : ∀ {v v' : Value}, VR ρ v v' → VR ρ' v v'
  | _, _, .bool b => .bool b
  | _, _, .int k n => .int k n
  | _, _, .float k b => .float k b
  | _, _, .string s => .string s
  | _, _, .ptr0 => .ptr0
  | _, _, .ptr h => .ptr (hs _ _ h)
  | _, _, .slice0 n c => .slice0 n c
  | _, _, .slice n c h => .slice n c (hs _ _ h)
  | _, _, .map0 => .map0
  | _, _, .map h => .map (hs _ _ h)
  | _, _, .func fn ha hb => .func fn (LR.mono hs ha) (LR.mono hs hb)
  | _, _, .nilFunc => .nilFunc
  | _, _, .nilIface => .nilIface
  | _, _, .iface t h => .iface t (VR.mono hs h)
  | _, _, .agg h => .agg (LR.mono hs h)
  | _, _, .tuple h => .tuple (LR.mono hs h)
theorem LR.mono (hs : ∀ L r, ρ L = some r → ρ' L = some r) : ∀ {l l' : List Value}, LR ρ l l' → LR ρ' l l'
  | _, _, .nil => .nil
  | _, _, .cons h hl => .cons (VR.mono hs h) (LR.mono hs hl)
end

theorem VR.ground {v : Value} (h : groundB v = true) : VR ρ v v := by
  unfold groundB at h
  split at h <;> first | constructor | cases h
theorem LR.ground : ∀ {l : List Value}, l.all groundB = true → LR ρ l l
  | [], _ => .nil
  | v :: l, h => by
    simp only [List.all_cons, Bool.and_eq_true] at h
    exact .cons (.ground h.1) (LR.ground h.2)
theorem LR.length {l l' : List Value} (h : LR ρ l l') : l.length = l'.length := by
  induction l generalizing l' with
  | nil => cases h; rfl
  | cons v l ih => cases h with | cons h hl => simp [ih hl]
theorem LR.get {l l' : List Value} (h : LR ρ l l') {i : Nat} {v : Value} (hv : l[i]? = some v) : ∃ v', l'[i]? = some v' ∧ VR ρ v v' := by
  induction l generalizing l' i with
  | nil => simp at hv
  | cons x l ih =>
    cases h with
    | cons h hl =>
      cases i with
      | zero => simp at hv; subst hv; exact ⟨_, rfl, h⟩
      | succ i => exact ih hl (by simpa using hv)
theorem LR.app {l l' r r' : List Value} (h : LR ρ l l') (h2 : LR ρ r r') : LR ρ (l ++ r) (l' ++ r') := by
  induction l generalizing l' with
  | nil => cases h; exact h2
  | cons x l ih => cases h with | cons h hl => exact .cons h (ih hl)
theorem LR.take {l l' : List Value} (h : LR ρ l l') : ∀ n, LR ρ (l.take n) (l'.take n) := by
  induction l generalizing l' with
  | nil => cases h; intro n; simp; exact .nil
  | cons x l ih =>
    cases h with
    | cons h hl => intro n; cases n with
      | zero => exact .nil
      | succ n => exact .cons h (ih hl n)
theorem LR.drop {l l' : List Value} (h : LR ρ l l') : ∀ n, LR ρ (l.drop n) (l'.drop n) := by
  induction l generalizing l' with
  | nil => cases h; intro n; simp; exact .nil
  | cons x l ih =>
    cases h with
    | cons h hl => intro n; cases n with
      | zero => exact .cons h hl
      | succ n => exact ih hl n
theorem LR.rep {z z' : List Value} (h : LR ρ z z') : ∀ n, LR ρ (List.replicate n z).flatten (List.replicate n z').flatten
  | 0 => .nil
  | n + 1 => by simp only [List.replicate_succ, List.flatten_cons]; exact h.app (LR.rep h n)
theorem VR.cells {v v' : Value} (h : VR ρ v v') : LR ρ (cellsL v) v'.cells.toList := by
  cases h <;> first | assumption | exact .cons (by constructor <;> assumption) .nil | skip
  all_goals (refine .cons ?_ .nil; first | exact .bool _ | exact .int _ _ | exact .float _ _ | exact .string _ | exact .ptr0 | exact .slice0 _ _ | exact .map0 | exact .nilFunc | exact .nilIface | exact .slice _ _ ‹_› | exact .func _ ‹_› ‹_› | exact .tuple ‹_›)
theorem LR.ofGet : ∀ {l l' : List Value}, l.length = l'.length → (∀ (i : Nat) (v : Value), l[i]? = some v → ∃ v', l'[i]? = some v' ∧ VR ρ v v') → LR ρ l l'
  | [], [], _, _ => .nil
  | [], _ :: _, h, _ => by simp at h
  | _ :: _, [], h, _ => by simp at h
  | v :: l, v' :: l', h, hg => by
    obtain ⟨w, hw, h0⟩ := hg 0 v rfl
    simp at hw; subst hw
    exact .cons h0 (LR.ofGet (by simpa using h) fun i x hx => by simpa using hg (i + 1) x (by simpa using hx))
/-- a cell holds no composite -/
theorem VR.one {v v' : Value} (h : VR ρ v v') (hb : isBad v = false) : v'.oneCell' = true := by
  cases h <;> first | rfl | cases hb
end

/-! maps -/
inductive ER (ρ : Ren) : List MapEntry → List MapEntry → Prop
  | nil : ER ρ [] []
  | cons {e e' : MapEntry} {l l' : List MapEntry} (hk : VR ρ e.key e'.key) (hv : VR ρ e.val e'.val) (hb : e.born = e'.born) (hl : ER ρ l l') : ER ρ (e :: l) (e' :: l')
theorem ER.mono {ρ ρ' : Ren} (hs : ∀ L r, ρ L = some r → ρ' L = some r) : ∀ {l l' : List MapEntry}, ER ρ l l' → ER ρ' l l'
  | _, _, .nil => .nil
  | _, _, .cons hk hv hb hl => .cons (hk.mono hs) (hv.mono hs) hb (ER.mono hs hl)
theorem ER.length {ρ : Ren} : ∀ {l l' : List MapEntry}, ER ρ l l' → l.length = l'.length
  | _, _, .nil => rfl
  | _, _, .cons _ _ _ hl => by simp [ER.length hl]
theorem ER.app {ρ : Ren} : ∀ {l l' r r' : List MapEntry}, ER ρ l l' → ER ρ r r' → ER ρ (l ++ r) (l' ++ r')
  | _, _, _, _, .nil, h => h
  | _, _, _, _, .cons hk hv hb hl, h => .cons hk hv hb (ER.app hl h)

/-! blocks -/
noncomputable def cellAt (els : PT (List Value)) (s off : Nat) : Option Value := (els.find (off / s)).bind fun c => c[off % s]?
def notTail : Bk → Prop
  | .tail _ _ => False
  | _ => True
def isRow : Bk → Prop
  | .row .. => True
  | _ => False
noncomputable def BR (ρ : Ren) (w : World) (r : Rn) : Bk → Prop
  | .row els s n e opn => ∃ arr, w.heap[r.blk]? = some (.cells arr e (0, 0)) ∧ (∀ i c, els.find i = some c → c.length = s) ∧
      (∀ off v, cellAt els s off = some v → ∃ v', arr[r.base + off]? = some v' ∧ VR ρ v v') ∧ (opn = false → r.ext = 0) ∧ r.base + (n + r.ext) * s ≤ arr.size
  | .map es clock => ∃ es', w.heap[r.blk]? = some (.map es' clock) ∧ ER ρ es es'.toList
  | .iter s pos => r.base = 0 ∧ w.heap[r.blk]? = some (.stringIter s pos)
  | .miter mo since seen last => r.base = 0 ∧ ∃ mo', w.heap[r.blk]? = some (.mapIter mo' since seen.toArray last) ∧ (match mo with | none => mo' = none | some L => ∃ r', ρ L = some r' ∧ mo' = some r'.blk)
  | .tail p q => ∃ rp, ρ p = some rp ∧ (r.ext = 0 ∨ (r.blk = rp.blk ∧ r.base = rp.base + q ∧ r.ext = rp.ext))

structure RelF (find : Nat → Option Bk) (ρ : Ren) (w : World) : Prop where
  blk : ∀ L b, find L = some b → ∃ r, ρ L = some r ∧ BR ρ w r b
  inj : ∀ L L' b b' r r', find L = some b → find L' = some b' → notTail b → notTail b' → ρ L = some r → ρ L' = some r' → r.blk = r'.blk → L = L'
/-- what the reckoner's memory says of the blocks that the program has -/
def SeeF (find : Nat → Option Bk) (ρ : Ren) (w : World) : Prop := ∀ L b r, find L = some b → ρ L = some r → BR ρ w r b
theorem RelF.see {find : Nat → Option Bk} {ρ : Ren} {w : World} (h : RelF find ρ w) : SeeF find ρ w := fun L b r hb hr => by
  obtain ⟨r', e1, e2⟩ := h.blk L b hb
  rw [hr] at e1; cases e1
  exact e2
def InImg (find : Nat → Option Bk) (ρ : Ren) (b : Nat) : Prop := ∃ L bk r, find L = some bk ∧ notTail bk ∧ ρ L = some r ∧ r.blk = b
/-- what is not memory is as it was -/
def SameO (w w' : World) : Prop := w'.os = w.os ∧ w'.tape = w.tape ∧ w'.output = w.output
theorem SameO.refl (w : World) : SameO w w := ⟨rfl, rfl, rfl⟩
theorem SameO.trans {a b c : World} (h : SameO a b) (k : SameO b c) : SameO a c := ⟨k.1.trans h.1, k.2.1.trans h.2.1, k.2.2.trans h.2.2⟩
/-- what became of the world -/
structure EXF (f : Nat → Option Bk) (lo hi : Nat) (ρ : Ren) (w : World) (f' : Nat → Option Bk) (ρ' : Ren) (w' : World) : Prop where
  sub : ∀ L r, ρ L = some r → ρ' L = some r
  dom : ∀ L r, ρ' L = some r → ρ L = some r ∨ (lo ≤ L ∧ L < hi)
  size : w.heap.size ≤ w'.heap.size
  frame : ∀ b, b < w.heap.size → ¬ InImg f ρ b → w'.heap[b]? = w.heap[b]?
  img : ∀ b, InImg f' ρ' b → InImg f ρ b ∨ w.heap.size ≤ b
  lab : ∀ L bk, f' L = some bk → (∃ bk0, f L = some bk0) ∨ (lo ≤ L ∧ L < hi)
  same : SameO w w'
abbrev EX (m : Mem) (ρ : Ren) (w : World) (m' : Mem) (ρ' : Ren) (w' : World) : Prop := EXF m.heap.find m.next m'.next ρ w m'.heap.find ρ' w'
def Free (ρ : Ren) (m m' : Mem) : Prop := ∀ L, m.next ≤ L → L < m'.next → ρ L = none

theorem EX.refl (m : Mem) (ρ : Ren) (w : World) : EX m ρ w m ρ w := ⟨fun _ _ h => h, fun _ _ h => .inl h, Nat.le_refl _, fun _ _ _ => rfl, fun _ h => .inl h, fun _ bk h => .inl ⟨bk, h⟩, .refl w⟩
theorem EX.trans {m m1 m2 : Mem} {ρ ρ1 ρ2 : Ren} {w w1 w2 : World} (h1 : EX m ρ w m1 ρ1 w1) (h2 : EX m1 ρ1 w1 m2 ρ2 w2) (n1 : m.next ≤ m1.next) (n2 : m1.next ≤ m2.next) : EX m ρ w m2 ρ2 w2 := by
  refine ⟨fun L r h => h2.sub _ _ (h1.sub _ _ h), fun L r h => ?_, Nat.le_trans h1.size h2.size, fun b hb hi => ?_, fun b hi => ?_, fun L bk hl => ?_, h1.same.trans h2.same⟩
  · rcases h2.dom L r h with h | h
    · rcases h1.dom L r h with h | h
      · exact .inl h
      · exact .inr ⟨h.1, Nat.lt_of_lt_of_le h.2 n2⟩
    · exact .inr ⟨Nat.le_trans n1 h.1, h.2⟩
  · rw [h2.frame b (Nat.lt_of_lt_of_le hb h1.size) (fun hh => ?_), h1.frame b hb hi]
    rcases h1.img b hh with h | h
    · exact hi h
    · omega
  · rcases h2.img b hi with h | h
    · exact h1.img b h
    · exact .inr (Nat.le_trans h1.size h)
  · rcases h2.lab L bk hl with ⟨bk0, h⟩ | h
    · rcases h1.lab L bk0 h with h | h
      · exact .inl h
      · exact .inr ⟨h.1, Nat.lt_of_lt_of_le h.2 n2⟩
    · exact .inr ⟨Nat.le_trans n1 h.1, h.2⟩
theorem Free.left {ρ : Ren} {m m1 m2 : Mem} (h : Free ρ m m2) (n2 : m1.next ≤ m2.next) : Free ρ m m1 := fun L a b => h L a (Nat.lt_of_lt_of_le b n2)
theorem Free.right {ρ ρ1 : Ren} {m m1 m2 : Mem} {w w1 : World} (h : Free ρ m m2) (n1 : m.next ≤ m1.next) (hx : EX m ρ w m1 ρ1 w1) : Free ρ1 m1 m2 := by
  intro L a b
  cases hr : ρ1 L with
  | none => rfl
  | some r =>
    rcases hx.dom L r hr with h' | h'
    · rw [h L (Nat.le_trans n1 a) b] at h'; cases h'
    · omega

/-! what holds of a block goes on holding -/
theorem InImg.lt {find : Nat → Option Bk} {ρ : Ren} {w : World} (h : RelF find ρ w) {b : Nat} (hi : InImg find ρ b) : b < w.heap.size := by
  obtain ⟨L, bk, r, hf, hn, hr, rfl⟩ := hi
  obtain ⟨r', hr', hb⟩ := h.blk L bk hf
  rw [hr] at hr'; cases hr'
  have key : ∀ o, w.heap[r.blk]? = some o → r.blk < w.heap.size := fun o h => (Array.getElem?_eq_some_iff.1 h).1
  cases bk with
  | row els s n e opn => obtain ⟨arr, h1, _⟩ := hb; exact key _ h1
  | map es c => obtain ⟨es', h1, _⟩ := hb; exact key _ h1
  | iter s p => exact key _ hb.2
  | miter a b c d => obtain ⟨_, mo', h1, _⟩ := hb; exact key _ h1
  | tail p q => exact hn.elim
/-- A block's fact behind a step that left the block alone. -/
theorem BR.keep {ρ ρ' : Ren} {w w' : World} {r : Rn} {b : Bk} (h : BR ρ w r b) (hs : ∀ L r, ρ L = some r → ρ' L = some r)
    (hw : notTail b → w'.heap[r.blk]? = w.heap[r.blk]?) : BR ρ' w' r b := by
  cases b with
  | row els s n e opn =>
    obtain ⟨arr, h1, h2, h3, h4, h5⟩ := h
    exact ⟨arr, (hw trivial).trans h1, h2, fun off v hv => (h3 off v hv).imp fun v' hh => ⟨hh.1, hh.2.mono hs⟩, h4, h5⟩
  | map es c => obtain ⟨es', h1, h2⟩ := h; exact ⟨es', (hw trivial).trans h1, h2.mono hs⟩
  | iter s p => exact ⟨h.1, (hw trivial).trans h.2⟩
  | miter mo a b c =>
    obtain ⟨h0, mo', h1, h2⟩ := h
    refine ⟨h0, mo', (hw trivial).trans h1, ?_⟩
    cases mo with
    | none => exact h2
    | some L => obtain ⟨r', e1, e2⟩ := h2; exact ⟨r', hs _ _ e1, e2⟩
  | tail p q => obtain ⟨rp, h1, h2⟩ := h; exact ⟨rp, hs _ _ h1, h2⟩
theorem RelF.sub {find find' : Nat → Option Bk} {ρ : Ren} {w : World} (h : RelF find ρ w) (hf : ∀ L b, find' L = some b → find L = some b) : RelF find' ρ w :=
  ⟨fun L b hb => h.blk L b (hf L b hb), fun L L' b b' r r' h1 h2 => h.inj L L' b b' r r' (hf _ _ h1) (hf _ _ h2)⟩

/-- One block is new, or another than it was. -/
theorem stepRF {f f' : Nat → Option Bk} {lo hi : Nat} {ρ ρ' : Ren} {w w' : World} (h : RelF f ρ w) (X : Nat) (b2 : Bk) (r2 : Rn)
    (hsub : ∀ L r, ρ L = some r → ρ' L = some r) (hdom : ∀ L r, ρ' L = some r → ρ L = some r ∨ (lo ≤ L ∧ L < hi))
    (hX : ∀ L b, f' L = some b → (L = X ∧ b = b2) ∨ (L ≠ X ∧ f L = some b))
    (hlab : (∃ bk0, f X = some bk0) ∨ (lo ≤ X ∧ X < hi))
    (hρ : ρ' X = some r2) (hBR : BR ρ' w' r2 b2) (hsize : w.heap.size ≤ w'.heap.size)
    (hworld : ∀ b, b < w.heap.size → (b ≠ r2.blk ∨ ¬ notTail b2) → w'.heap[b]? = w.heap[b]?)
    (himg : notTail b2 → (w.heap.size ≤ r2.blk ∨ (InImg f ρ r2.blk ∧ ∀ L b r, L ≠ X → f' L = some b → notTail b → ρ L = some r → r.blk ≠ r2.blk))) (hso : SameO w w' := by exact ⟨rfl, rfl, rfl⟩) :
    RelF f' ρ' w' ∧ EXF f lo hi ρ w f' ρ' w' := by
  have old : ∀ L b, f L = some b → ∃ r, ρ L = some r ∧ ρ' L = some r ∧ BR ρ w r b := fun L b hb => by
    obtain ⟨r, h1, h2⟩ := h.blk L b hb
    exact ⟨r, h1, hsub _ _ h1, h2⟩
  have lt : ∀ L b r, f L = some b → notTail b → ρ L = some r → r.blk < w.heap.size := fun L b r hb hn hr => InImg.lt h ⟨L, b, r, hb, hn, hr, rfl⟩
  have apart : notTail b2 → ∀ L b r, L ≠ X → f' L = some b → f L = some b → notTail b → ρ L = some r → r.blk ≠ r2.blk := by
    intro hn2 L b r hL hb' hb hn hr
    rcases himg hn2 with hi | hi
    · have := lt L b r hb hn hr; omega
    · exact hi.2 L b r hL hb' hn hr
  refine ⟨⟨fun L b hb => ?_, fun L L' b b' r r' h1 h2 n1 n2 e1 e2 e => ?_⟩, ⟨hsub, hdom, hsize, fun b hb hi => ?_, fun b hi => ?_, fun L bk hl => ?_, hso⟩⟩
  · rcases hX L b hb with ⟨rfl, rfl⟩ | ⟨hL, ho⟩
    · exact ⟨r2, hρ, hBR⟩
    · obtain ⟨r, h1, h2, h3⟩ := old L b ho
      refine ⟨r, h2, h3.keep hsub fun hn => hworld _ (lt L b r ho hn h1) ?_⟩
      by_cases hn2 : notTail b2
      · exact .inl (apart hn2 L b r hL hb ho hn h1)
      · exact .inr hn2
  · rcases hX L b h1 with ⟨rfl, rfl⟩ | ⟨hL, ho⟩
    · rcases hX L' b' h2 with ⟨rfl, rfl⟩ | ⟨hL', ho'⟩
      · rfl
      · obtain ⟨q, g1, g2, g3⟩ := old L' b' ho'
        rw [hρ] at e1; cases e1
        rw [g2] at e2; cases e2
        exact absurd e.symm (apart n1 L' b' _ hL' h2 ho' n2 g1)
    · obtain ⟨q, g1, g2, g3⟩ := old L b ho
      rw [g2] at e1; cases e1
      rcases hX L' b' h2 with ⟨rfl, rfl⟩ | ⟨hL', ho'⟩
      · rw [hρ] at e2; cases e2
        exact absurd e (apart n2 L b _ hL h1 ho n1 g1)
      · obtain ⟨q', g1', g2', g3'⟩ := old L' b' ho'
        rw [g2'] at e2; cases e2
        exact h.inj L L' b b' _ _ ho ho' n1 n2 g1 g1' e
  · refine hworld b hb ?_
    by_cases hn2 : notTail b2
    · left
      rcases himg hn2 with h' | h'
      · omega
      · intro e; subst e; exact hi h'.1
    · exact .inr hn2
  · obtain ⟨L, bk, r, hf, hn, hr, rfl⟩ := hi
    rcases hX L bk hf with ⟨rfl, rfl⟩ | ⟨hL, ho⟩
    · rw [hρ] at hr; cases hr
      rcases himg hn with h' | h'
      · exact .inr h'
      · exact .inl h'.1
    · obtain ⟨q, g1, g2, g3⟩ := old L bk ho
      rw [g2] at hr; cases hr
      exact .inl ⟨L, bk, _, ho, hn, g1, rfl⟩
  · rcases hX L bk hl with ⟨rfl, rfl⟩ | ⟨hL, ho⟩
    · exact hlab
    · exact .inl ⟨bk, ho⟩

theorem stepR {m m' : Mem} {ρ ρ' : Ren} {w w' : World} (h : RelF m.heap.find ρ w) (X : Nat) (b2 : Bk) (r2 : Rn)
    (hsub : ∀ L r, ρ L = some r → ρ' L = some r) (hdom : ∀ L r, ρ' L = some r → ρ L = some r ∨ (m.next ≤ L ∧ L < m'.next))
    (hX : ∀ L b, m'.heap.find L = some b → (L = X ∧ b = b2) ∨ (L ≠ X ∧ m.heap.find L = some b))
    (hlab : (∃ bk0, m.heap.find X = some bk0) ∨ (m.next ≤ X ∧ X < m'.next))
    (hρ : ρ' X = some r2) (hBR : BR ρ' w' r2 b2) (hsize : w.heap.size ≤ w'.heap.size)
    (hworld : ∀ b, b < w.heap.size → (b ≠ r2.blk ∨ ¬ notTail b2) → w'.heap[b]? = w.heap[b]?)
    (himg : notTail b2 → (w.heap.size ≤ r2.blk ∨ (InImg m.heap.find ρ r2.blk ∧ ∀ L b r, L ≠ X → m'.heap.find L = some b → notTail b → ρ L = some r → r.blk ≠ r2.blk))) (hso : SameO w w' := by exact ⟨rfl, rfl, rfl⟩) :
    RelF m'.heap.find ρ' w' ∧ EX m ρ w m' ρ' w' := stepRF h X b2 r2 hsub hdom hX hlab hρ hBR hsize hworld himg hso
noncomputable def Ren.put (ρ : Ren) (L : Nat) (r : Rn) : Ren := fun K => if K = L then some r else ρ K
theorem Ren.put_sub {ρ : Ren} {L : Nat} {r : Rn} (h : ρ L = none) : ∀ K q, ρ K = some q → (ρ.put L r) K = some q := by
  intro K q hq
  unfold Ren.put
  rw [if_neg (by intro e; subst e; rw [h] at hq; cases hq)]
  exact hq
theorem Ren.put_same {ρ : Ren} {L : Nat} {r : Rn} : (ρ.put L r) L = some r := if_pos rfl
theorem Ren.put_dom {ρ : Ren} {L : Nat} {r : Rn} {n n' : Nat} (h1 : n ≤ L) (h2 : L < n') : ∀ K q, (ρ.put L r) K = some q → ρ K = some q ∨ (n ≤ K ∧ K < n') := by
  intro K q hq
  unfold Ren.put at hq
  split at hq
  · subst K; exact .inr ⟨h1, h2⟩
  · exact .inl hq
/-- a new block -/
theorem newR {m m' : Mem} {ρ : Ren} {w : World} (h : RelF m.heap.find ρ w) (b2 : Bk) (o : Obj) (ext : Nat) (hfree : ρ m.next = none) (hn : m'.next = m.next + 1)
    (hf : ∀ j, m'.heap.find j = if j = m.next then some b2 else m.heap.find j)
    (hBR : BR (ρ.put m.next ⟨w.heap.size, 0, ext⟩) { w with heap := w.heap.push o } ⟨w.heap.size, 0, ext⟩ b2) :
    RelF m'.heap.find (ρ.put m.next ⟨w.heap.size, 0, ext⟩) { w with heap := w.heap.push o } ∧ EX m ρ w m' (ρ.put m.next ⟨w.heap.size, 0, ext⟩) { w with heap := w.heap.push o } := by
  refine stepR h m.next b2 ⟨w.heap.size, 0, ext⟩ (Ren.put_sub hfree) (Ren.put_dom (Nat.le_refl _) (by omega)) (fun L b hb => ?_) (.inr ⟨Nat.le_refl _, by omega⟩) Ren.put_same hBR (by simp) (fun b hb _ => ?_) (fun _ => .inl (Nat.le_refl _))
  · rw [hf] at hb
    split at hb
    · cases hb; exact .inl ⟨‹_›, rfl⟩
    · exact .inr ⟨‹_›, hb⟩
  · simp only [Array.getElem?_push]
    rw [if_neg (by omega)]

/-! the evaluator's steps of memory -/
section
variable {a : Value} {mm : Mem}
theorem new_ok {m : Mem} {b : Bk} {k : Nat → Mem → Ans} (h : m.new b k = .ok a mm) : ∃ m', k m.next m' = .ok a mm ∧ m'.next = m.next + 1 ∧ ∀ j, m'.heap.find j = if j = m.next then some b else m.heap.find j := by
  unfold Mem.new at h
  obtain ⟨t, ht, hf⟩ := PT.set_ok h
  rw [forceN_eq] at ht
  exact ⟨_, ht, rfl, hf⟩
theorem put_ok {m : Mem} {L : Nat} {b : Bk} {k : Mem → Ans} (h : m.put L b k = .ok a mm) : ∃ m', k m' = .ok a mm ∧ m'.next = m.next ∧ ∀ j, m'.heap.find j = if j = L then some b else m.heap.find j := by
  unfold Mem.put at h
  obtain ⟨t, ht, hf⟩ := PT.set_ok h
  exact ⟨_, ht, rfl, hf⟩
theorem kill_ok {m : Mem} {L : Nat} {k : Mem → Ans} (h : m.kill L k = .ok a mm) : ∃ m', k m' = .ok a mm ∧ m'.next = m.next ∧ ∀ j, m'.heap.find j = if j = L then none else m.heap.find j := by
  unfold Mem.kill at h
  obtain ⟨t, ht, hf⟩ := PT.set_ok h
  exact ⟨_, ht, rfl, hf⟩
theorem bk_ok {m : Mem} {L : Nat} {k : Bk → Ans} {why : Nat} (h : m.bk L k why = .ok a mm) : ∃ b, m.heap.find L = some b ∧ k b = .ok a mm := PT.get_ok h
theorem asRow_ok {b : Bk} {f : PT (List Value) → Nat → Nat → TypeId → Bool → Ans} (h : asRow b f = .ok a mm) : ∃ els s n e o, b = .row els s n e o ∧ f els s n e o = .ok a mm := by
  unfold asRow at h
  split at h
  · exact ⟨_, _, _, _, _, rfl, h⟩
  · cases h
theorem asMapB_ok {b : Bk} {f : List MapEntry → Nat → Ans} (h : asMapB b f = .ok a mm) : ∃ es c, b = .map es c ∧ f es c = .ok a mm := by
  unfold asMapB at h
  split at h
  · exact ⟨_, _, rfl, h⟩
  · cases h
theorem asBool_ok {v : Value} {f : Bool → Ans} (h : asBool v f = .ok a mm) : ∃ b, v = .bool b ∧ f b = .ok a mm := by
  unfold asBool at h
  split at h
  · exact ⟨_, rfl, h⟩
  · cases h
theorem asInt_ok {v : Value} {f : IntKind → Int → Ans} (h : asInt v f = .ok a mm) : ∃ k n, v = .int k n ∧ f k n = .ok a mm := by
  unfold asInt at h
  split at h
  · exact ⟨_, _, rfl, h⟩
  · cases h
theorem asPtr_ok {v : Value} {f : Nat → Nat → Ans} (h : asPtr v f = .ok a mm) : ∃ b o, v = .pointer (some ⟨b, o, none⟩) ∧ f b o = .ok a mm := by
  unfold asPtr at h
  split at h
  · exact ⟨_, _, rfl, h⟩
  · cases h
theorem asAgg_ok {v : Value} {f : List Value → Ans} (h : asAgg v f = .ok a mm) : ∃ cs, v = .agg cs ∧ f cs.toList = .ok a mm := by
  unfold asAgg at h
  split at h
  · exact ⟨_, rfl, h⟩
  · cases h
theorem asTup_ok {v : Value} {f : List Value → Ans} (h : asTup v f = .ok a mm) : ∃ cs, v = .tuple cs ∧ f cs.toList = .ok a mm := by
  unfold asTup at h
  split at h
  · exact ⟨_, rfl, h⟩
  · cases h
theorem asFn_ok {v : Value} {f : FuncId → List Value → List Value → Ans} (h : asFn v f = .ok a mm) : ∃ g x y, v = .func (.func g) x y ∧ f g x.toList y.toList = .ok a mm := by
  unfold asFn at h
  split at h
  · exact ⟨_, _, _, rfl, h⟩
  · cases h
theorem asSliceT_ok {d : TypeDesc} {f : TypeId → Ans} (h : asSliceT d f = .ok a mm) : ∃ e, d = .slice e ∧ f e = .ok a mm := by
  unfold asSliceT at h
  split at h
  · exact ⟨_, rfl, h⟩
  · cases h
theorem asStruct_ok {d : TypeDesc} {f : List Field → Ans} (h : asStruct d f = .ok a mm) : ∃ fs, d = .struct fs ∧ f fs.toList = .ok a mm := by
  unfold asStruct at h
  split at h
  · exact ⟨_, rfl, h⟩
  · cases h
theorem asMapT_ok {d : TypeDesc} {f : TypeId → TypeId → Ans} (h : asMapT d f = .ok a mm) : ∃ k e, d = .map k e ∧ f k e = .ok a mm := by
  unfold asMapT at h
  split at h
  · exact ⟨_, _, rfl, h⟩
  · cases h
end
end Go.Proofs.YtpilmdfnbfcmkaaGreat.Ev
