/-
  A reckoner for closed calls: a call of the program at given values is reckoned by the kernel, over a memory of numbered blocks, whatever the tape holds. What it answers, it answers for every world (XEvCode). No program in sight.
-/
import GoSem.Dispatch
namespace Go.Proofs.YtpilmdfnbfcmkaaGreat.Ev
set_option linter.unusedVariables false

/-- A tree by numbers. -/
inductive PT (α : Type) where
  | leaf
  | node (l : PT α) (o : Option α) (r : PT α)
/-- A block: n elements of s cells; or a map; or what goes through a string, or through a map; or the end of a row, where nothing lies. open: the row that it lies in may be greater. -/
inductive Bk where
  | row (els : PT (List Value)) (s n : Nat) (elem : TypeId) (opn : Bool)
  | map (es : List MapEntry) (clock : Nat)
  | iter (s : ByteArray) (pos : Nat)
  | miter (m : Option Nat) (since : Nat) (seen : List Nat) (last : Nat)
  | tail (of q : Nat)
structure Mem where
  heap : PT Bk
  next : Nat
inductive Ans where
  | ok (v : Value) (m : Mem)
  | no (why : Nat)
structure TyR where
  desc : TypeDesc
  size : Nat
  bytes : Nat
  zero : Option Value
  agg : Bool
  flat : Bool
inductive OV where
  | none
  | some (v : Value)
structure L1 where
  a0 : OV
  a1 : OV
  a2 : OV
  a3 : OV
  a4 : OV
  a5 : OV
  a6 : OV
  a7 : OV
  a8 : OV
  a9 : OV
  a10 : OV
  a11 : OV
  a12 : OV
  a13 : OV
  a14 : OV
  a15 : OV
structure L2 where
  b0 : L1
  b1 : L1
  b2 : L1
  b3 : L1
  b4 : L1
  b5 : L1
  b6 : L1
  b7 : L1
  b8 : L1
  b9 : L1
  b10 : L1
  b11 : L1
  b12 : L1
  b13 : L1
  b14 : L1
  b15 : L1
  b16 : L1
  b17 : L1
  b18 : L1
  b19 : L1
structure SelV where
  get : L1 → OV
  set : L1 → OV → (L1 → Ans) → Ans
structure SelL where
  get : L2 → L1
  set : L2 → L1 → (L2 → Ans) → Ans
structure Tab where
  tys : PT TyR
  fns : PT Func
  stub : Nat → Option (List Value → Mem → (Value → Mem → Ans) → Ans)
  n : Nat
abbrev K := Value → Mem → Ans
abbrev CallF := FuncId → List Value → Mem → K → Ans
abbrev OpF := Tab → CallF → L2 → Mem → K → Ans
abbrev CodeF := Tab → CallF → L2 → Mem → (L2 → Mem → Ans) → (Nat → L2 → Mem → Ans) → (L2 → Mem → Ans) → Ans
noncomputable section

/-! trees -/
def PT.get {α : Type} (why : Nat) (t : PT α) : Nat → (α → Ans) → Ans :=
  PT.rec (motive := fun _ => Nat → (α → Ans) → Ans) (fun _ _ => .no why)
    (fun _ o _ il ir k c => Nat.rec (motive := fun _ => Ans) (Option.rec (motive := fun _ => Ans) (.no why) c o)
      (fun m _ => Nat.rec (motive := fun _ => Ans) (il (Nat.div m 2) c) (fun _ _ => ir (Nat.div m 2) c) (Nat.land m 1)) k) t
/-- a new path -/
def PT.path {α : Type} (fuel : Nat) : Nat → Option α → (PT α → Ans) → Ans :=
  Nat.rec (motive := fun _ => Nat → Option α → (PT α → Ans) → Ans) (fun _ _ _ => .no 1)
    (fun _ ih k v c => Nat.rec (motive := fun _ => Ans) (c (.node .leaf v .leaf))
      (fun m _ => Nat.rec (motive := fun _ => Ans) (ih (Nat.div m 2) v (fun l => c (.node l none .leaf))) (fun _ _ => ih (Nat.div m 2) v (fun r => c (.node .leaf none r))) (Nat.land m 1)) k) fuel
def PT.set {α : Type} (t : PT α) : Nat → Option α → (PT α → Ans) → Ans :=
  PT.rec (motive := fun _ => Nat → Option α → (PT α → Ans) → Ans) (PT.path 40)
    (fun l o r il ir k v c => Nat.rec (motive := fun _ => Ans) (c (.node l v r))
      (fun m _ => Nat.rec (motive := fun _ => Ans) (il (Nat.div m 2) v (fun l' => c (.node l' o r))) (fun _ _ => ir (Nat.div m 2) v (fun r' => c (.node l o r'))) (Nat.land m 1)) k) t
def PT.ofList {α : Type} (l : List α) : Nat → PT α → (PT α → Ans) → Ans :=
  List.rec (motive := fun _ => Nat → PT α → (PT α → Ans) → Ans) (fun _ t c => c t) (fun x _ ih k t c => PT.set t k (some x) (fun t' => ih (Nat.succ k) t' c)) l

/-! frames -/
def selV0 : SelV := ⟨fun e => e.a0, fun e v k => L1.rec (motive := fun _ => Ans) (fun x0 x1 x2 x3 x4 x5 x6 x7 x8 x9 x10 x11 x12 x13 x14 x15 => k (L1.mk v x1 x2 x3 x4 x5 x6 x7 x8 x9 x10 x11 x12 x13 x14 x15)) e⟩
def selV1 : SelV := ⟨fun e => e.a1, fun e v k => L1.rec (motive := fun _ => Ans) (fun x0 x1 x2 x3 x4 x5 x6 x7 x8 x9 x10 x11 x12 x13 x14 x15 => k (L1.mk x0 v x2 x3 x4 x5 x6 x7 x8 x9 x10 x11 x12 x13 x14 x15)) e⟩
def selV2 : SelV := ⟨fun e => e.a2, fun e v k => L1.rec (motive := fun _ => Ans) (fun x0 x1 x2 x3 x4 x5 x6 x7 x8 x9 x10 x11 x12 x13 x14 x15 => k (L1.mk x0 x1 v x3 x4 x5 x6 x7 x8 x9 x10 x11 x12 x13 x14 x15)) e⟩
def selV3 : SelV := ⟨fun e => e.a3, fun e v k => L1.rec (motive := fun _ => Ans) (fun x0 x1 x2 x3 x4 x5 x6 x7 x8 x9 x10 x11 x12 x13 x14 x15 => k (L1.mk x0 x1 x2 v x4 x5 x6 x7 x8 x9 x10 x11 x12 x13 x14 x15)) e⟩
def selV4 : SelV := ⟨fun e => e.a4, fun e v k => L1.rec (motive := fun _ => Ans) (fun x0 x1 x2 x3 x4 x5 x6 x7 x8 x9 x10 x11 x12 x13 x14 x15 => k (L1.mk x0 x1 x2 x3 v x5 x6 x7 x8 x9 x10 x11 x12 x13 x14 x15)) e⟩
def selV5 : SelV := ⟨fun e => e.a5, fun e v k => L1.rec (motive := fun _ => Ans) (fun x0 x1 x2 x3 x4 x5 x6 x7 x8 x9 x10 x11 x12 x13 x14 x15 => k (L1.mk x0 x1 x2 x3 x4 v x6 x7 x8 x9 x10 x11 x12 x13 x14 x15)) e⟩
def selV6 : SelV := ⟨fun e => e.a6, fun e v k => L1.rec (motive := fun _ => Ans) (fun x0 x1 x2 x3 x4 x5 x6 x7 x8 x9 x10 x11 x12 x13 x14 x15 => k (L1.mk x0 x1 x2 x3 x4 x5 v x7 x8 x9 x10 x11 x12 x13 x14 x15)) e⟩
def selV7 : SelV := ⟨fun e => e.a7, fun e v k => L1.rec (motive := fun _ => Ans) (fun x0 x1 x2 x3 x4 x5 x6 x7 x8 x9 x10 x11 x12 x13 x14 x15 => k (L1.mk x0 x1 x2 x3 x4 x5 x6 v x8 x9 x10 x11 x12 x13 x14 x15)) e⟩
def selV8 : SelV := ⟨fun e => e.a8, fun e v k => L1.rec (motive := fun _ => Ans) (fun x0 x1 x2 x3 x4 x5 x6 x7 x8 x9 x10 x11 x12 x13 x14 x15 => k (L1.mk x0 x1 x2 x3 x4 x5 x6 x7 v x9 x10 x11 x12 x13 x14 x15)) e⟩
def selV9 : SelV := ⟨fun e => e.a9, fun e v k => L1.rec (motive := fun _ => Ans) (fun x0 x1 x2 x3 x4 x5 x6 x7 x8 x9 x10 x11 x12 x13 x14 x15 => k (L1.mk x0 x1 x2 x3 x4 x5 x6 x7 x8 v x10 x11 x12 x13 x14 x15)) e⟩
def selV10 : SelV := ⟨fun e => e.a10, fun e v k => L1.rec (motive := fun _ => Ans) (fun x0 x1 x2 x3 x4 x5 x6 x7 x8 x9 x10 x11 x12 x13 x14 x15 => k (L1.mk x0 x1 x2 x3 x4 x5 x6 x7 x8 x9 v x11 x12 x13 x14 x15)) e⟩
def selV11 : SelV := ⟨fun e => e.a11, fun e v k => L1.rec (motive := fun _ => Ans) (fun x0 x1 x2 x3 x4 x5 x6 x7 x8 x9 x10 x11 x12 x13 x14 x15 => k (L1.mk x0 x1 x2 x3 x4 x5 x6 x7 x8 x9 x10 v x12 x13 x14 x15)) e⟩
def selV12 : SelV := ⟨fun e => e.a12, fun e v k => L1.rec (motive := fun _ => Ans) (fun x0 x1 x2 x3 x4 x5 x6 x7 x8 x9 x10 x11 x12 x13 x14 x15 => k (L1.mk x0 x1 x2 x3 x4 x5 x6 x7 x8 x9 x10 x11 v x13 x14 x15)) e⟩
def selV13 : SelV := ⟨fun e => e.a13, fun e v k => L1.rec (motive := fun _ => Ans) (fun x0 x1 x2 x3 x4 x5 x6 x7 x8 x9 x10 x11 x12 x13 x14 x15 => k (L1.mk x0 x1 x2 x3 x4 x5 x6 x7 x8 x9 x10 x11 x12 v x14 x15)) e⟩
def selV14 : SelV := ⟨fun e => e.a14, fun e v k => L1.rec (motive := fun _ => Ans) (fun x0 x1 x2 x3 x4 x5 x6 x7 x8 x9 x10 x11 x12 x13 x14 x15 => k (L1.mk x0 x1 x2 x3 x4 x5 x6 x7 x8 x9 x10 x11 x12 x13 v x15)) e⟩
def selV15 : SelV := ⟨fun e => e.a15, fun e v k => L1.rec (motive := fun _ => Ans) (fun x0 x1 x2 x3 x4 x5 x6 x7 x8 x9 x10 x11 x12 x13 x14 x15 => k (L1.mk x0 x1 x2 x3 x4 x5 x6 x7 x8 x9 x10 x11 x12 x13 x14 v)) e⟩
def selV (d : Nat) : SelV := Nat.rec (motive := fun _ => SelV) selV0 (fun m0 _ => Nat.rec (motive := fun _ => SelV) selV1 (fun m1 _ => Nat.rec (motive := fun _ => SelV) selV2 (fun m2 _ => Nat.rec (motive := fun _ => SelV) selV3 (fun m3 _ => Nat.rec (motive := fun _ => SelV) selV4 (fun m4 _ => Nat.rec (motive := fun _ => SelV) selV5 (fun m5 _ => Nat.rec (motive := fun _ => SelV) selV6 (fun m6 _ => Nat.rec (motive := fun _ => SelV) selV7 (fun m7 _ => Nat.rec (motive := fun _ => SelV) selV8 (fun m8 _ => Nat.rec (motive := fun _ => SelV) selV9 (fun m9 _ => Nat.rec (motive := fun _ => SelV) selV10 (fun m10 _ => Nat.rec (motive := fun _ => SelV) selV11 (fun m11 _ => Nat.rec (motive := fun _ => SelV) selV12 (fun m12 _ => Nat.rec (motive := fun _ => SelV) selV13 (fun m13 _ => Nat.rec (motive := fun _ => SelV) selV14 (fun m14 _ => selV15) m13) m12) m11) m10) m9) m8) m7) m6) m5) m4) m3) m2) m1) m0) d
def selL0 : SelL := ⟨fun e => e.b0, fun e v k => L2.rec (motive := fun _ => Ans) (fun x0 x1 x2 x3 x4 x5 x6 x7 x8 x9 x10 x11 x12 x13 x14 x15 x16 x17 x18 x19 => k (L2.mk v x1 x2 x3 x4 x5 x6 x7 x8 x9 x10 x11 x12 x13 x14 x15 x16 x17 x18 x19)) e⟩
def selL1 : SelL := ⟨fun e => e.b1, fun e v k => L2.rec (motive := fun _ => Ans) (fun x0 x1 x2 x3 x4 x5 x6 x7 x8 x9 x10 x11 x12 x13 x14 x15 x16 x17 x18 x19 => k (L2.mk x0 v x2 x3 x4 x5 x6 x7 x8 x9 x10 x11 x12 x13 x14 x15 x16 x17 x18 x19)) e⟩
def selL2 : SelL := ⟨fun e => e.b2, fun e v k => L2.rec (motive := fun _ => Ans) (fun x0 x1 x2 x3 x4 x5 x6 x7 x8 x9 x10 x11 x12 x13 x14 x15 x16 x17 x18 x19 => k (L2.mk x0 x1 v x3 x4 x5 x6 x7 x8 x9 x10 x11 x12 x13 x14 x15 x16 x17 x18 x19)) e⟩
def selL3 : SelL := ⟨fun e => e.b3, fun e v k => L2.rec (motive := fun _ => Ans) (fun x0 x1 x2 x3 x4 x5 x6 x7 x8 x9 x10 x11 x12 x13 x14 x15 x16 x17 x18 x19 => k (L2.mk x0 x1 x2 v x4 x5 x6 x7 x8 x9 x10 x11 x12 x13 x14 x15 x16 x17 x18 x19)) e⟩
def selL4 : SelL := ⟨fun e => e.b4, fun e v k => L2.rec (motive := fun _ => Ans) (fun x0 x1 x2 x3 x4 x5 x6 x7 x8 x9 x10 x11 x12 x13 x14 x15 x16 x17 x18 x19 => k (L2.mk x0 x1 x2 x3 v x5 x6 x7 x8 x9 x10 x11 x12 x13 x14 x15 x16 x17 x18 x19)) e⟩
def selL5 : SelL := ⟨fun e => e.b5, fun e v k => L2.rec (motive := fun _ => Ans) (fun x0 x1 x2 x3 x4 x5 x6 x7 x8 x9 x10 x11 x12 x13 x14 x15 x16 x17 x18 x19 => k (L2.mk x0 x1 x2 x3 x4 v x6 x7 x8 x9 x10 x11 x12 x13 x14 x15 x16 x17 x18 x19)) e⟩
def selL6 : SelL := ⟨fun e => e.b6, fun e v k => L2.rec (motive := fun _ => Ans) (fun x0 x1 x2 x3 x4 x5 x6 x7 x8 x9 x10 x11 x12 x13 x14 x15 x16 x17 x18 x19 => k (L2.mk x0 x1 x2 x3 x4 x5 v x7 x8 x9 x10 x11 x12 x13 x14 x15 x16 x17 x18 x19)) e⟩
def selL7 : SelL := ⟨fun e => e.b7, fun e v k => L2.rec (motive := fun _ => Ans) (fun x0 x1 x2 x3 x4 x5 x6 x7 x8 x9 x10 x11 x12 x13 x14 x15 x16 x17 x18 x19 => k (L2.mk x0 x1 x2 x3 x4 x5 x6 v x8 x9 x10 x11 x12 x13 x14 x15 x16 x17 x18 x19)) e⟩
def selL8 : SelL := ⟨fun e => e.b8, fun e v k => L2.rec (motive := fun _ => Ans) (fun x0 x1 x2 x3 x4 x5 x6 x7 x8 x9 x10 x11 x12 x13 x14 x15 x16 x17 x18 x19 => k (L2.mk x0 x1 x2 x3 x4 x5 x6 x7 v x9 x10 x11 x12 x13 x14 x15 x16 x17 x18 x19)) e⟩
def selL9 : SelL := ⟨fun e => e.b9, fun e v k => L2.rec (motive := fun _ => Ans) (fun x0 x1 x2 x3 x4 x5 x6 x7 x8 x9 x10 x11 x12 x13 x14 x15 x16 x17 x18 x19 => k (L2.mk x0 x1 x2 x3 x4 x5 x6 x7 x8 v x10 x11 x12 x13 x14 x15 x16 x17 x18 x19)) e⟩
def selL10 : SelL := ⟨fun e => e.b10, fun e v k => L2.rec (motive := fun _ => Ans) (fun x0 x1 x2 x3 x4 x5 x6 x7 x8 x9 x10 x11 x12 x13 x14 x15 x16 x17 x18 x19 => k (L2.mk x0 x1 x2 x3 x4 x5 x6 x7 x8 x9 v x11 x12 x13 x14 x15 x16 x17 x18 x19)) e⟩
def selL11 : SelL := ⟨fun e => e.b11, fun e v k => L2.rec (motive := fun _ => Ans) (fun x0 x1 x2 x3 x4 x5 x6 x7 x8 x9 x10 x11 x12 x13 x14 x15 x16 x17 x18 x19 => k (L2.mk x0 x1 x2 x3 x4 x5 x6 x7 x8 x9 x10 v x12 x13 x14 x15 x16 x17 x18 x19)) e⟩
def selL12 : SelL := ⟨fun e => e.b12, fun e v k => L2.rec (motive := fun _ => Ans) (fun x0 x1 x2 x3 x4 x5 x6 x7 x8 x9 x10 x11 x12 x13 x14 x15 x16 x17 x18 x19 => k (L2.mk x0 x1 x2 x3 x4 x5 x6 x7 x8 x9 x10 x11 v x13 x14 x15 x16 x17 x18 x19)) e⟩
def selL13 : SelL := ⟨fun e => e.b13, fun e v k => L2.rec (motive := fun _ => Ans) (fun x0 x1 x2 x3 x4 x5 x6 x7 x8 x9 x10 x11 x12 x13 x14 x15 x16 x17 x18 x19 => k (L2.mk x0 x1 x2 x3 x4 x5 x6 x7 x8 x9 x10 x11 x12 v x14 x15 x16 x17 x18 x19)) e⟩
def selL14 : SelL := ⟨fun e => e.b14, fun e v k => L2.rec (motive := fun _ => Ans) (fun x0 x1 x2 x3 x4 x5 x6 x7 x8 x9 x10 x11 x12 x13 x14 x15 x16 x17 x18 x19 => k (L2.mk x0 x1 x2 x3 x4 x5 x6 x7 x8 x9 x10 x11 x12 x13 v x15 x16 x17 x18 x19)) e⟩
def selL15 : SelL := ⟨fun e => e.b15, fun e v k => L2.rec (motive := fun _ => Ans) (fun x0 x1 x2 x3 x4 x5 x6 x7 x8 x9 x10 x11 x12 x13 x14 x15 x16 x17 x18 x19 => k (L2.mk x0 x1 x2 x3 x4 x5 x6 x7 x8 x9 x10 x11 x12 x13 x14 v x16 x17 x18 x19)) e⟩
def selL16 : SelL := ⟨fun e => e.b16, fun e v k => L2.rec (motive := fun _ => Ans) (fun x0 x1 x2 x3 x4 x5 x6 x7 x8 x9 x10 x11 x12 x13 x14 x15 x16 x17 x18 x19 => k (L2.mk x0 x1 x2 x3 x4 x5 x6 x7 x8 x9 x10 x11 x12 x13 x14 x15 v x17 x18 x19)) e⟩
def selL17 : SelL := ⟨fun e => e.b17, fun e v k => L2.rec (motive := fun _ => Ans) (fun x0 x1 x2 x3 x4 x5 x6 x7 x8 x9 x10 x11 x12 x13 x14 x15 x16 x17 x18 x19 => k (L2.mk x0 x1 x2 x3 x4 x5 x6 x7 x8 x9 x10 x11 x12 x13 x14 x15 x16 v x18 x19)) e⟩
def selL18 : SelL := ⟨fun e => e.b18, fun e v k => L2.rec (motive := fun _ => Ans) (fun x0 x1 x2 x3 x4 x5 x6 x7 x8 x9 x10 x11 x12 x13 x14 x15 x16 x17 x18 x19 => k (L2.mk x0 x1 x2 x3 x4 x5 x6 x7 x8 x9 x10 x11 x12 x13 x14 x15 x16 x17 v x19)) e⟩
def selL19 : SelL := ⟨fun e => e.b19, fun e v k => L2.rec (motive := fun _ => Ans) (fun x0 x1 x2 x3 x4 x5 x6 x7 x8 x9 x10 x11 x12 x13 x14 x15 x16 x17 x18 x19 => k (L2.mk x0 x1 x2 x3 x4 x5 x6 x7 x8 x9 x10 x11 x12 x13 x14 x15 x16 x17 x18 v)) e⟩
def e1 : L1 := ⟨.none,.none,.none,.none,.none,.none,.none,.none,.none,.none,.none,.none,.none,.none,.none,.none⟩
def e2 : L2 := ⟨e1,e1,e1,e1,e1,e1,e1,e1,e1,e1,e1,e1,e1,e1,e1,e1,e1,e1,e1,e1⟩
def selL20 : SelL := ⟨fun _ => e1, fun _ _ _ => .no 4⟩
def selL (d : Nat) : SelL := Nat.rec (motive := fun _ => SelL) selL0 (fun m0 _ => Nat.rec (motive := fun _ => SelL) selL1 (fun m1 _ => Nat.rec (motive := fun _ => SelL) selL2 (fun m2 _ => Nat.rec (motive := fun _ => SelL) selL3 (fun m3 _ => Nat.rec (motive := fun _ => SelL) selL4 (fun m4 _ => Nat.rec (motive := fun _ => SelL) selL5 (fun m5 _ => Nat.rec (motive := fun _ => SelL) selL6 (fun m6 _ => Nat.rec (motive := fun _ => SelL) selL7 (fun m7 _ => Nat.rec (motive := fun _ => SelL) selL8 (fun m8 _ => Nat.rec (motive := fun _ => SelL) selL9 (fun m9 _ => Nat.rec (motive := fun _ => SelL) selL10 (fun m10 _ => Nat.rec (motive := fun _ => SelL) selL11 (fun m11 _ => Nat.rec (motive := fun _ => SelL) selL12 (fun m12 _ => Nat.rec (motive := fun _ => SelL) selL13 (fun m13 _ => Nat.rec (motive := fun _ => SelL) selL14 (fun m14 _ => Nat.rec (motive := fun _ => SelL) selL15 (fun m15 _ => Nat.rec (motive := fun _ => SelL) selL16 (fun m16 _ => Nat.rec (motive := fun _ => SelL) selL17 (fun m17 _ => Nat.rec (motive := fun _ => SelL) selL18 (fun m18 _ => Nat.rec (motive := fun _ => SelL) selL19 (fun m19 _ => selL20) m18) m17) m16) m15) m14) m13) m12) m11) m10) m9) m8) m7) m6) m5) m4) m3) m2) m1) m0) d
def getT (e : L2) (t : Nat) (k : Value → Ans) : Ans :=
  SelL.rec (motive := fun _ => Ans) (fun gl _ => SelV.rec (motive := fun _ => Ans) (fun gv _ => OV.rec (motive := fun _ => Ans) (.no (Nat.add 1000 t)) k (gv (gl e))) (selV (Nat.mod t 16))) (selL (Nat.div t 16))
def setT (e : L2) (t : Nat) (v : Value) (k : L2 → Ans) : Ans :=
  SelL.rec (motive := fun _ => Ans) (fun gl sl => SelV.rec (motive := fun _ => Ans) (fun _ sv => sv (gl e) (.some v) (fun l => sl e l k)) (selV (Nat.mod t 16))) (selL (Nat.div t 16))

def forceN (n : Nat) (c : Nat → Ans) : Ans := Nat.rec (motive := fun _ => Ans) (c 0) (fun p _ => c (Nat.succ p)) n
def forceI (n : Int) (c : Int → Ans) : Ans := Int.rec (motive := fun _ => Ans) (fun m => forceN m (fun m => c (Int.ofNat m))) (fun m => forceN m (fun m => c (Int.negSucc m))) n
def iteB (b : Bool) (f t : Ans) : Ans := Bool.rec (motive := fun _ => Ans) f t b
def withO {α : Type} (why : Nat) (x : Option α) (f : α → Ans) : Ans := Option.rec (motive := fun _ => Ans) (.no why) f x
def Tab.ty (T : Tab) (t : TypeId) (f : TyR → Ans) : Ans := PT.get 2 T.tys t f
def intV (k : IntKind) (n : Int) (c : Value → Ans) : Ans := forceI n (fun n => c (.int k n))
def boolV (b : Bool) (c : Value → Ans) : Ans := Bool.rec (motive := fun _ => Ans) (c (.bool false)) (c (.bool true)) b

/-! operands -/
/-- no address is in it -/
def groundB (v : Value) : Bool := match v with
  | .bool _ | .int _ _ | .float _ _ | .string _ | .nilIface | .nilFunc | .pointer none | .slice none _ _ | .map none => true
  | _ => false
def evTmp (t : Nat) (env : L2) (k : Value → Ans) : Ans := getT env t k
def evCon (v : Value) (_ : L2) (k : Value → Ans) : Ans := iteB (groundB v) (.no 5) (k v)
def evGlo (g : Nat) (_ : L2) (k : Value → Ans) : Ans := .no 6
def evFun (f : Nat) (_ : L2) (k : Value → Ans) : Ans := k (.func (.func f) ⟨[]⟩ ⟨[]⟩)
def evalO (x : Operand) : L2 → (Value → Ans) → Ans := Operand.rec (motive := fun _ => L2 → (Value → Ans) → Ans) evTmp evCon evGlo evFun x
def evalL (env : L2) (l : List Operand) : (List Value → Ans) → Ans :=
  List.rec (motive := fun _ => (List Value → Ans) → Ans) (fun k => k []) (fun x _ ih k => evalO x env (fun v => ih (fun vs => k (v :: vs)))) l
def evalP (env : L2) (l : List (Nat × Operand)) : (List (Nat × Value) → Ans) → Ans :=
  List.rec (motive := fun _ => (List (Nat × Value) → Ans) → Ans) (fun k => k []) (fun x _ ih k => evalO x.2 env (fun v => ih (fun vs => k ((x.1, v) :: vs)))) l

/-! lists, forced -/
def takeK {α : Type} (n : Nat) : List α → (List α → Ans) → Ans :=
  Nat.rec (motive := fun _ => List α → (List α → Ans) → Ans) (fun _ k => k []) (fun _ ih l k => List.rec (motive := fun _ => Ans) (k []) (fun x xs _ => ih xs (fun r => k (x :: r))) l) n
def dropK {α : Type} (n : Nat) : List α → (List α → Ans) → Ans :=
  Nat.rec (motive := fun _ => List α → (List α → Ans) → Ans) (fun l k => k l) (fun _ ih l k => List.rec (motive := fun _ => Ans) (k []) (fun _ xs _ => ih xs k) l) n
def appK {α : Type} (l r : List α) (k : List α → Ans) : Ans :=
  List.rec (motive := fun _ => (List α → Ans) → Ans) (fun k => k r) (fun x _ ih k => ih (fun t => k (x :: t))) l k
def layK {α : Type} (n : Nat) (vs l : List α) (k : List α → Ans) : Ans :=
  takeK n l (fun h => dropK (Nat.add n vs.length) l (fun d => appK vs d (fun r => appK h r k)))
def nth {α : Type} (l : List α) (n : Nat) : Option α :=
  Nat.rec (motive := fun _ => List α → Option α) (fun l => List.rec (motive := fun _ => Option α) none (fun x _ _ => some x) l) (fun _ ih l => List.rec (motive := fun _ => Option α) none (fun _ xs _ => ih xs) l) n l
def repK {α : Type} (z : List α) (n : Nat) : (List α → Ans) → Ans :=
  Nat.rec (motive := fun _ => (List α → Ans) → Ans) (fun k => k []) (fun _ ih k => ih (fun r => appK z r k)) n

/-! taking values apart -/
def asBool (v : Value) (f : Bool → Ans) : Ans := match v with | .bool b => f b | _ => .no 20
def asInt (v : Value) (f : IntKind → Int → Ans) : Ans := match v with | .int k n => f k n | _ => .no 21
def asPtr (v : Value) (f : Nat → Nat → Ans) : Ans := match v with | .pointer (some ⟨b, o, none⟩) => f b o | _ => .no 22
def asAgg (v : Value) (f : List Value → Ans) : Ans := match v with | .agg cs => f cs.toList | _ => .no 23
def asTup (v : Value) (f : List Value → Ans) : Ans := match v with | .tuple cs => f cs.toList | _ => .no 24
def asFn (v : Value) (f : FuncId → List Value → List Value → Ans) : Ans := match v with | .func (.func g) a b => f g a.toList b.toList | _ => .no 25
def cellsL (v : Value) : List Value := match v with | .agg cs => cs.toList | v => [v]
def asSliceT (d : TypeDesc) (f : TypeId → Ans) : Ans := match d with | .slice e => f e | _ => .no 26
def asStruct (d : TypeDesc) (f : List Field → Ans) : Ans := match d with | .struct fs => f fs.toList | _ => .no 27
def asMapT (d : TypeDesc) (f : TypeId → TypeId → Ans) : Ans := match d with | .map k e => f k e | _ => .no 28
def asRow (b : Bk) (f : PT (List Value) → Nat → Nat → TypeId → Bool → Ans) : Ans := match b with | .row els s n e o => f els s n e o | _ => .no 29
def asMapB (b : Bk) (f : List MapEntry → Nat → Ans) : Ans := match b with | .map es c => f es c | _ => .no 30

/-! memory -/
def Mem.bk (m : Mem) (L : Nat) (f : Bk → Ans) (why : Nat := 3) : Ans := PT.get why m.heap L f
def Mem.put (m : Mem) (L : Nat) (b : Bk) (k : Mem → Ans) : Ans := PT.set m.heap L (some b) (fun h => k ⟨h, m.next⟩)
def Mem.kill (m : Mem) (L : Nat) (k : Mem → Ans) : Ans := PT.set m.heap L none (fun h => k ⟨h, m.next⟩)
def Mem.new (m : Mem) (b : Bk) (k : Nat → Mem → Ans) : Ans := PT.set m.heap m.next (some b) (fun h => forceN (Nat.succ m.next) (fun n => k m.next ⟨h, n⟩))
def newVar (m : Mem) (t : TypeId) (cs : List Value) (k : K) : Ans :=
  m.new (.row (.node .leaf (some cs) .leaf) cs.length 1 t false) (fun L m' => k (.pointer (some ⟨L, 0, none⟩)) m')
def gather (els : PT (List Value)) (n : Nat) : Nat → (List Value → Ans) → Ans :=
  Nat.rec (motive := fun _ => Nat → (List Value → Ans) → Ans) (fun _ k => k []) (fun _ ih i k => PT.get 13 els i (fun c => ih (Nat.succ i) (fun r => appK c r k))) n
/-- cnt cells from place off on -/
def readCells (els : PT (List Value)) (s off cnt : Nat) (k : List Value → Ans) : Ans :=
  iteB (Nat.ble (Nat.add (Nat.mod off s) cnt) s)
    (iteB (Nat.beq (Nat.add (Nat.mod off s) (Nat.mod cnt s)) 0) (.no 7) (gather els (Nat.div cnt s) (Nat.div off s) k))
    (PT.get 13 els (Nat.div off s) (fun c => iteB (Nat.beq cnt s) (dropK (Nat.mod off s) c (fun d => takeK cnt d k)) (k c)))
/-- n elements from element i on -/
def scatter (s n : Nat) : Nat → List Value → PT (List Value) → (PT (List Value) → Ans) → Ans :=
  Nat.rec (motive := fun _ => Nat → List Value → PT (List Value) → (PT (List Value) → Ans) → Ans) (fun _ _ els k => k els)
    (fun _ ih i vs els k => takeK s vs (fun h => dropK s vs (fun d => PT.set els i (some h) (fun els' => ih (Nat.succ i) d els' k)))) n
def writeCells (els : PT (List Value)) (s off : Nat) (vs : List Value) (k : PT (List Value) → Ans) : Ans :=
  iteB (Nat.ble (Nat.add (Nat.mod off s) vs.length) s) (.no 8)
    (PT.get 13 els (Nat.div off s) (fun c => iteB (Nat.beq vs.length s) (layK (Nat.mod off s) vs c (fun c' => PT.set els (Nat.div off s) (some c') k)) (PT.set els (Nat.div off s) (some vs) k)))
def load (m : Mem) (b off cnt : Nat) (k : List Value → Ans) : Ans :=
  Nat.rec (motive := fun _ => Ans) (k []) (fun _ _ => m.bk b (fun b => asRow b (fun els s _ _ _ => readCells els s off cnt k))) cnt
def isBad (v : Value) : Bool := match v with | .agg _ | .tuple _ => true | _ => false
def store (m : Mem) (b off : Nat) (vs : List Value) (k : Mem → Ans) : Ans :=
  iteB (vs.any isBad) (m.bk b (fun bk => asRow bk (fun els s n e o => writeCells els s off vs (fun els' => m.put b (.row els' s n e o) k)))) (.no 9)
def loadVar (T : Tab) (m : Mem) (t : TypeId) (b off : Nat) (k : Value → Ans) : Ans :=
  T.ty t (fun d => iteB d.agg (load m b off 1 (fun cs => List.rec (motive := fun _ => Ans) (.no 10) (fun v _ _ => k v) cs)) (load m b off d.size (fun cs => k (.agg ⟨cs⟩))))
def storeVar (T : Tab) (m : Mem) (t : TypeId) (b off : Nat) (v : Value) (k : Mem → Ans) : Ans :=
  T.ty t (fun d => iteB (Nat.beq (cellsL v).length d.size) (.no 11) (store m b off (cellsL v) k))
/-- a new row of n elements -/
def newRow (m : Mem) (e : TypeId) (s n : Nat) (cs : List Value) (opn : Bool) (k : Nat → Mem → Ans) : Ans :=
  iteB (Nat.beq cs.length (Nat.mul n s)) (.no 12) (scatter s n 0 cs .leaf (fun els => m.new (.row els s n e opn) k))

/-! numbers and strings -/
/-- the least number that is too great for a kind, or of a negative one the least too small -/
def lim (k : IntKind) : Nat := IntKind.rec (motive := fun _ => Nat) 128 32768 2147483648 9223372036854775808 256 65536 4294967296 18446744073709551616 k
def sgn (k : IntKind) : Bool := IntKind.rec (motive := fun _ => Bool) true true true true false false false false k
def wrapV (k : IntKind) (n : Int) (c : Value → Ans) : Ans :=
  Int.rec (motive := fun _ => Ans) (fun m => iteB (Nat.blt m (lim k)) (intV k (k.wrap (Int.ofNat m)) c) (intV k (Int.ofNat m) c))
    (fun m => iteB (and (sgn k) (Nat.blt m (lim k))) (intV k (k.wrap (Int.negSucc m)) c) (intV k (Int.negSucc m) c)) n
def ltI (a b : Int) : Bool := Int.rec (motive := fun _ => Bool)
  (fun m => Int.rec (motive := fun _ => Bool) (fun n => Nat.blt m n) (fun _ => false) b)
  (fun m => Int.rec (motive := fun _ => Bool) (fun _ => true) (fun n => Nat.blt n m) b) a
def eqI (a b : Int) : Bool := Int.rec (motive := fun _ => Bool)
  (fun m => Int.rec (motive := fun _ => Bool) (fun n => Nat.beq m n) (fun _ => false) b)
  (fun m => Int.rec (motive := fun _ => Bool) (fun _ => false) (fun n => Nat.beq m n) b) a
def eqK (a b : IntKind) : Bool := Nat.beq a.ctorIdx b.ctorIdx
def pureK (s : Sem Value) (c : Value → Ans) : Ans := match s with
  | .pure (.int k n) => intV k n c
  | .pure (.bool b) => boolV b c
  | _ => .no 40
def addF (k : IntKind) (a b : Int) (c : Value → Ans) : Ans := wrapV k (Int.add a b) c
def subF (k : IntKind) (a b : Int) (c : Value → Ans) : Ans := wrapV k (Int.sub a b) c
def mulF (k : IntKind) (a b : Int) (c : Value → Ans) : Ans := wrapV k (Int.mul a b) c
def genF (op : BinOp) (k : IntKind) (a b : Int) (c : Value → Ans) : Ans := pureK (Go.binOp op 0 (.int k a) (.int k b)) c
def eqF (_ : IntKind) (a b : Int) (c : Value → Ans) : Ans := boolV (eqI a b) c
def neF (_ : IntKind) (a b : Int) (c : Value → Ans) : Ans := boolV (not (eqI a b)) c
def ltF (_ : IntKind) (a b : Int) (c : Value → Ans) : Ans := boolV (ltI a b) c
def leF (_ : IntKind) (a b : Int) (c : Value → Ans) : Ans := boolV (not (ltI b a)) c
def gtF (_ : IntKind) (a b : Int) (c : Value → Ans) : Ans := boolV (ltI b a) c
def geF (_ : IntKind) (a b : Int) (c : Value → Ans) : Ans := boolV (not (ltI a b)) c
def intF (op : BinOp) : IntKind → Int → Int → (Value → Ans) → Ans :=
  BinOp.rec (motive := fun _ => IntKind → Int → Int → (Value → Ans) → Ans) addF subF mulF (genF .quo) (genF .rem) (genF .and) (genF .or) (genF .xor) (genF .shl) (genF .shr) (genF .andNot) eqF neF ltF leF gtF geF op
def eqBytes (l : List UInt8) : List UInt8 → Bool :=
  List.rec (motive := fun _ => List UInt8 → Bool) (fun r => List.rec (motive := fun _ => Bool) true (fun _ _ _ => false) r)
    (fun x _ ih r => List.rec (motive := fun _ => Bool) false (fun y ys _ => and (Nat.beq x.toNat y.toNat) (ih ys)) r) l
def strF (op : BinOp) (a b : ByteArray) (c : Value → Ans) : Ans := match op with
  | .add => iteB (Nat.ble (Nat.add a.data.toList.length b.data.toList.length) 1000000) (.no 41) (appK a.data.toList b.data.toList (fun l => c (.string ⟨⟨l⟩⟩)))
  | .eql => boolV (eqBytes a.data.toList b.data.toList) c
  | .neq => boolV (not (eqBytes a.data.toList b.data.toList)) c
  | .lss => boolV (Op.bytesLess a.data.toList b.data.toList) c
  | .gtr => boolV (not (or (Op.bytesLess a.data.toList b.data.toList) (eqBytes a.data.toList b.data.toList))) c
  | _ => .no 42
def part (T : Tab) (t : TypeId) (cs : List Value) (off : Nat) (k : Value → Ans) : Ans :=
  T.ty t (fun d => iteB d.agg (withO 43 (nth cs off) k) (dropK off cs (fun l => takeK d.size l (fun r => k (.agg ⟨r⟩)))))

/-! equality -/
def forceB (b : Bool) (k : Bool → Ans) : Ans := Bool.rec (motive := fun _ => Ans) (k false) (k true) b
def eqFs (T : Tab) (xs ys : List Value) (cmp : TypeId → Value → Value → (Bool → Ans) → Ans) (fs : List Field) : (Bool → Ans) → Ans :=
  List.rec (motive := fun _ => (Bool → Ans) → Ans) (fun k => k true)
    (fun f _ ih k => iteB (f.name == "_") (part T f.type xs f.offset (fun a => part T f.type ys f.offset (fun b => cmp f.type a b (fun r => iteB r (k false) (ih k))))) (.no 161)) fs
def eqV0 (T : Tab) (t : TypeId) (x y : Value) (k : Bool → Ans) : Ans :=
  T.ty t (fun d => match d.desc, x, y with
    | .bool, .bool a, .bool b => forceB (a == b) k
    | .pointer _, .pointer none, .pointer b => forceB b.isNone k
    | .pointer _, .pointer (some _), .pointer none => k false
    | .interface _, .nilIface, .nilIface => k true
    | .interface _, .nilIface, .iface _ _ => k false
    | .interface _, .iface _ _, .nilIface => k false
    | .interface _, .iface tx _, .iface ty _ => iteB (Nat.beq tx ty) (k false) (.no 46)
    | .slice _, .slice none _ _, .slice b _ _ => forceB b.isNone k
    | .slice _, .slice (some _) _ _, .slice none _ _ => k false
    | .map _ _, .map none, .map b => forceB b.isNone k
    | .map _ _, .map (some _), .map none => k false
    | .func _ _ _, .nilFunc, .nilFunc => k true
    | .func _ _ _, .nilFunc, .func _ _ _ => k false
    | .func _ _ _, .func _ _ _, .nilFunc => k false
    | _, _, _ => .no 47)
def eqStep (T : Tab) (ih : TypeId → Value → Value → (Bool → Ans) → Ans) (t : TypeId) (x y : Value) (k : Bool → Ans) : Ans := T.ty t (fun d => match d.desc, x, y with
    | .struct fs, .agg xs, .agg ys => iteB d.flat (.no 164) (eqFs T xs.toList ys.toList ih fs.toList k)
    | .int _, .int j a, .int j' b => iteB (eqK j j') (.no 160) (forceB (eqI a b) k)
    | .string, .string a, .string b => forceB (eqBytes a.data.toList b.data.toList) k
    | _, x, y => eqV0 T t x y k)
def eqV1 (T : Tab) (n : Nat) : TypeId → Value → Value → (Bool → Ans) → Ans :=
  Nat.rec (motive := fun _ => TypeId → Value → Value → (Bool → Ans) → Ans) (fun _ _ _ _ => .no 163) (fun _ ih => eqStep T ih) n
def eqV (T : Tab) (t : TypeId) (x y : Value) (k : Bool → Ans) : Ans := eqV1 T 20 t x y k
def isConst (x : Operand) : Bool := match x with | .const _ => true | _ => false
def eqOp (T : Tab) (op : BinOp) (t : TypeId) (x y : Value) (c : Value → Ans) : Ans := match op with
  | .eql => eqV T t x y (fun b => boolV b c)
  | .neq => eqV T t x y (fun b => boolV (not b) c)
  | _ => .no 48
def binF (T : Tab) (op : BinOp) (t : TypeId) (nils : Bool) (x y : Value) (c : Value → Ans) : Ans := match x, y with
  | .int k a, .int k' b => iteB (eqK k k') (match op with | .shl => genF2 .shl k k' a b c | .shr => genF2 .shr k k' a b c | _ => .no 49) (intF op k a b c)
  | .string a, .string b => strF op a b c
  | .nilIface, .nilIface => iteB nils (.no 50) (eqOp T op t .nilIface .nilIface c)
  | x, y => eqOp T op t x y c
where
  genF2 (op : BinOp) (k k' : IntKind) (a b : Int) (c : Value → Ans) : Ans := pureK (Go.binOp op 0 (.int k a) (.int k' b)) c

/-! the operations -/
def mvOp (x : Operand) (T : Tab) (call : CallF) (env : L2) (m : Mem) (k : K) : Ans := evalO x env (fun v => k v m)
def pickOp (x a b : Operand) (T : Tab) (call : CallF) (env : L2) (m : Mem) (k : K) : Ans :=
  evalO x env (fun v => asBool v (fun c => iteB c (evalO b env (fun v => k v m)) (evalO a env (fun v => k v m))))
def allocOp (t : TypeId) (T : Tab) (call : CallF) (env : L2) (m : Mem) (k : K) : Ans :=
  T.ty t (fun d => withO 61 d.zero (fun z => iteB ((cellsL z).all groundB) (.no 62) (newVar m t (cellsL z) k)))
def boxOp (t : TypeId) (x : Operand) (T : Tab) (call : CallF) (env : L2) (m : Mem) (k : K) : Ans := evalO x env (fun v => newVar m t (cellsL v) k)
def fillK (l : List (Nat × Value)) : (Nat → (Nat → Nat → Ans) → Ans) → List Value → (List Value → Ans) → Ans :=
  List.rec (motive := fun _ => (Nat → (Nat → Nat → Ans) → Ans) → List Value → (List Value → Ans) → Ans) (fun _ cells k => k cells)
    (fun x _ ih place cells k => place x.1 (fun off size => iteB (and (Nat.beq (cellsL x.2).length size) (Nat.ble (Nat.add off (cellsL x.2).length) cells.length)) (.no 63)
      (layK off (cellsL x.2) cells (fun cells' => ih place cells' k)))) l
def placeF (T : Tab) (fs : List Field) (i : Nat) (f : Nat → Nat → Ans) : Ans := withO 64 (nth fs i) (fun g => T.ty g.type (fun dg => f g.offset dg.size))
def placeE (s : Nat) (i : Nat) (f : Nat → Nat → Ans) : Ans := forceN (Nat.mul i s) (fun o => f o s)
def buildOp (t : TypeId) (ps : Array (Nat × Operand)) (T : Tab) (call : CallF) (env : L2) (m : Mem) (k : K) : Ans :=
  evalP env ps.toList (fun vs => T.ty t (fun d => withO 65 d.zero (fun z => iteB ((cellsL z).all groundB) (.no 62)
    (asStruct d.desc (fun fs => fillK vs (placeF T fs) (cellsL z) (fun cs => k (.agg ⟨cs⟩) m))))))
def buildSliceOp (t : TypeId) (n : Nat) (ps : Array (Nat × Operand)) (T : Tab) (call : CallF) (env : L2) (m : Mem) (k : K) : Ans :=
  evalP env ps.toList (fun vs => T.ty t (fun d => asSliceT d.desc (fun e => T.ty e (fun de => withO 66 de.zero (fun z =>
    iteB (and (and (Nat.blt 0 de.size) (Nat.beq (cellsL z).length de.size)) (and ((cellsL z).all groundB) (Nat.ble (Nat.mul n de.size) 1000000))) (.no 67)
      (repK (cellsL z) n (fun zs => fillK vs (placeE de.size) zs (fun cs => newRow m e de.size n cs false (fun L m' => k (.slice (some ⟨L, 0, none⟩) n n) m')))))))))
def loadOp (t : TypeId) (x : Operand) (T : Tab) (call : CallF) (env : L2) (m : Mem) (k : K) : Ans := evalO x env (fun v => asPtr v (fun b o => loadVar T m t b o (fun v => k v m)))
def undefV : Value := .tuple ⟨[]⟩
def storeOp (t : TypeId) (x y : Operand) (T : Tab) (call : CallF) (env : L2) (m : Mem) (k : K) : Ans :=
  evalO x env (fun v => asPtr v (fun b o => evalO y env (fun v => storeVar T m t b o v (fun m' => k undefV m'))))
def nilOp (x : Operand) (T : Tab) (call : CallF) (env : L2) (m : Mem) (k : K) : Ans := evalO x env (fun v => asPtr v (fun b o => k (.pointer (some ⟨b, o, none⟩)) m))
def binOp' (op : BinOp) (t : TypeId) (x y : Operand) (_ : TypeId) (T : Tab) (call : CallF) (env : L2) (m : Mem) (k : K) : Ans :=
  evalO x env (fun a => evalO y env (fun b => binF T op t (or (isConst x) (isConst y)) a b (fun v => k v m)))
def unF (op : UnOp) (v : Value) (c : Value → Ans) : Ans := match op, v with
  | .not, .bool b => boolV (not b) c
  | op, .int j n => pureK (Op.unary op (.int j n)) c
  | _, _ => .no 68
def unOp' (op : UnOp) (_ : TypeId) (x : Operand) (T : Tab) (call : CallF) (env : L2) (m : Mem) (k : K) : Ans := evalO x env (fun v => unF op v (fun v => k v m))
def bytesK (l : List Value) : (List UInt8 → Ans) → Ans :=
  List.rec (motive := fun _ => (List UInt8 → Ans) → Ans) (fun k => k [])
    (fun v _ ih k => asInt v (fun j n => iteB (eqK j .u8) (.no 69) (ih (fun r => k (UInt8.ofNat n.toNat :: r))))) l
def convF (T : Tab) (ds dd : TypeDesc) (v : Value) (m : Mem) (c : Value → Ans) : Ans := match ds, dd, v with
  | _, .int j, .int _ n => wrapV j n c
  | _, .string, .string b => c (.string b)
  | _, .string, .int _ n => appK (Utf8.encode n).data.toList [] (fun l => c (.string ⟨⟨l⟩⟩))
  | .slice e, .string, .slice a len _ => T.ty e (fun de => match de.desc, a with
    | .int .u8, none => c (.string ⟨⟨[]⟩⟩)
    | .int .u8, some ⟨b, o, none⟩ => load m b o len (fun cs => bytesK cs (fun l => c (.string ⟨⟨l⟩⟩)))
    | _, _ => .no 70)
  | _, _, _ => .no 71
def convOp (s d : TypeId) (x : Operand) (T : Tab) (call : CallF) (env : L2) (m : Mem) (k : K) : Ans :=
  evalO x env (fun v => T.ty s (fun ds => T.ty d (fun dd => convF T ds.desc dd.desc v m (fun v => k v m))))
def isIface (d : TypeDesc) : Bool := match d with | .interface _ => true | _ => false
def ifaceOp (t : TypeId) (x : Operand) (T : Tab) (call : CallF) (env : L2) (m : Mem) (k : K) : Ans :=
  T.ty t (fun d => iteB (isIface d.desc) (evalO x env (fun v => k (.iface t v) m)) (.no 72))
def funcOp (fn : Fn) (first cap : Array Operand) (T : Tab) (call : CallF) (env : L2) (m : Mem) (k : K) : Ans :=
  evalL env first.toList (fun a => evalL env cap.toList (fun b => k (.func fn ⟨a⟩ ⟨b⟩) m))
def mapOp (t : TypeId) (r : Option Operand) (T : Tab) (call : CallF) (env : L2) (m : Mem) (k : K) : Ans :=
  Option.rec (motive := fun _ => Ans) (m.new (.map [] 0) (fun L m' => k (.map (some L)) m')) (fun x => .no 73) r
def makeSliceOp (t : TypeId) (l c : Operand) (T : Tab) (call : CallF) (env : L2) (m : Mem) (k : K) : Ans :=
  evalO l env (fun lv => evalO c env (fun cv => asInt lv (fun _ l => asInt cv (fun _ c => T.ty t (fun d => asSliceT d.desc (fun e => T.ty e (fun de => withO 74 de.zero (fun z =>
    iteB (and (and (and (not (ltI l 0)) (not (ltI c l))) (Nat.ble (Nat.add (Nat.mul c.toNat de.bytes) c.toNat) 1099511627776)) (and (and (Nat.blt 0 de.size) (Nat.beq (cellsL z).length de.size)) ((cellsL z).all groundB))) (.no 75)
      (forceN l.toNat (fun l => forceN c.toNat (fun c => repK (cellsL z) c (fun cs => newRow m e de.size c cs false (fun L m' => k (.slice (some ⟨L, 0, none⟩) l c) m')))))))))))))
def evalOO (env : L2) (x : Option Operand) (k : Option Value → Ans) : Ans := Option.rec (motive := fun _ => Ans) (k none) (fun x => evalO x env (fun v => k (some v))) x
def boundK (x : Option Value) (y dflt : Nat) (k : Nat → Ans) : Ans :=
  Option.rec (motive := fun _ => Ans) (k dflt) (fun v => asInt v (fun _ i => iteB (and (not (ltI i 0)) (Nat.ble i.toNat y)) (.no 76) (forceN i.toNat k))) x
def cutRow (T : Tab) (m : Mem) (e : TypeId) (a : Option Addr) (l h mm : Nat) (k : K) : Ans :=
  iteB (Nat.ble h mm) (.no 154) (T.ty e (fun de => forceN (Nat.sub h l) (fun len => forceN (Nat.sub mm l) (fun cap => match a with
    | none => k (.slice none len cap) m
    | some ⟨b, o, none⟩ => forceN (Nat.add o (Nat.mul l de.size)) (fun o' => iteB (and (Nat.beq mm l) (Nat.blt 0 l))
      (k (.slice (some ⟨b, o', none⟩) len cap) m)
      (m.new (.tail b o') (fun L m' => k (.slice (some ⟨L, 0, none⟩) 0 0) m')))
    | _ => .no 77))))
def sliceF (T : Tab) (d : TypeDesc) (v : Value) (lo hi mx : Option Value) (m : Mem) (k : K) : Ans := iteB mx.isSome (match d, v with
  | .string, .string s => boundK hi s.data.toList.length s.data.toList.length (fun h => boundK lo h 0 (fun l => dropK l s.data.toList (fun r => takeK (Nat.sub h l) r (fun r => k (.string ⟨⟨r⟩⟩) m))))
  | .slice e, .slice a len cap => boundK hi cap len (fun h => boundK lo h 0 (fun l => cutRow T m e a l h cap k))
  | _, _ => .no 81) (.no 79)
def sliceOp (t : TypeId) (x : Operand) (lo hi mx : Option Operand) (T : Tab) (call : CallF) (env : L2) (m : Mem) (k : K) : Ans :=
  evalO x env (fun v => evalOO env lo (fun lo => evalOO env hi (fun hi => evalOO env mx (fun mx => T.ty t (fun d => sliceF T d.desc v lo hi mx m k)))))
def fieldAddrOp (s : TypeId) (x : Operand) (f : Nat) (T : Tab) (call : CallF) (env : L2) (m : Mem) (k : K) : Ans :=
  T.ty s (fun d => asStruct d.desc (fun fs => withO 82 (nth fs f) (fun g => T.ty g.type (fun dg => iteB (Nat.beq dg.size 0)
    (evalO x env (fun v => asPtr v (fun b o => forceN (Nat.add o g.offset) (fun o' => k (.pointer (some ⟨b, o', none⟩)) m)))) (.no 83)))))
def fieldOp (t : TypeId) (x : Operand) (f : Nat) (T : Tab) (call : CallF) (env : L2) (m : Mem) (k : K) : Ans :=
  T.ty t (fun d => asStruct d.desc (fun fs => withO 84 (nth fs f) (fun g => evalO x env (fun v => asAgg v (fun cs => part T g.type cs g.offset (fun v => k v m))))))
def inB (i : Int) (n : Nat) : Bool := Int.rec (motive := fun _ => Bool) (fun i => Nat.blt i n) (fun _ => false) i
def atElem (T : Tab) (e : TypeId) (b o : Nat) (i : Int) (n : Nat) (m : Mem) (k : K) : Ans :=
  iteB (inB i n) (.no 85) (T.ty e (fun de => forceN (Nat.add o (Nat.mul i.toNat de.size)) (fun o' => k (.pointer (some ⟨b, o', none⟩)) m)))
def indexAddrOp (t : TypeId) (x i : Operand) (T : Tab) (call : CallF) (env : L2) (m : Mem) (k : K) : Ans :=
  evalO x env (fun v => evalO i env (fun iv => asInt iv (fun _ i => T.ty t (fun d => match d.desc, v with
    | .slice e, .slice (some ⟨b, o, none⟩) len _ => atElem T e b o i len m k
    | .array n e, .pointer (some ⟨b, o, none⟩) => atElem T e b o i n m k
    | _, _ => .no 86))))
def indexOp (t : TypeId) (x i : Operand) (T : Tab) (call : CallF) (env : L2) (m : Mem) (k : K) : Ans :=
  evalO x env (fun v => evalO i env (fun iv => asInt iv (fun _ i => T.ty t (fun d => match d.desc, v with
    | .array n e, .agg cs => iteB (inB i n) (.no 87) (T.ty e (fun de => forceN (Nat.mul i.toNat de.size) (fun o => part T e cs.toList o (fun v => k v m))))
    | .string, .string s => iteB (ltI i 0) (withO 88 (nth s.data.toList i.toNat) (fun b => forceN b.toNat (fun n => k (.int .u8 (Int.ofNat n)) m))) (.no 89)
    | _, _ => .no 90))))
/-- the entry at a key -/
def keyIs (a b : Value) : Option Bool := match a, b with
  | .int j x, .int j' y => bif eqK j j' then some (eqI x y) else none
  | .string x, .string y => some (eqBytes x.data.toList y.data.toList)
  | _, _ => none
def findE (k : Value) (l : List MapEntry) : Nat → (Option (Nat × Value) → Ans) → Ans :=
  List.rec (motive := fun _ => Nat → (Option (Nat × Value) → Ans) → Ans) (fun _ c => c none)
    (fun e _ ih i c => withO 91 (keyIs k e.key) (fun b => iteB b (ih (Nat.succ i) c) (c (some (i, e.val))))) l
def plainKey (d : TypeDesc) (v : Value) : Bool := match d, v with
  | .int j, .int j' _ => eqK j j'
  | .string, .string _ => true
  | _, _ => false
def mapOf (x : Value) (m : Mem) (f : List MapEntry → Ans) : Ans := match x with
  | .map none => f []
  | .map (some r) => m.bk r (fun b => asMapB b (fun es _ => f es))
  | _ => .no 92
def lookupOp (t : TypeId) (x i : Operand) (ok : Bool) (T : Tab) (call : CallF) (env : L2) (m : Mem) (k : K) : Ans :=
  evalO x env (fun x => evalO i env (fun key => T.ty t (fun d => asMapT d.desc (fun kt e => T.ty kt (fun dk => iteB (plainKey dk.desc key) (.no 93) (mapOf x m (fun es => findE key es 0 (fun r =>
    Option.rec (motive := fun _ => Ans) (T.ty e (fun de => withO 94 de.zero (fun z => iteB ((cellsL z).all groundB) (.no 62) (iteB ok (k z m) (k (.tuple ⟨[z, .bool false]⟩) m)))))
      (fun p => iteB ok (k p.2 m) (k (.tuple ⟨[p.2, .bool true]⟩) m)) r))))))))
def setE (l : List MapEntry) : Nat → Value → Value → (List MapEntry → Ans) → Ans :=
  List.rec (motive := fun _ => Nat → Value → Value → (List MapEntry → Ans) → Ans) (fun _ _ _ c => c [])
    (fun e r ih i key v c => Nat.rec (motive := fun _ => Ans) (c (⟨key, v, e.born⟩ :: r)) (fun j _ => ih j key v (fun r' => c (e :: r'))) i) l
def updateOp (t : TypeId) (x i y : Operand) (T : Tab) (call : CallF) (env : L2) (m : Mem) (k : K) : Ans :=
  evalO x env (fun x => evalO i env (fun key => evalO y env (fun v => T.ty t (fun d => asMapT d.desc (fun kt e => T.ty kt (fun dk => iteB (plainKey dk.desc key) (.no 95) (match x with
    | .map (some r) => m.bk r (fun b => asMapB b (fun es c => findE key es 0 (fun p =>
        Option.rec (motive := fun _ => Ans) (forceN (Nat.succ c) (fun c' => appK es [⟨key, v, c⟩] (fun es' => m.put r (.map es' c') (fun m' => k undefV m'))))
          (fun p => setE es p.1 key v (fun es' => m.put r (.map es' c) (fun m' => k undefV m'))) p)))
    | _ => .no 96)))))))
def rangeOp (t : TypeId) (x : Operand) (T : Tab) (call : CallF) (env : L2) (m : Mem) (k : K) : Ans :=
  evalO x env (fun v => T.ty t (fun d => match d.desc, v with
    | .string, .string s => m.new (.iter s 0) (fun L m' => k (.pointer (some ⟨L, 0, none⟩)) m')
    | .map _ _, .map none => m.new (.miter none 0 [] 0) (fun L m' => k (.pointer (some ⟨L, 0, none⟩)) m')
    | .map _ _, .map (some r) => m.bk r (fun b => asMapB b (fun _ c => m.new (.miter (some r) c [] c) (fun L m' => k (.pointer (some ⟨L, 0, none⟩)) m')))
    | _, _ => .no 97))
def nextF (b : Nat) (bk : Bk) (str : Bool) (m : Mem) (k : K) : Ans := match bk with
  | .iter s pos => iteB str (.no 98) (iteB (Nat.blt pos s.data.toList.length) (k (.tuple ⟨[.bool false]⟩) m)
      (forceN (Utf8.decode s pos).1 (fun c => forceN (Nat.add pos (Utf8.decode s pos).2) (fun p => m.put b (.iter s p) (fun m' => k (.tuple ⟨[.bool true, .int .i64 (Int.ofNat pos), .int .i32 (Int.ofNat c)]⟩) m')))))
  | .miter none _ _ _ => iteB str (k (.tuple ⟨[.bool false]⟩) m) (.no 99)
  | .miter (some r) since seen last => iteB str (m.bk r (fun bk => asMapB bk (fun es clock => match es, seen with
      | [], _ => k (.tuple ⟨[.bool false]⟩) m
      | [e], [] => iteB (Nat.blt e.born since) (.no 100) (m.put b (.miter (some r) since [e.born] clock) (fun m' => k (.tuple ⟨[.bool true, e.key, e.val]⟩) m'))
      | [e], [s] => iteB (and (Nat.beq e.born s) (Nat.blt e.born last)) (.no 101) (k (.tuple ⟨[.bool false]⟩) m)
      | _, _ => .no 102))) (.no 99)
  | _ => .no 103
def nextOp (it : Operand) (str : Bool) (T : Tab) (call : CallF) (env : L2) (m : Mem) (k : K) : Ans :=
  evalO it env (fun v => asPtr v (fun b o => iteB (Nat.beq o 0) (.no 104) (m.bk b (fun bk => nextF b bk str m k))))
def entryF (bk : Bk) (m : Mem) (k : K) : Ans := match bk with
  | .miter (some r) _ [s] last => m.bk r (fun bk => asMapB bk (fun es clock => match es with
      | [e] => iteB (and (Nat.beq clock last) (Nat.beq e.born s)) (.no 105) (k (.tuple ⟨[e.key, e.val]⟩) m)
      | _ => .no 106))
  | _ => .no 107
def entryOp (it : Operand) (T : Tab) (call : CallF) (env : L2) (m : Mem) (k : K) : Ans :=
  evalO it env (fun v => asPtr v (fun b o => iteB (Nat.beq o 0) (.no 104) (m.bk b (fun bk => entryF bk m k))))
def failT (ok : Bool) (d : TyR) (k : Value → Ans) : Ans := iteB ok (.no 108) (withO 109 d.zero (fun z => iteB ((cellsL z).all groundB) (.no 62) (k (.tuple ⟨[z, .bool false]⟩))))
def typeAssertOp (x : Operand) (_ asserted : TypeId) (ok : Bool) (T : Tab) (call : CallF) (env : L2) (m : Mem) (k : K) : Ans :=
  evalO x env (fun v => T.ty asserted (fun d => iteB (isIface d.desc) (match v with
    | .nilIface => failT ok d (fun v => k v m)
    | .iface t v => iteB (Nat.beq t asserted) (failT ok d (fun v => k v m)) (iteB ok (k v m) (k (.tuple ⟨[v, .bool true]⟩) m))
    | _ => .no 110) (.no 111)))
def extractOp (x : Operand) (i : Nat) (T : Tab) (call : CallF) (env : L2) (m : Mem) (k : K) : Ans :=
  evalO x env (fun v => asTup v (fun vs => withO 112 (nth vs i) (fun v => k v m)))
/-- what an append adds: how many elements, and their cells -/
def added (m : Mem) (s : Nat) (x : Value) (k : Nat → List Value → Ans) : Ans := match x with
  | .slice none n _ => Nat.rec (motive := fun _ => Ans) (k 0 []) (fun _ _ => .no 113) n
  | .slice (some ⟨b, o, none⟩) n _ => load m b o (Nat.mul n s) (fun cs => k n cs)
  | .string b => iteB (Nat.beq s 1) (.no 114) (k b.data.toList.length (b.data.toList.map fun (b : UInt8) => Value.int .u8 (Int.ofNat b.toNat)))
  | _ => .no 115
def isSeq (d : TypeDesc) : Bool := match d with | .slice _ => true | .string => true | _ => false
/-- appended to the end of a row -/
def tailK (m : Mem) (e : TypeId) (de : TyR) (b p q o len cap n : Nat) (new : List Value) (k : K) : Ans :=
  m.bk p (fun bk => asRow bk (fun _ es rn re _ => iteB (and (and (and (Nat.beq es de.size) (Nat.beq re e)) (and (Nat.beq o 0) (and (Nat.beq len 0) (Nat.beq cap 0)))) (and (Nat.ble q (Nat.mul rn es)) (and (not (new.any isBad)) (Nat.ble (Nat.add (Nat.mul n de.bytes) n) 4294967296)))) (.no 127)
    (m.kill p (fun m1 => m1.kill b (fun m2 => newRow m2 e es n new true (fun L m' => k (.slice (some ⟨L, 0, none⟩) n n) m'))))))
/-- appended to a slice that lies somewhere: n elements, whose cells are new -/
def growK (m : Mem) (e : TypeId) (de : TyR) (b o len cap n : Nat) (new : List Value) (k : K) : Ans :=
  m.bk b (fun bk => match bk with
    | .tail p q => tailK m e de b p q o len cap n new k
    | .row els es rn re opn => forceN (Nat.add len n) (fun need =>
    iteB (and (and (Nat.beq es de.size) (and (Nat.beq re e) (Nat.beq (Nat.mod o es) 0))) (and (not (new.any isBad)) (Nat.ble (Nat.add (Nat.mul need de.bytes) need) 4294967296))) (.no 116)
      (iteB (Nat.ble need cap)
        (iteB (Nat.ble (Nat.add o (Nat.mul cap es)) (Nat.mul rn es)) (.no 155) (load m b o (Nat.mul len es) (fun old => appK old new (fun all =>
          iteB opn (newRow m e es need all true (fun L m' => k (.slice (some ⟨L, 0, none⟩) need need) m'))
            (m.kill b (fun m1 => newRow m1 e es need all true (fun L m' => k (.slice (some ⟨L, 0, none⟩) need need) m')))))))
        (iteB (Nat.ble (Nat.add o (Nat.mul need es)) (Nat.mul rn es)) (.no 117)
          (scatter es n (Nat.add (Nat.div o es) len) new els (fun els' => m.put b (.row els' es rn re opn) (fun m' => k (.slice (some ⟨b, o, none⟩) need cap) m'))))))
    | _ => .no 156)
def appendK (T : Tab) (t x' : TypeId) (s x : Value) (m : Mem) (k : K) : Ans :=
  T.ty x' (fun dx => iteB (isSeq dx.desc) (.no 122) (T.ty t (fun d => asSliceT d.desc (fun e => T.ty e (fun de => withO 118 de.zero (fun z => iteB (and (Nat.blt 0 de.size) (Nat.beq (cellsL z).length de.size)) (.no 119) (added m de.size x (fun n new => match s with
    | .slice none 0 0 => Nat.rec (motive := fun _ => Ans) (k (.slice none 0 0) m)
      (fun _ _ => iteB (Nat.ble (Nat.add (Nat.mul n de.bytes) n) 4294967296) (.no 120) (newRow m e de.size n new true (fun L m' => k (.slice (some ⟨L, 0, none⟩) n n) m'))) n
    | .slice (some ⟨b, o, none⟩) len cap => Nat.rec (motive := fun _ => Ans) (iteB (Nat.ble len cap) (.no 157) (k (.slice (some ⟨b, o, none⟩) len cap) m)) (fun _ _ => growK m e de b o len cap n new k) n
    | _ => .no 121))))))))
def lenK (T : Tab) (t : TypeId) (x : Value) (m : Mem) (k : K) : Ans :=
  T.ty t (fun d => match d.desc, x with
    | .string, .string s => forceN s.data.toList.length (fun n => k (.int .i64 (Int.ofNat n)) m)
    | .slice _, .slice _ n _ => k (.int .i64 (Int.ofNat n)) m
    | .array n _, _ => k (.int .i64 (Int.ofNat n)) m
    | .map _ _, x => mapOf x m (fun es => forceN es.length (fun n => k (.int .i64 (Int.ofNat n)) m))
    | _, _ => .no 123)
def maxF (j : IntKind) (a b : Int) (c : Value → Ans) : Ans := iteB (ltI a b) (c (.int j a)) (c (.int j b))
def minF (j : IntKind) (a b : Int) (c : Value → Ans) : Ans := iteB (ltI b a) (c (.int j a)) (c (.int j b))
def mmK (f : IntKind → Int → Int → (Value → Ans) → Ans) (l : List Value) : Value → (Value → Ans) → Ans :=
  List.rec (motive := fun _ => Value → (Value → Ans) → Ans) (fun v c => c v) (fun y _ ih x c => asInt x (fun j a => asInt y (fun _ b => f j a b (fun v => ih v c)))) l
def builtinK (T : Tab) (b : Builtin) (ts : List TypeId) (args : List Value) (m : Mem) (k : K) : Ans := match b, ts, args with
  | .len, t :: _, x :: _ => lenK T t x m k
  | .append, [t, t'], [s, x] => appendK T t t' s x m k
  | .max, _, x :: xs => mmK maxF xs x (fun v => k v m)
  | .min, _, x :: xs => mmK minF xs x (fun v => k v m)
  | _, _, _ => .no 124
def callOp (c : Call) (T : Tab) (call : CallF) (env : L2) (m : Mem) (k : K) : Ans := match c.callee with
  | .builtin b => evalL env c.args.toList (fun args => builtinK T b c.argTypes.toList args m k)
  | .value f => evalO f env (fun v => asFn v (fun g a b => evalL env c.args.toList (fun args => appK args b (fun r => appK a r (fun args => call g args m k)))))
  | .invoke _ _ => .no 125
def noOp (T : Tab) (call : CallF) (env : L2) (m : Mem) (k : K) : Ans := .no 126
def opF (op : Op) : OpF :=
  Op.rec (motive := fun _ => OpF) mvOp mvOp pickOp allocOp boxOp buildOp buildSliceOp (fun _ _ _ _ => noOp) loadOp storeOp (fun _ => noOp) (fun _ => noOp) nilOp binOp' unOp' convOp
    (fun _ _ => noOp) ifaceOp funcOp mapOp (fun _ _ => noOp) makeSliceOp sliceOp fieldAddrOp fieldOp indexAddrOp indexOp lookupOp updateOp (fun _ _ _ => noOp) (fun _ _ _ _ => noOp)
    rangeOp nextOp entryOp typeAssertOp extractOp callOp (fun _ => noOp) (fun _ => noOp) (fun _ => noOp) (fun _ _ => noOp) (fun _ _ _ => noOp) (fun _ _ => noOp) op

/-! regions whose order is fixed -/
def putE (env : L2) (d : Option Tmp) (v : Value) (N : Nat) (k : L2 → Ans) : Ans := Option.rec (motive := fun _ => Ans) (k env) (fun d => iteB (Nat.blt d N) (.no 130) (setT env d v k)) d
/-- whether an operation is wanted: what its guard yielded -/
def wantK (all : List Oper) (env : L2) (g : Nat × Bool) (k : Bool → Ans) : Ans :=
  withO 131 (nth all g.1) (fun o => withO 132 o.dst (fun t => getT env t (fun v => match v with
    | .bool b => forceB (b == g.2) k
    | .tuple ⟨[]⟩ => k false
    | _ => .no 133)))
def stepF (o : Oper) (all : List Oper) (T : Tab) (call : CallF) (env : L2) (m : Mem) (k : L2 → Mem → Ans) : Ans :=
  Option.rec (motive := fun _ => Ans) (opF o.op T call env m (fun v m' => putE env o.dst v T.n (fun env' => k env' m')))
    (fun g => wantK all env g (fun w => iteB w (putE env o.dst undefV T.n (fun env' => k env' m)) (opF o.op T call env m (fun v m' => putE env o.dst v T.n (fun env' => k env' m'))))) o.guard
def opsF (l : List Oper) : List Oper → Tab → CallF → L2 → Mem → (L2 → Mem → Ans) → Ans :=
  List.rec (motive := fun _ => List Oper → Tab → CallF → L2 → Mem → (L2 → Mem → Ans) → Ans) (fun _ _ _ env m k => k env m)
    (fun o _ ih all T call env m k => stepF o all T call env m (fun env' m' => ih all T call env' m' k)) l

/-! regions that draw their order -/
/-- 0: it reads no memory, and makes at most a new block; 1: it reads; 3: any other -/
def clsOf (op : Op) : Nat := match op with
  | .move _ | .assign _ | .pick .. | .build .. | .binOp .. | .unOp .. | .makeInterface .. | .makeFunc .. | .field .. | .fieldAddr .. | .indexAddr .. | .index .. | .extract .. | .typeAssert .. | .nilCheck _ => 0
  | .alloc _ | .box .. | .buildSlice .. | .makeSlice .. | .makeMap .. | .slice .. => 0
  | .convert .. | .load .. | .lookup .. | .entry _ => 1
  | .call ⟨.builtin .len, _, _⟩ | .call ⟨.builtin .max, _, _⟩ | .call ⟨.builtin .min, _, _⟩ => 1
  | _ => 3
/-- of each operation those that it waits for, by others too, as bits -/
def masks (l : List Oper) (acc : List Nat) : List Nat :=
  List.rec (motive := fun _ => List Nat → List Nat) (fun acc => acc)
    (fun o _ ih acc => ih (acc ++ [o.after.toList.foldl (fun s e => bif Region.binds .any e then s ||| 2 ^ e.on ||| acc.getD e.on 0 else s) 0])) l acc
def hasB (mask i : Nat) : Bool := Nat.beq (Nat.land (Nat.shiftRight mask i) 1) 1
/-- the order in which a region is reckoned: what acts in its own order, each behind what it waits for; then the rest -/
def orderF (ms : List Nat) (hs : List Nat) : List Nat → List Nat :=
  List.rec (motive := fun _ => List Nat → List Nat) (fun todo => todo)
    (fun h _ ih todo => todo.filter (fun i => hasB (ms.getD h 0) i) ++ h :: ih (todo.filter (fun i => not (hasB (ms.getD h 0) i || Nat.beq i h)))) hs
def heavies (l : List Oper) : List Nat := (List.range l.length).filter (fun i => Nat.beq (match l[i]? with | some o => clsOf o.op | none => 0) 3)
def plan (l : List Oper) : List Nat := orderF (masks l []) (heavies l) (List.range l.length)
def tmpsOf (l : List Oper) (o : Oper) : List Tmp :=
  (o.op.operands.toList.filterMap fun | .tmp t => some t | _ => none) ++ (match o.guard with | some g => ((l[g.1]?).bind (·.dst)).toList | none => [])
/-- what is asked of a region that draws and of the order that it is reckoned in -/
def hasT (l : List Oper) (o : Oper) (d : Option Tmp) (b : Bool) : Bool := match d with
  | none => true
  | some t => or b (not ((tmpsOf l o).contains t))
def apartD (d d' : Option Tmp) : Bool := match d, d' with
  | some t, some u => not (Nat.beq t u)
  | _, _ => true
def ordB (l : List Oper) (ms : List Nat) (i j : Nat) (a b : Oper) : Bool :=
  and (and (and (not (Nat.beq i j)) (not (hasB (ms.getD i 0) j))) (or (not (Nat.beq (clsOf b.op) 3)) (hasB (ms.getD j 0) i)))
    (and (apartD a.dst b.dst) (and (hasT l a b.dst (hasB (ms.getD j 0) i)) (hasT l b a.dst (hasB (ms.getD j 0) i))))
def ordOk (l : List Oper) (ms : List Nat) (i j : Nat) : Bool := match l[i]?, l[j]? with
  | some a, some b => ordB l ms i j a b
  | _, _ => false
def pairsOk (l : List Oper) (ms : List Nat) (p : List Nat) : Bool :=
  List.rec (motive := fun _ => Bool) true (fun i rest ih => and (rest.all (ordOk l ms i)) ih) p
def waitOk (l : List Oper) (ms : List Nat) (N : List Nat) (j : Nat) : Bool := match l[j]? with
  | none => false
  | some o => and (not (hasB (ms.getD j 0) j)) (and (o.after.toList.all fun e => or (not (Region.binds .any e)) (and (Nat.blt e.on l.length) (hasB (ms.getD j 0) e.on)))
      (N.all fun i => or (not (hasB (ms.getD j 0) i)) (o.after.toList.any fun e => and (Region.binds .any e) (or (Nat.beq e.on i) (hasB (ms.getD e.on 0) i)))))
def planOk (l : List Oper) (p : List Nat) (ms : List Nat) : Bool :=
  and (pairsOk l ms p) (and ((List.range l.length).all fun i => p.contains i) ((List.range l.length).all (waitOk l ms (List.range l.length))))
/-- what was reckoned at an operation that reads: at which frame, what it yielded, and beside which of the acts it may come up -/
structure Rd where
  o : Oper
  env : L2
  v : Value
  un : List Nat
structure Act3 where
  i : Nat
  m0 : Mem
  m1 : Mem
def sameV (n : Nat) : Value → Value → Bool :=
  Nat.rec (motive := fun _ => Value → Value → Bool) (fun _ _ => false) (fun _ ih x y => match x, y with
    | .bool a, .bool b => a == b
    | .int j a, .int j' b => and (eqK j j') (eqI a b)
    | .string a, .string b => eqBytes a.data.toList b.data.toList
    | .pointer none, .pointer none => true
    | .pointer (some ⟨b, o, none⟩), .pointer (some ⟨b', o', none⟩) => and (Nat.beq b b') (Nat.beq o o')
    | .slice none n c, .slice none n' c' => and (Nat.beq n n') (Nat.beq c c')
    | .slice (some ⟨b, o, none⟩) n c, .slice (some ⟨b', o', none⟩) n' c' => and (and (Nat.beq b b') (Nat.beq o o')) (and (Nat.beq n n') (Nat.beq c c'))
    | .map none, .map none => true
    | .map (some a), .map (some b) => Nat.beq a b
    | .nilFunc, .nilFunc => true
    | .nilIface, .nilIface => true
    | .iface t v, .iface t' v' => and (Nat.beq t t') (ih v v')
    | .agg a, .agg b => and (Nat.beq a.toList.length b.toList.length) ((a.toList.zip b.toList).all fun p => ih p.1 p.2)
    | .tuple a, .tuple b => and (Nat.beq a.toList.length b.toList.length) ((a.toList.zip b.toList).all fun p => ih p.1 p.2)
    | _, _ => false) n
def sameAt (r : Rd) (T : Tab) (call : CallF) (m : Mem) (k : Ans) : Ans := opF r.o.op T call r.env m (fun v m' => iteB (and (sameV 20 r.v v) (Nat.beq m'.next m.next)) (.no 140) k)
def checkR (T : Tab) (call : CallF) (rs : List Rd) (hs : List Act3) (k : Ans) : Ans :=
  List.rec (motive := fun _ => Ans) k (fun r _ ih => List.rec (motive := fun _ => Ans) ih
    (fun h _ ih2 => iteB (r.un.contains h.i) ih2 (sameAt r T call h.m0 (sameAt r T call h.m1 ih2))) hs) rs
def unOf (l : List Oper) (ms : List Nat) (i : Nat) : List Nat := (heavies l).filter (fun h => not (hasB (ms.getD i 0) h || hasB (ms.getD h 0) i))
def drawF (all : List Oper) (ms : List Nat) (p : List Nat) : Tab → CallF → L2 → Mem → List Rd → List Act3 → (L2 → Mem → List Rd → List Act3 → Ans) → Ans :=
  List.rec (motive := fun _ => Tab → CallF → L2 → Mem → List Rd → List Act3 → (L2 → Mem → List Rd → List Act3 → Ans) → Ans) (fun _ _ env m rs hs k => k env m rs hs)
    (fun i _ ih T call env m rs hs k => withO 141 (nth all i) (fun o =>
      stepD o all T call env m (fun v env' m' => match clsOf o.op with
        | 1 => ih T call env' m' (match v with | some v => (match unOf all ms i with | [] => rs | un => ⟨o, env, v, un⟩ :: rs) | none => rs) hs k
        | 3 => ih T call env' m' rs (⟨i, m, m'⟩ :: hs) k
        | _ => ih T call env' m' rs hs k))) p
where
  stepD (o : Oper) (all : List Oper) (T : Tab) (call : CallF) (env : L2) (m : Mem) (k : Option Value → L2 → Mem → Ans) : Ans :=
    let go : Ans := opF o.op T call env m (fun v m' => putE env o.dst v T.n (fun env' => k (some v) env' m'))
    Option.rec (motive := fun _ => Ans) go (fun g => wantK all env g (fun w => iteB w (putE env o.dst undefV T.n (fun env' => k none env' m)) go)) o.guard

/-! code -/
def skipC (T : Tab) (call : CallF) (env : L2) (m : Mem) (kn : L2 → Mem → Ans) (kx : Nat → L2 → Mem → Ans) (kr : L2 → Mem → Ans) : Ans := kn env m
def regionC (id : Nat) (ops : Array Oper) (draw : Bool) (T : Tab) (call : CallF) (env : L2) (m : Mem) (kn : L2 → Mem → Ans) (kx : Nat → L2 → Mem → Ans) (kr : L2 → Mem → Ans) : Ans :=
  iteB draw (opsF ops.toList ops.toList T call env m kn)
    (iteB (planOk ops.toList (plan ops.toList) (masks ops.toList [])) (.no 142)
      (drawF ops.toList (masks ops.toList []) (plan ops.toList) T call env m [] [] (fun env' m' rs hs => checkR T call rs hs (kn env' m'))))
def seqC (_ _ : Code) (a b : CodeF) (T : Tab) (call : CallF) (env : L2) (m : Mem) (kn : L2 → Mem → Ans) (kx : Nat → L2 → Mem → Ans) (kr : L2 → Mem → Ans) : Ans :=
  a T call env m (fun env m => b T call env m kn kx kr) kx kr
def condC (c : Operand) (_ _ : Code) (a b : CodeF) (T : Tab) (call : CallF) (env : L2) (m : Mem) (kn : L2 → Mem → Ans) (kx : Nat → L2 → Mem → Ans) (kr : L2 → Mem → Ans) : Ans :=
  evalO c env (fun v => asBool v (fun c => iteB c (b T call env m kn kx kr) (a T call env m kn kx kr)))
def blockC (id : Nat) (_ : Code) (a : CodeF) (T : Tab) (call : CallF) (env : L2) (m : Mem) (kn : L2 → Mem → Ans) (kx : Nat → L2 → Mem → Ans) (kr : L2 → Mem → Ans) : Ans :=
  a T call env m kn (fun i env m => iteB (Nat.beq i id) (kx i env m) (kn env m)) kr
def loopC (_ : Code) (a : CodeF) (T : Tab) (call : CallF) (env : L2) (m : Mem) (kn : L2 → Mem → Ans) (kx : Nat → L2 → Mem → Ans) (kr : L2 → Mem → Ans) : Ans :=
  Nat.rec (motive := fun _ => L2 → Mem → Ans) (fun _ _ => .no 143) (fun _ ih env m => a T call env m ih kx kr) 1000000 env m
def exitC (id : Nat) (T : Tab) (call : CallF) (env : L2) (m : Mem) (kn : L2 → Mem → Ans) (kx : Nat → L2 → Mem → Ans) (kr : L2 → Mem → Ans) : Ans := kx id env m
def retC (T : Tab) (call : CallF) (env : L2) (m : Mem) (kn : L2 → Mem → Ans) (kx : Nat → L2 → Mem → Ans) (kr : L2 → Mem → Ans) : Ans := kr env m
def noC (T : Tab) (call : CallF) (env : L2) (m : Mem) (kn : L2 → Mem → Ans) (kx : Nat → L2 → Mem → Ans) (kr : L2 → Mem → Ans) : Ans := .no 144
def codeF (c : Code) : CodeF :=
  Code.rec (motive := fun _ => CodeF) skipC regionC seqC condC blockC loopC (fun _ _ _ _ _ _ => noC) exitC (fun _ _ => noC) (fun _ => skipC) (fun _ => noC) retC (fun _ => noC) c
def bindArgs (l : List Value) : Nat → L2 → (L2 → Ans) → Ans :=
  List.rec (motive := fun _ => Nat → L2 → (L2 → Ans) → Ans) (fun _ env k => k env) (fun v _ ih i env k => setT env i v (fun env' => ih (Nat.succ i) env' k)) l
def resultsK (T : Tab) (env : L2) (m : Mem) (l : List ResultVar) : (List Value → Ans) → Ans :=
  List.rec (motive := fun _ => (List Value → Ans) → Ans) (fun k => k [])
    (fun r _ ih k => ResultVar.rec (motive := fun _ => Ans) (fun t => getT env t (fun v => ih (fun vs => k (v :: vs))))
      (fun a t => getT env a (fun v => asPtr v (fun b o => loadVar T m t b o (fun v => ih (fun vs => k (v :: vs)))))) r) l
def retK (vs : List Value) (m : Mem) (k : K) : Ans := match vs with | [v] => k v m | vs => k (.tuple ⟨vs⟩) m
def bodyK (T : Tab) (call : CallF) (fn : Func) (body : Code) (args : List Value) (m : Mem) (k : K) : Ans :=
  bindArgs args 0 e2 (fun env => codeF body ⟨T.tys, T.fns, T.stub, fn.ntmps⟩ call env m (fun env m => resultsK T env m fn.results.toList (fun vs => retK vs m k)) (fun _ _ _ => .no 145)
    (fun env m => resultsK T env m fn.results.toList (fun vs => retK vs m k)))
def callStep (T : Tab) (call : CallF) (g : FuncId) (args : List Value) (m : Mem) (k : K) : Ans :=
  Option.rec (motive := fun _ => Ans) (PT.get 14 T.fns g (fun fn => withO 146 fn.body (fun body => bodyK T call fn body args m k))) (fun s => s args m k) (T.stub g)
def callF (T : Tab) (fuel : Nat) : CallF := Nat.rec (motive := fun _ => CallF) (fun _ _ _ _ => .no 147) (fun _ ih => callStep T ih) fuel
end
end Go.Proofs.YtpilmdfnbfcmkaaGreat.Ev
