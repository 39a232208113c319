/-
  The source's types as trees; what layer 5 (ctype) computes, in plain words; no program in sight.
-/
import Derived.Test.YteeojgepgjndgaaDoorMachDefs
import Derived.Test.YteeojgepgjndgaaDoorSlices
import Derived.Lib.ItoaNum
namespace Go.Proofs.YteeojgepgjndgaaDoor
open Go.RowKit
set_option linter.unusedVariables false

/-- A type as it lies in memory: where a type is made of others, the slice of these stands with it. -/
inductive Ty where
  | none | void | flt
  | num (s : Int) (u : Bool)
  | rcd (u : Bool) (n : ByteArray)
  | ptr (sv : Value) (t : Ty)
  | arr (sv : Value) (n : Int) (t : Ty)
  | fn (sv : Value) (r : Ty) (ps : List Ty)

/-- A type, wherever it lies. -/
inductive Er where
  | none | void | flt
  | num (s : Int) (u : Bool)
  | rcd (u : Bool) (n : List UInt8)
  | ptr (t : Er)
  | arr (n : Int) (t : Er)
  | fn (r : Er) (ps : List Er)

def tyMk (k s l : Int) (f : Bool) (n : ByteArray) (sv : Value) : List Value := [.int .i64 k, .int .i64 s, .int .i64 l, .bool f, .string n, sv]
/-- The six cells of a type. -/
def tyC : Ty → List Value
  | .none => tyMk 0 0 0 false ⟨#[]⟩ (.slice none 0 0)
  | .void => tyMk 1 0 0 false ⟨#[]⟩ (.slice none 0 0)
  | .num s u => tyMk 2 s 0 u ⟨#[]⟩ (.slice none 0 0)
  | .flt => tyMk 3 0 0 false ⟨#[]⟩ (.slice none 0 0)
  | .ptr sv _ => tyMk 4 0 0 false ⟨#[]⟩ sv
  | .arr sv n _ => tyMk 5 0 n false ⟨#[]⟩ sv
  | .rcd u n => tyMk 6 0 0 u n (.slice none 0 0)
  | .fn sv _ _ => tyMk 7 0 0 false ⟨#[]⟩ sv
def tyV (t : Ty) : Value := .agg (tyC t).toArray

mutual
/-- The types that a type is made of lie where its slice says. -/
def RdT (w : World) : Ty → Prop
  | .ptr sv t => RdL tyC 6 w sv [t] ∧ RdT w t
  | .arr sv _ t => RdL tyC 6 w sv [t] ∧ RdT w t
  | .fn sv r ps => RdL tyC 6 w sv (r :: ps) ∧ RdT w r ∧ RdTs w ps
  | _ => True
def RdTs (w : World) : List Ty → Prop
  | [] => True
  | t :: l => RdT w t ∧ RdTs w l
end

mutual
theorem RdT.next {w w' : World} (hb : Below w.heap.size w w') : ∀ (t : Ty), RdT w t → RdT w' t
  | .none, _ | .void, _ | .flt, _ | .num _ _, _ | .rcd _ _, _ => by simp [RdT]
  | .ptr sv t, h => by simp only [RdT] at h ⊢; exact ⟨h.1.next hb, RdT.next hb t h.2⟩
  | .arr sv n t, h => by simp only [RdT] at h ⊢; exact ⟨h.1.next hb, RdT.next hb t h.2⟩
  | .fn sv r ps, h => by simp only [RdT] at h ⊢; exact ⟨h.1.next hb, RdT.next hb r h.2.1, RdTs.next hb ps h.2.2⟩
theorem RdTs.next {w w' : World} (hb : Below w.heap.size w w') : ∀ (l : List Ty), RdTs w l → RdTs w' l
  | [], _ => by simp [RdTs]
  | t :: l, h => by simp only [RdTs] at h ⊢; exact ⟨RdT.next hb t h.1, RdTs.next hb l h.2⟩
end
theorem RdTs.mem {w : World} : ∀ {l : List Ty}, RdTs w l → ∀ t ∈ l, RdT w t
  | t :: l, h, x, hx => by
    simp only [RdTs] at h
    rcases List.mem_cons.1 hx with rfl | hx
    · exact h.1
    · exact RdTs.mem h.2 x hx

mutual
def er : Ty → Er
  | .none => .none
  | .void => .void
  | .flt => .flt
  | .num s u => .num s u
  | .rcd u n => .rcd u n.toList
  | .ptr _ t => .ptr (er t)
  | .arr _ n t => .arr n (er t)
  | .fn _ r ps => .fn (er r) (ers ps)
def ers : List Ty → List Er
  | [] => []
  | t :: l => er t :: ers l
end
theorem ers_map : ∀ (l : List Ty), ers l = l.map er
  | [] => rfl
  | t :: l => by simp [ers, ers_map l]


def asc (s : String) : List UInt8 := s.toUTF8.data.toList
def isSz (s : Int) : Bool := s = 1 ∨ s = 2 ∨ s = 4 ∨ s = 8
def numName (s : Int) : List UInt8 := if s = 1 then [99, 104, 97, 114] else if s = 2 then [115, 104, 111, 114, 116] else if s = 4 then [105, 110, 116] else [108, 111, 110, 103]
/-- A number's type as it is written. -/
def numText (s : Int) (u : Bool) : List UInt8 :=
  if isSz s then (if u then [117, 110, 115, 105, 103, 110, 101, 100, 32] ++ numName s else numName s) else [63]
/-- Texts with ", " between. -/
def commas : List (List UInt8) → List UInt8
  | [] => []
  | [a] => a
  | a :: b :: l => a ++ [44, 32] ++ commas (b :: l)
mutual
def text : Er → List UInt8
  | .none => [63]
  | .void => [118, 111, 105, 100]
  | .flt => [100, 111, 117, 98, 108, 101]
  | .num s u => numText s u
  | .rcd u n => (if u then [117, 110, 105, 111, 110, 32] else [115, 116, 114, 117, 99, 116, 32]) ++ n
  | .ptr t => text t ++ [42]
  | .arr n t => text t ++ [91] ++ Lib.itoa n ++ [93]
  | .fn r ps => text r ++ [40] ++ commas (texts ps) ++ [41]
def texts : List Er → List (List UInt8)
  | [] => []
  | t :: l => text t :: texts l
end
mutual
def depth : Er → Nat
  | .none => 0
  | .ptr t => depth t + 1
  | .arr _ t => depth t + 1
  | .fn r ps => max (depth r) (depths ps) + 1
  | _ => 1
def depths : List Er → Nat
  | [] => 0
  | t :: l => max (depth t) (depths l)
end

def chunk : Ty → Int
  | .flt => 7
  | .ptr _ _ => 6
  | .num s u => if s = 1 then (if u then 2 else 1) else if s = 2 then (if u then 4 else 3) else if s = 4 then 5 else if s = 8 then 6 else 0
  | _ => 0
def kindT (t : Ty) : Int := if chunk t = 0 then 0 else if chunk t = 6 then 2 else if chunk t = 7 then 3 else 1
def promote : Ty → Ty
  | .num s u => if s = 1 ∨ s = 2 then .num 4 false else .num s u
  | t => t
/-- A number of one of the four sizes. -/
def numOf : Ty → Option (Int × Bool)
  | .num s u => if isSz s then some (s, u) else none
  | _ => none
def isF : Ty → Bool
  | .flt => true
  | _ => false
def isP : Ty → Bool
  | .ptr _ _ => true
  | _ => false
/-- The type in which an operation of two is done. -/
def common (a b : Ty) : Ty × Bool :=
  if !((isF a || (numOf (promote a)).isSome) && (isF b || (numOf (promote b)).isSome)) then (.none, false)
  else if isF a || isF b then (.flt, true)
  else match numOf (promote a), numOf (promote b) with
    | some (s, u), some (r, v) => if s > r ∨ s = r ∧ u = true then (.num s u, true) else (.num r v, true)
    | _, _ => (.none, false)
def narrow (s : Int) (u : Bool) : List Int := if s = 1 then [if u then 81 else 80] else if s = 2 then [if u then 83 else 82] else []
def fromF (s : Int) (u : Bool) : List Int := if s = 8 then [if u then 94 else 93] else if s = 4 then [if u then 92 else 91] else 91 :: narrow s u
def toF (s : Int) (u : Bool) : List Int := if s = 8 then [if u then 90 else 89] else if s = 4 then [if u then 88 else 87] else [87]
def numsOp (s : Int) (u : Bool) (r : Int) (v : Bool) : List Int :=
  if (s = r ∧ u = v) ∨ (s = 8 ∧ r = 8) then [] else if r = 8 then [if u then 85 else 84] else if s = 8 then 86 :: narrow r v else narrow r v
/-- The operations that turn a scalar into another one. -/
def opsT (a b : Ty) : List Int × Bool :=
  if (isP a && isP b) || (isF a && isF b) then ([], true)
  else match numOf a, numOf b with
    | some (s, u), some (r, v) => (numsOp s u r v, true)
    | some (s, u), none => if isF b then (toF s u, true) else ([], false)
    | none, some (r, v) => if isF a then (fromF r v, true) else ([], false)
    | none, none => ([], false)

/-- A record's member. -/
structure Fd where
  name : ByteArray
  ty : Ty
  off : Int
def fdC (f : Fd) : List Value := .string f.name :: tyC f.ty ++ [.int .i64 f.off]
/-- A record's layout. -/
structure Ly where
  name : ByteArray
  union : Bool
  sv : Value
  fields : List Fd
  size : Int
  align : Int
def lyC (l : Ly) : List Value := [.string l.name, .bool l.union, l.sv, .int .i64 l.size, .int .i64 l.align]
def RdFs (w : World) (s : Value) (l : List Fd) : Prop := RdL fdC 8 w s l ∧ ∀ f ∈ l, RdT w f.ty
def RdLs (w : World) (s : Value) (l : List Ly) : Prop := RdL lyC 5 w s l ∧ ∀ y ∈ l, RdFs w y.sv y.fields
theorem RdFs.next {w w' : World} {s : Value} {l : List Fd} (h : RdFs w s l) (hb : Below w.heap.size w w') : RdFs w' s l :=
  ⟨h.1.next hb, fun f hf => (h.2 f hf).next hb⟩
theorem RdLs.next {w w' : World} {s : Value} {l : List Ly} (h : RdLs w s l) (hb : Below w.heap.size w w') : RdLs w' s l :=
  ⟨h.1.next hb, fun f hf => (h.2 f hf).next hb⟩

/-- The layout of a name. -/
def find (K : List Ly) (n : List UInt8) : Option Ly := K.find? (fun l => l.name.toList == n)
/-- A complete type's size and alignment. -/
def complete (K : List Ly) : Ty → Option (Int × Int)
  | .flt => some (8, 8)
  | .ptr _ _ => some (8, 8)
  | .num s _ => if isSz s then some (s, s) else none
  | .rcd u n => match find K n.toList with
    | some l => if l.union = u then some (l.size, l.align) else none
    | none => none
  | .arr _ n t => match complete K t with
    | some (s, a) => if 0 < n ∧ (s ≤ 0 ∨ n ≤ 1048576 / s) then some (s * n, a) else none
    | none => none
  | _ => none
def upTo (n a : Int) : Int := if a < 2 then n else (n + a - 1) / a * a
/-- The members so far: how long they are, the greatest alignment, where each stands; or where it goes wrong, and how. -/
def layGo (u : Bool) (K : List Ly) : List Fd → Nat → List (List UInt8) → Int → Int → List Fd → Except (Nat × Int) (Int × Int × List Fd)
  | [], _, _, e, a, out => .ok (e, a, out)
  | f :: l, i, seen, e, a, out =>
    if f.name.toList ∈ seen then .error (i, 4)
    else match complete K f.ty with
      | none => .error (i, 5)
      | some (s, b) =>
        let at_ := if u then 0 else upTo e b
        layGo u K l (i + 1) (f.name.toList :: seen) (min (max e (at_ + s)) 4194304) (max a b) (out ++ [⟨f.name, f.ty, at_⟩])

end Go.Proofs.YteeojgepgjndgaaDoor
