/-
  The members of a record, made out of numbers (the statement's own fields).
-/
import Derived.Test.YteeojgepgjndgaaDoorCtypeW24
import Derived.Test.YteeojgepgjndgaaDoorCtypeW17
import Derived.Test.YteeojgepgjndgaaDoorCtypeLaw3
namespace Go.Proofs.YteeojgepgjndgaaDoor
open Go.RowKit
set_option linter.unusedVariables false
set_option linter.unusedSimpArgs false

/-- A row of numbers, where it lies. -/
structure Rw where
  sv : Value
  l : List Int
def rwC (r : Rw) : List Value := [r.sv]
/-- The rows of numbers of a record. -/
def RdRows (w : World) (s : Value) (rows : List Rw) : Prop := RdL rwC 1 w s rows ∧ ∀ r ∈ rows, RdL intC 1 w r.sv r.l ∧ ∀ x ∈ r.l, I64 x
theorem RdRows.next {w w' : World} {s : Value} {rows : List Rw} (h : RdRows w s rows) (hb : Below w.heap.size w w') : RdRows w' s rows :=
  ⟨h.1.next hb, fun r hr => ⟨(h.2 r hr).1.next hb, (h.2 r hr).2⟩⟩
/-- The k-th member: its name and its type. -/
def fE (names : List Int) (rows : List Rw) (k : Nat) : List UInt8 × Er := ([nameC (names.getD k 0)], oneE (rows.getD k ⟨.slice none 0 0, []⟩).l)
def fsE (names : List Int) (rows : List Rw) (k : Nat) : List (List UInt8 × Er) := (List.range k).map (fE names rows)
theorem fsE_succ (names : List Int) (rows : List Rw) (k : Nat) : fsE names rows (k + 1) = fsE names rows k ++ [fE names rows k] := by
  simp [fsE, List.range_succ]
/-- The members so far. -/
structure FldS (W0 wr : World) (names : List Int) (rows : List Rw) (out : List Fd) (A6 : Option Addr) (c6 k : Nat) : Prop where
  low : Below W0.heap.size W0 wr
  own : OwnL 59 fdC 8 W0.heap.size wr (.slice A6 k c6) out
  len : out.length = k
  spec : out.map erN = fsE names rows k
  off : ∀ f ∈ out, f.off = 77 ∧ f.name.size ≤ maxLen
  tys : ∀ f ∈ out, RdT wr f.ty
  ins : ∀ f ∈ out, InT (fun b => (W0.heap.size ≤ b ∧ b < wr.heap.size) ∧ some b ≠ (Value.slice A6 k c6).ownBlock) f.ty
theorem FldS.step {W0 wr w4 W5 w6 : World} {names : List Int} {rows : List Rw} {out : List Fd} {A6 A9 : Option Addr} {c6 c9 k : Nat} {f : Fd} {ob : Obj}
    (h : FldS W0 wr names rows out A6 c6 k) (h4 : Below wr.heap.size wr w4) (h5 : W5 = w4.alloc ob)
    (hrt : RdT w4 f.ty) (hit : InT (fun b => wr.heap.size ≤ b) f.ty) (hf : erN f = fE names rows k) (ho : f.off = 77 ∧ f.name.size ≤ maxLen)
    (hown : OwnL 59 fdC 8 W0.heap.size w6 (.slice A9 (k + 1) c9) (out ++ [f])) (hg : W5.grownBy w6 (Value.slice A6 k c6).ownBlock) (hB : Below W0.heap.size W5 w6)
    (hor : (Value.slice A9 (k + 1) c9).ownBlock = (Value.slice A6 k c6).ownBlock ∨ (Value.slice A9 (k + 1) c9).ownBlock = some W5.heap.size) :
    FldS W0 w6 names rows (out ++ [f]) A9 c9 (k + 1) := by
  subst h5
  have z1 := hB.size
  have z2 := h.low.size
  have z3 := h4.size
  simp only [World.size_alloc] at z1 hor
  have hkeep : ∀ b, b < w4.heap.size → some b ≠ (Value.slice A6 k c6).ownBlock → w6.heap[b]? = w4.heap[b]? := fun b hb hne => by
    rw [hg.block b (by simp only [World.size_alloc]; omega) hne, heap_alloc_old _ _ hb]
  refine ⟨?_, hown, by rw [List.length_append, h.len]; rfl, ?_, ?_, ?_, ?_⟩
  · exact h.low.trans ((h4.mono z2).trans (((Below.refl _ _).alloc (by omega) _).trans hB))
  · rw [List.map_append, h.spec, fsE_succ, List.map_cons, List.map_nil, hf]
  · intro g hg'
    rcases List.mem_append.1 hg' with hg' | hg'
    · exact h.off g hg'
    · simp at hg'; subst hg'; exact ho
  · intro g hg'
    rcases List.mem_append.1 hg' with hg' | hg'
    · exact (h.tys g hg').keepS (S := fun b => (W0.heap.size ≤ b ∧ b < wr.heap.size) ∧ some b ≠ (Value.slice A6 k c6).ownBlock) (fun b hb hlt => by
        rw [hkeep b (by omega) hb.2, h4.block b hlt]) _ (h.ins g hg')
    · simp at hg'; subst hg'
      exact hrt.keepS (S := fun b => wr.heap.size ≤ b) (fun b hb hlt => hkeep b hlt (fun e => by have := (h.own.lt e.symm).2; omega)) _ hit
  · intro g hg'
    rcases List.mem_append.1 hg' with hg' | hg'
    · refine InT.mono (fun b hb => ⟨⟨hb.1.1, by omega⟩, fun e => ?_⟩) _ (h.ins g hg')
      rcases hor with e2 | e2
      · exact hb.2 (e.trans e2)
      · rw [e2] at e; injection e with e; omega
    · simp at hg'; subst hg'
      refine InT.mono (fun b hb => ⟨⟨by omega, by omega⟩, fun e => ?_⟩) _ (hit.both _ hrt.blk)
      obtain ⟨hb1, hb2⟩ := hb
      rcases hor with e2 | e2
      · have := (h.own.lt (e.trans e2).symm).2; omega
      · rw [e2] at e; injection e with e; omega

/-- A record that is to be laid out, as the statement takes it. -/
structure Rc where
  name : Int
  union : Bool
  nsv : Value
  names : List Int
  tsv : Value
  rows : List Rw
  forget : Bool
def rcC (r : Rc) : List Value := [.int .i64 r.name, .bool r.union, r.nsv, r.tsv, .bool r.forget]
def RdRc (w : World) (r : Rc) : Prop := RdL intC 1 w r.nsv r.names ∧ RdRows w r.tsv r.rows ∧ r.rows.length ≤ 1048576
theorem RdRc.next {w w' : World} {r : Rc} (h : RdRc w r) (hb : Below w.heap.size w w') : RdRc w' r := ⟨h.1.next hb, h.2.1.next hb, h.2.2⟩
/-- What comes of it: members of the right names and types, each at 77. -/
def FieldsP (r : Rc) (w : World) (e : Ending) (w' : World) : Prop :=
  ∃ A c l, e = .returned (.slice A l.length c) ∧ RdFs w' (.slice A l.length c) l ∧ l.map erN = fsE r.names r.rows r.rows.length ∧ (∀ f ∈ l, f.off = 77 ∧ f.name.size ≤ maxLen) ∧ l.length = r.rows.length ∧ (∀ f ∈ l, InT (fun b => w.heap.size ≤ b ∧ b < w'.heap.size) f.ty) ∧ Below w.heap.size w w'

set_option maxRecDepth 100000 in
set_option maxHeartbeats 8000000 in
theorem fields_core (nm : Int) (un : Bool) (An At : Option Addr) (nn cn nt ct : Nat) (fg : Bool) (names : List Int) (rows : List Rw) (w : World)
    (h1 : RdL intC 1 w (.slice An nn cn) names) (h2 : RdRows w (.slice At nt ct) rows) (hlen : rows.length ≤ 1048576) :
    Calls Tryd.prog 35 #[.agg #[.int .i64 nm, .bool un, .slice An nn cn, .slice At nt ct, .bool fg]] w fun e w' => ∃ A c l, e = .returned (.slice A l.length c) ∧ RdFs w' (.slice A l.length c) l ∧ l.map erN = fsE names rows rows.length ∧ (∀ f ∈ l, f.off = 77 ∧ f.name.size ≤ maxLen) ∧ l.length = rows.length ∧ (∀ f ∈ l, InT (fun b => w.heap.size ≤ b ∧ b < w'.heap.size) f.ty) ∧ Below w.heap.size w w' := by
  obtain ⟨i0, hi0, hz0, hz1, hz2⟩ := info_parts fd_info
  have ml1 : names.length = nn := by obtain ⟨_, _, e, _⟩ := h1; injection e with _ e _; exact e.symm
  have ml2 : rows.length = nt := by obtain ⟨_, _, e, _⟩ := h2.1; injection e with _ e _; exact e.symm
  have bl1 := h1.len
  unfold maxLen at bl1
  subst ml1 ml2
  have H1 := Lib.hid h1
  have H2 := Lib.hid h2
  clear h1 h2
  obtain ⟨W0, hW0⟩ : ∃ W0, W0 = w.alloc (.cells #[.int .i64 nm, .bool un, .slice An names.length cn, .slice At rows.length ct, .bool fg] 53) := ⟨_, rfl⟩
  have hW0s : W0.heap.size = w.heap.size + 1 := by rw [hW0]; simp
  have hW0b : Below w.heap.size w W0 := by rw [hW0]; exact (Below.refl _ _).alloc (Nat.le_refl _) _
  have hW0c : W0.cell? ⟨w.heap.size, 2, none⟩ = some (.slice An names.length cn) := by rw [hW0]; simp [cell_alloc_if]
  have HW0 := Lib.hid hW0
  have HW0S := Lib.hid hW0s
  have HW0C := Lib.hid hW0c
  clear hW0 hW0s hW0c
  have hA1 := cell_alloc_if
  have hA2 := frozen_alloc_if
  have hA3 := cell_set_if
  go_enter Tryd.func35, Tryd.ntmps35
  go_wp2
  go_loopw [3, 10] (fun s i wr => ∃ (out : List Fd) (A6 : Option Addr) (c6 : Nat), out.length ≤ rows.length ∧ i = .int .i64 out.length ∧ s = .slice A6 out.length c6 ∧ Hid (FldS W0 wr names rows out A6 c6 out.length)) (fun _ i _ => rows.length - (intOf i).toNat)
  case atStart => exact ⟨[], none, 0, by simp, rfl, rfl, Lib.hid (by rw [HW0.out]; exact ⟨Below.refl _ _, OwnL.nil _ _ _ _ _, rfl, rfl, by simp, by simp, by simp⟩)⟩
  case round =>
    obtain ⟨out, A6, c6, hk, rfl, rfl, HS⟩ := hrel
    have hlow := HS.out.low
    have hlz := hlow.size
    have hwr : Below w.heap.size w wr := Below.trans hW0b (hlow.mono hW0b.size)
    have hwz := hwr.size
    have g2 := (hlow.cell (p := ⟨w.heap.size, 2, none⟩) (by rw [HW0S.out]; exact Nat.lt_succ_self _)).trans HW0C.out
    rw [HW0S.out] at hlz
    by_cases hlt : out.length < rows.length
    · obtain ⟨r, e1⟩ : ∃ r, rows[out.length]? = some r := ⟨_, List.getElem?_eq_getElem hlt⟩
      obtain ⟨bt, ot, ct', et, _, _, hlt3, hct⟩ := H2.out.1.some_ (by omega)
      injection et with et0 et1 et2
      subst et0
      have p1 := (hwr.cell (p := ⟨bt, _, none⟩) hlt3).trans (hct _ r e1 0 _ rfl)
      simp only [Nat.mul_one, Nat.add_zero] at p1
      have hrr := H2.out.2 r (List.mem_of_getElem? e1)
      have HRW : Hid (rows.getD out.length ⟨.slice none 0 0, []⟩ = r) := Lib.hid (by simp [List.getD, e1])
      obtain ⟨Ar, cr, er0⟩ := hrr.1.form
      rw [er0] at p1
      have HO : Hid (∀ W, Below wr.heap.size wr W → Calls Tryd.prog 11 #[.slice Ar r.l.length cr] W (OneP (oneE r.l) W)) := Lib.hid fun W hW => one_free r.l Ar _ cr W hrr.2 (er0 ▸ (hrr.1.next hwr).next hW)
      clear et1 et2 hct e1 hrr er0
      by_cases hn : out.length < names.length
      · obtain ⟨v, ev⟩ : ∃ v, names[out.length]? = some v := ⟨_, List.getElem?_eq_getElem hn⟩
        have HNM : Hid (names.getD out.length 0 = v) := Lib.hid (by simp [List.getD, ev])
        obtain ⟨bn, on, cn', en, _, _, hlt4, hcn⟩ := H1.out.some_ (by omega)
        injection en with en0 en1 en2
        subst en0
        have p2 := (hwr.cell (p := ⟨bn, _, none⟩) hlt4).trans (hcn _ v ev 0 _ rfl)
        simp only [Nat.mul_one, Nat.add_zero] at p2
        clear en1 en2 hcn ev hlow
        go_wp2_with (first
          | (go_at_call 15; (with_reducible refine (name_any _ _).mono ?_); rintro e w' ⟨rfl, rfl⟩)
          | (go_at_call 11; (with_reducible refine (HO.out _ (by (repeat' (first | (with_reducible exact Below.refl _ _) | (with_reducible assumption) | (with_reducible refine Below.setCell ?_ ?_ _) | (with_reducible refine Below.alloc ?_ ?_ _) | (with_reducible refine Below.drew ?_) | (with_reducible refine below_drewN ?_ _) | (with_reducible refine below_next ?_ (by with_reducible assumption)) | omega | (dsimp only; omega) | (simp only [World.size_alloc, World.size_setCell, World.size_drew, World.heap_drewN]; omega))))).mono ?_); rintro e w4 ⟨t, rfl, het, hrt, hit, hb4⟩; obtain ⟨k1, s1, l1, f1, n1, A1, m1, c1, e1⟩ := tyC_form t hrt; rw [tyV_of e1]; have E1 := Lib.hid e1; have HT1 := Lib.hid hrt; have ET1 := Lib.hid het; have IT1 := Lib.hid hit; have HB4 := Lib.hid hb4; have hz4 := hb4.size; (try simp only [World.size_alloc, World.size_setCell, World.size_drew, World.heap_drewN] at hz4); clear e1 hrt hit het)
          | (at_builtin; refine wpList_app (e := 59) (f := fdC) rfl _ _ 34 rfl W0.heap.size i0 _ 96 Tryd.underlying34 hi0 hz0 hz1 hz2 rfl (by decide) fdC_len (.slice A6 out.length c6) out rfl ?c0 _ 1 _ [⟨nameB v, t, 77⟩] rfl ?c1 ?c2 (by decide) ?c3 ?c4 ?_))
        case c0 =>
          refine HS.out.own.keep fun b hb => ?_
          have h1 := (HS.out.own.lt hb).2
          rw [heap_alloc_old _ _ (by omega), HB4.out.block b h1]
        case c1 => exact RdL.oneFd (f := ⟨nameB v, t, 77⟩) (T := 59) E1.out (heap_alloc_new _ _)
        case c2 => intro a ha u hu; simp at ha; subst ha; exact fdC_one (f := ⟨nameB v, t, 77⟩) HT1.out u hu
        case c3 => simp; omega
        case c4 => simp; have := HW0S.out; omega
        intro A9 c9 w6 hown hg hB hor
        have HS2 : Hid (FldS W0 w6 names rows (out ++ [⟨nameB v, t, 77⟩]) A9 c9 (out.length + 1)) := Lib.hid (by
          refine FldS.step (HS.out) HB4.out rfl HT1.out IT1.out ?_ ⟨rfl, by rw [show (nameB v).size = 1 from rfl]; decide⟩ hown hg hB (by simpa using hor)
          simp only [erN, fE, nameB_toList, ET1.out, HNM.out, HRW.out])
        clear hown hg hB hor HB4
        go_wp2
        go_roundw
        case rel => exact ⟨out ++ [⟨nameB v, t, 77⟩], A9, c9, by simp; omega, by simp, by simp, Lib.hid (by simpa using HS2.out)⟩
        case measure => simp [intOf]; omega
      · have HNM : Hid (names.getD out.length 0 = 0) := Lib.hid (by simp [List.getD, List.getElem?_eq_none (Nat.le_of_not_lt hn)])
        clear hlow
        go_wp2_with (first
          | (go_at_call 15; (with_reducible refine (name_any _ _).mono ?_); rintro e w' ⟨rfl, rfl⟩)
          | (go_at_call 11; (with_reducible refine (HO.out _ (by (repeat' (first | (with_reducible exact Below.refl _ _) | (with_reducible assumption) | (with_reducible refine Below.setCell ?_ ?_ _) | (with_reducible refine Below.alloc ?_ ?_ _) | (with_reducible refine Below.drew ?_) | (with_reducible refine below_drewN ?_ _) | (with_reducible refine below_next ?_ (by with_reducible assumption)) | omega | (dsimp only; omega) | (simp only [World.size_alloc, World.size_setCell, World.size_drew, World.heap_drewN]; omega))))).mono ?_); rintro e w4 ⟨t, rfl, het, hrt, hit, hb4⟩; obtain ⟨k1, s1, l1, f1, n1, A1, m1, c1, e1⟩ := tyC_form t hrt; rw [tyV_of e1]; have E1 := Lib.hid e1; have HT1 := Lib.hid hrt; have ET1 := Lib.hid het; have IT1 := Lib.hid hit; have HB4 := Lib.hid hb4; have hz4 := hb4.size; (try simp only [World.size_alloc, World.size_setCell, World.size_drew, World.heap_drewN] at hz4); clear e1 hrt hit het)
          | (at_builtin; refine wpList_app (e := 59) (f := fdC) rfl _ _ 34 rfl W0.heap.size i0 _ 96 Tryd.underlying34 hi0 hz0 hz1 hz2 rfl (by decide) fdC_len (.slice A6 out.length c6) out rfl ?c0 _ 1 _ [⟨nameB 0, t, 77⟩] rfl ?c1 ?c2 (by decide) ?c3 ?c4 ?_))
        case c0 =>
          refine HS.out.own.keep fun b hb => ?_
          have h1 := (HS.out.own.lt hb).2
          rw [heap_alloc_old _ _ (by omega), HB4.out.block b h1]
        case c1 => exact RdL.oneFd (f := ⟨nameB 0, t, 77⟩) (T := 59) E1.out (heap_alloc_new _ _)
        case c2 => intro a ha u hu; simp at ha; subst ha; exact fdC_one (f := ⟨nameB 0, t, 77⟩) HT1.out u hu
        case c3 => simp; omega
        case c4 => simp; have := HW0S.out; omega
        intro A9 c9 w6 hown hg hB hor
        have HS2 : Hid (FldS W0 w6 names rows (out ++ [⟨nameB 0, t, 77⟩]) A9 c9 (out.length + 1)) := Lib.hid (by
          refine FldS.step (HS.out) HB4.out rfl HT1.out IT1.out ?_ ⟨rfl, by rw [show (nameB 0).size = 1 from rfl]; decide⟩ hown hg hB (by simpa using hor)
          simp only [erN, fE, nameB_toList, ET1.out, HNM.out, HRW.out])
        clear hown hg hB hor HB4
        go_wp2
        go_roundw
        case rel => exact ⟨out ++ [⟨nameB 0, t, 77⟩], A9, c9, by simp; omega, by simp, by simp, Lib.hid (by simpa using HS2.out)⟩
        case measure => simp [intOf]; omega
    · have hkn : out.length = rows.length := by omega
      have HKN := Lib.hid hkn
      clear hkn
      go_wp2
      ((try simp only [Exit.inBlock, Exit.then]); go_light; refine bodyPost_ret (by simp [results, Tryd.results35, go_sem, *, ↓IntWalk.iteOmega]; try rfl) rfl ?_)
      refine ⟨A6, c6, out, rfl, ⟨HS.out.own.rdl fdC_len, HS.out.tys⟩, by rw [HS.out.spec, HKN.out], HS.out.off, HKN.out, fun f hf => InT.mono (fun b hb => by (have h1 := hb.1.1; rw [HW0S.out] at h1; exact ⟨by omega, hb.1.2⟩)) _ (HS.out.ins f hf), by (repeat' (first | (with_reducible exact Below.refl _ _) | (with_reducible assumption) | (with_reducible refine Below.setCell ?_ ?_ _) | (with_reducible refine Below.alloc ?_ ?_ _) | (with_reducible refine Below.drew ?_) | (with_reducible refine below_drewN ?_ _) | (with_reducible refine below_next ?_ (by with_reducible assumption)) | omega | (dsimp only; omega) | (simp only [World.size_alloc, World.size_setCell, World.size_drew, World.heap_drewN]; omega)))⟩
theorem fields_any (r : Rc) (An At : Option Addr) (nn cn nt ct : Nat) (w : World) (en : r.nsv = .slice An nn cn) (et : r.tsv = .slice At nt ct) (h : RdRc w r) :
    Calls Tryd.prog 35 #[.agg #[.int .i64 r.name, .bool r.union, .slice An nn cn, .slice At nt ct, .bool r.forget]] w (FieldsP r w) := by
  obtain ⟨h1, h2, h3⟩ := h
  rw [en] at h1
  rw [et] at h2
  exact fields_core _ _ _ _ _ _ _ _ _ _ _ w h1 h2 h3
end Go.Proofs.YteeojgepgjndgaaDoor
