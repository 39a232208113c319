/-
  A slice of tokens of the call's own.
  The reference's Tokens.
-/
import Derived.Test.YteplbbjmbhgllaaGreatDoorLexM14
namespace Go.Proofs.YteplbbjmbhgllaaGreatDoor
open Go.RowKit
set_option linter.unusedVariables false
set_option linter.unusedSimpArgs false

def baB (l : List UInt8) : ByteArray := ⟨l.toArray⟩
theorem baB_data (s : ByteArray) : baB s.data.toList = s := by cases s; rfl
theorem baB_toList (l : List UInt8) : (baB l).data.toList = l := rfl
theorem baB_take (s : ByteArray) (k : Nat) : baB (s.data.toList.take k) = s.extract 0 k := ba_eq (by rw [baB_toList, take_data])
def tokC (t : Lx.Tok) : List Value := [.int .i64 (t.kind : Int), .int .i64 t.at_.1, .int .i64 t.at_.2, .string (baB t.text), .int .u64 (t.bits : Int), .string (baB t.data)]
theorem tokC_len (t : Lx.Tok) : (tokC t).length = 6 := rfl
theorem tokC_one (t : Lx.Tok) : ∀ u ∈ tokC t, u.oneCell' = true := by
  intro u hu
  simp [tokC] at hu
  rcases hu with rfl | rfl | rfl | rfl | rfl | rfl <;> rfl
abbrev OwnT (base : Nat) (w : World) (v : Value) (l : List Lx.Tok) : Prop := OwnL 32 tokC 6 base w v l
theorem tok_info0 : (Tryz.prog.info? 32).map (fun i => (i.zero.map (fun z => z.cells.size), i.size, i.bytes)) = some (some 6, 6, 64) := by kernel_rfl
theorem tok_info : ∃ (i : TypeInfo) (z : Value), (Tryz.prog).info? 32 = some i ∧ i.zero = some z ∧ i.size = 6 ∧ i.bytes = 64 ∧ z.cells.size = 6 := by
  have h := tok_info0
  cases hi : Tryz.prog.info? 32 with
  | none => rw [hi] at h; cases h
  | some i =>
    rw [hi] at h
    simp only [Option.map_some, Option.some.injEq, Prod.mk.injEq] at h
    cases hz : i.zero with
    | none => rw [hz] at h; simp at h
    | some z =>
      rw [hz] at h
      simp at h
      exact ⟨i, z, rfl, hz, h.2.1, h.2.2, h.1⟩
theorem RdL.oneT {w : World} {b : Nat} {t : Lx.Tok} {T : TypeId} (h : w.heap[b]? = some (.cells (tokC t).toArray T (0, 0))) : RdL tokC 6 w (.slice (some ⟨b, 0, none⟩) 1 1) [t] := by
  have hx := (cells_of_block h).1
  refine ⟨_, _, rfl, Nat.le_refl _, by decide, fun _ => ⟨b, 0, rfl, (Array.getElem?_eq_some_iff.1 h).1, fun i a ha j v hv => ?_⟩⟩
  cases i with
  | succ i => simp at ha
  | zero =>
    simp at ha; subst ha
    rw [Nat.zero_mul, Nat.zero_add, hx]
    simpa using hv
theorem drop_data (r : ByteArray) (k : Nat) : (r.extract k r.size).data.toList = r.data.toList.drop k := by
  rw [Lib.extract_data, List.take_of_length_le (by rw [List.length_drop, szl]; exact Nat.le_refl _)]
theorem drop_size (r : ByteArray) (k : Nat) : (r.extract k r.size).size = r.size - k := by rw [← szl, drop_data, List.length_drop, szl]
theorem heap_alloc_at (w : World) (o : Obj) {b : Nat} (h : b = w.heap.size) : (w.alloc o).heap[b]? = some o := by subst h; exact heap_alloc_new w o
/-- What all tokens are answered as. -/
def TksP (r : Except (Nat × Lx.Pl) (List Lx.Tok)) (base : Nat) (e : Ending) (w' : World) : Prop := match r with
  | .ok ts => ∃ v, OwnT base w' v ts ∧ e = .returned (.tuple #[v, plV (0, 0), .int .i64 0])
  | .error (k, p) => e = .returned (.tuple #[.slice none 0 0, plV p, .int .i64 (k : Int)])
theorem PlaceOk.mono {n m : Nat} {p : Lx.Pl} (h : PlaceOk n p) (hm : n ≤ m) : PlaceOk m p := by
  obtain ⟨h1, h2, h3, h4⟩ := h
  exact ⟨h1, by omega, h3, by omega⟩
theorem spoilt_le {L : List UInt8} {k : Nat} : ∀ (n : Nat) (i : Nat), L.length - i ≤ n → Lx.spoA L i = some k → k < L.length
  | n, i, hn, h => by
    by_cases hi : i < L.length
    · rw [Lx.spoA_step hi] at h
      have hk := (Lx.decodeL_len (Lx.drop_ne hi)).1
      split at h
      · injection h with h; omega
      · match n with
        | 0 => omega
        | n + 1 => exact spoilt_le n _ (by omega) h
    · rw [Lx.spoA_end (by omega)] at h; cases h
theorem tokenL_err {fl : Lx.Bs → Nat → Option Nat} {L : Lx.Bs} {k : Nat} (h : Lx.tokenL fl L = .error k) : k = 2 ∨ k = 7 := by
  unfold Lx.tokenL at h
  split at h
  · injection h with h; exact .inl h.symm
  · dsimp only at h
    repeat' split at h
    all_goals first | (cases h; done) | (injection h with h; exact .inl h.symm) | (injection h with h; exact .inr h.symm)
end Go.Proofs.YteplbbjmbhgllaaGreatDoor

namespace Go.Proofs.YteplbbjmbhgllaaGreatDoor
open Go.RowKit
set_option linter.unusedVariables false
set_option linter.unusedSimpArgs false

/-- What holds ahead of each token. -/
structure RTokS (base : Nat) (w0 : World) (r : ByteArray) (v : Value) (acc : List Lx.Tok) (p : Lx.Pl) (w : World) : Prop where
  own : OwnT (base + 2) w v acc
  res : w.heap[base]? = some (.cells #[.int .i64 0, .int .i64 0] 25 (0, 0))
  box : w.heap[base + 1]? = some (.cells #[.int .i64 p.1, .int .i64 p.2] 25 (0, 0))
  low : Below base w0 w
  val : Lx.Val r.data.toList
section
variable {base : Nat} {w0 w w' : World} {r : ByteArray} {v : Value} {acc : List Lx.Tok} {p : Lx.Pl}
theorem RTokS.lt (h : RTokS base w0 r v acc p w) : base + 1 < w.heap.size := (Array.getElem?_eq_some_iff.1 h.box).1
theorem RTokS.keep (h : RTokS base w0 r v acc p w) (hb : Below w.heap.size w w') : RTokS base w0 r v acc p w' :=
  ⟨h.own.next hb, (hb.block _ (by have := h.lt; omega)).trans h.res, (hb.block _ h.lt).trans h.box, h.low.trans (hb.mono (by have := h.lt; omega)), h.val⟩
end
set_option maxRecDepth 100000 in
set_option maxHeartbeats 8000000 in
theorem rtokens_any (s : ByteArray) (w : World) : Calls Tryz.prog 9 #[.string s] w fun e w' => TksP (Lx.tokensL Lx.flF s.data.toList) w.heap.size e w' ∧ Below w.heap.size w w' := by
  have hA1 := cell_alloc_if
  have hA2 := frozen_alloc_if
  have hA3 := cell_set_if
  by_cases c0 : 1048576 < s.size
  · have HR : Hid (Lx.tokensL Lx.flF s.data.toList = .error (1, (0, 0))) := Lib.hid (by unfold Lx.tokensL; rw [if_pos (by rw [szl]; exact c0)])
    go_enter Tryz.func9, Tryz.ntmps9
    go_wp2
    all_goals ((try simp only [Exit.inBlock, Exit.then]); go_light; refine bodyPost_ret (by simp [results, Tryz.results9, go_sem, *, ↓IntWalk.iteOmega]; try rfl) rfl ?_)
    all_goals exact ⟨by rw [HR.out]; unfold TksP plV; rfl, by (repeat' (first | (with_reducible exact Below.refl _ _) | (with_reducible assumption) | (with_reducible refine Below.setCell ?_ ?_ _) | (with_reducible refine Below.alloc ?_ ?_ _) | (with_reducible refine Below.drew ?_) | (with_reducible refine below_drewN ?_ _) | (with_reducible refine below_next ?_ (by with_reducible assumption)) | omega | (dsimp only; omega) | (simp only [World.size_alloc, World.size_setCell, World.size_drew, World.heap_drewN]; omega)))⟩
  · have hs1 : s.size ≤ 1048576 := by omega
    have HU := Lib.hid (fun W => rutf8_any s hs1 W)
    cases hsp : Lx.spoilt s.data.toList with
    | some k =>
      have hk := spoilt_le (L := s.data.toList) s.data.toList.length 0 (by omega) (by rw [← Lx.spoA_zero]; exact hsp)
      rw [szl] at hk
      have HR : Hid (Lx.tokensL Lx.flF s.data.toList = .error (1, Lx.moved (1, 1) (s.data.toList.take k))) := Lib.hid (by unfold Lx.tokensL; rw [if_neg (by rw [szl]; exact c0), hsp])
      have HM : Hid (∀ W, Calls Tryz.prog 21 #[.agg #[.int .i64 1, .int .i64 1], .string (s.extract 0 k)] W fun e w' => e = .returned (plV (Lx.moved (1, 1) (s.data.toList.take k))) ∧ Below W.heap.size W w') := Lib.hid fun W => by
        have := rmoved_any (1, 1) (s.extract 0 k) (by rw [take_size (by omega)]; omega) ⟨by decide, by decide, by decide, by decide⟩ W
        rw [take_data] at this
        exact this
      rw [hsp] at HU
      clear hsp
      generalize Lx.moved (1, 1) (s.data.toList.take k) = q at HR HM
      unfold plV at HM
      simp only [spoI] at HU
      go_enter Tryz.func9, Tryz.ntmps9
      go_wp2_with (go_at_call 20; (with_reducible refine (HU.out _).mono ?_); rintro e w' ⟨rfl, hbl⟩; obtain ⟨hc, hf, hz⟩ := cif hbl; (try simp only [World.size_alloc, World.size_setCell, World.size_drew, World.heap_drewN] at hz))
      refine wp_region_tail 6 (by intro c a d v w h; cases d <;> (simp [Exit.then, Exit.inBlock] at h ⊢; exact h)) (by kernel_rfl) (by kernel_rfl) (by kernel_rfl) (by kernel_rfl) ?_
      apply Exists.intro
      refine ⟨fun m hm => ?_, fun w' hw' => ?_⟩
      · simp only [List.map_cons, List.map_nil, List.take_succ_cons, List.take_zero, deAl]
        repeat (first | go_big_quiet_skip | (go_big_quiet_want; go_big_quiet_op; first | go_big_quiet_on | (apply Exists.intro; refine ⟨fun W hW => ?_, ?_⟩; (focus (first
          | (go_at_call 21; (with_reducible refine (HM.out _).mono ?_); rintro e w1 ⟨rfl, hb⟩; exact ⟨rfl, Ext.next hW hb⟩)
          | exact rfl | (obtain ⟨hcW, hfW, hzW⟩ := cif (Ext.of (Ext.past hm hW)); (try simp only [World.size_alloc, World.size_setCell, World.size_drew, World.heap_drewN] at hzW); simp [go_sem, *, ↓IntWalk.iteOmega]; (try exact rfl)))); go_big_quiet_on)))
        exact wpQuiet_nil rfl
      rw [show als _ 0 6 = [] from by kernel_rfl]
      simp only [gEnd, List.drop_succ_cons, List.drop_zero]
      have hbl := Ext.of hw'
      obtain ⟨hc, hf, hz⟩ := cif hbl
      (try simp only [World.size_alloc, World.size_setCell, World.size_drew, World.heap_drewN] at hz)
      clear hw'
      go_wp2
      all_goals ((try simp only [Exit.inBlock, Exit.then]); go_light; refine bodyPost_ret (by simp [results, Tryz.results9, go_sem, *, ↓IntWalk.iteOmega]; try rfl) rfl ?_)
      all_goals exact ⟨by rw [HR.out]; unfold TksP plV; rfl, by (repeat' (first | (with_reducible exact Below.refl _ _) | (with_reducible assumption) | (with_reducible refine Below.setCell ?_ ?_ _) | (with_reducible refine Below.alloc ?_ ?_ _) | (with_reducible refine Below.drew ?_) | (with_reducible refine below_drewN ?_ _) | (with_reducible refine below_next ?_ (by with_reducible assumption)) | omega | (dsimp only; omega) | (simp only [World.size_alloc, World.size_setCell, World.size_drew, World.heap_drewN]; omega)))⟩
    | none =>
      have HR : Hid (Lx.tokensL Lx.flF s.data.toList = Lx.tokA Lx.flF s.data.toList (1, 1) []) := Lib.hid (Lx.tokensL_A (by rw [szl]; omega) hsp)
      have HV : Hid (Lx.Val s.data.toList) := Lib.hid (Lx.spoilt_none.1 hsp)
      rw [hsp] at HU
      clear hsp
      simp only [spoI] at HU
      go_enter Tryz.func9, Tryz.ntmps9
      go_wp2_with (go_at_call 20; (with_reducible refine (HU.out _).mono ?_); rintro e w' ⟨rfl, hbl⟩; obtain ⟨hc, hf, hz⟩ := cif hbl; (try simp only [World.size_alloc, World.size_setCell, World.size_drew, World.heap_drewN] at hz))
      go_loopw [0, 7] (fun a0 a7 wr => ∃ (r : ByteArray) (v : Value) (acc : List Lx.Tok) (p : Lx.Pl), a0 = .string r ∧ v = a7 ∧ acc.length + r.size ≤ s.size ∧ Hid (RTokS w.heap.size w r v acc p wr) ∧ Hid (PlaceOk (1 + (s.size - r.size)) p) ∧ Hid (Lx.tokA Lx.flF s.data.toList (1, 1) [] = Lx.tokA Lx.flF r.data.toList p acc)) (fun a0 _ _ => szV a0)
      case atStart =>
        refine ⟨s, .slice none 0 0, [], (1, 1), rfl, rfl, by simp, Lib.hid ⟨OwnL.nil _ _ _ _ _, ?_, ?_, ?_, HV.out⟩, Lib.hid ⟨by decide, by dsimp only; omega, by decide, by dsimp only; omega⟩, Lib.hid rfl⟩
        · rw [hbl.block _ (by simp only [World.size_alloc]; omega), heap_alloc_old _ _ (by simp only [World.size_alloc]; omega), heap_alloc_new]
        · rw [hbl.block _ (by simp only [World.size_alloc]; omega)]
          have := heap_alloc_new (w.alloc (Obj.cells #[Value.int IntKind.i64 0, Value.int IntKind.i64 0] 25)) (Obj.cells #[Value.int IntKind.i64 1, Value.int IntKind.i64 1] 25)
          simpa using this
        · (repeat' (first | (with_reducible exact Below.refl _ _) | (with_reducible assumption) | (with_reducible refine Below.setCell ?_ ?_ _) | (with_reducible refine Below.alloc ?_ ?_ _) | (with_reducible refine Below.drew ?_) | (with_reducible refine below_drewN ?_ _) | (with_reducible refine below_next ?_ (by with_reducible assumption)) | omega | (dsimp only; omega) | (simp only [World.size_alloc, World.size_setCell, World.size_drew, World.heap_drewN]; omega)))
      case round =>
        obtain ⟨r, v, acc, p, rfl, rfl, hlen, HS, HP, HL⟩ := hrel
        obtain ⟨p1, p2⟩ := p
        have hp1 := HP.out.1
        have hp2 := HP.out.2.1
        have hp3 := HP.out.2.2.1
        have hp4 := HP.out.2.2.2
        dsimp only at hp1 hp2 hp3 hp4
        have hsr : r.size ≤ s.size := by omega
        by_cases h0 : 0 < r.size
        · have hd0 : decide ((0 : Int) < (r.size : Int)) = true := decide_eq_true (by omega)
          have hix0 := fun W => idx_s (P := Tryz.prog) 9 Tryz.underlying9 r .i64 0 0 rfl h0 W
          have hx := byteN_lt r.data.toList 0
          have hrl : 0 < r.data.toList.length := by rw [szl]; exact h0
          obtain ⟨x, ex⟩ : ∃ x, byteN r.data.toList 0 = x := ⟨_, rfl⟩
          rw [ex] at hix0 hx
          have EX := Lib.hid ex
          clear ex
          obtain ⟨W1, rfl⟩ : ∃ W1, W1 = wr := ⟨_, rfl⟩
          have hcr := cells_of_block (RTokS.res HS.out)
          have hr0 := hcr.1 0
          have hr1 := hcr.1 1
          have hrf := hcr.2
          have hcb := cells_of_block (RTokS.box HS.out)
          have hb0 := hcb.1 0
          have hb1 := hcb.1 1
          have hbf := hcb.2
          have hsz := RTokS.lt HS.out
          simp at hr0 hr1 hb0 hb1
          clear hcr hcb
          go_upto_region 9 with (fail)
          go_cut [44] from 27 to 43 (fun t wx => ∃ q : Bool, t = .bool q ∧ Hid (q = Lx.isBlank x) ∧ W1 = wx)
          case first =>
            clear HS HP HL hr0 hr1 hrf hb0 hb1 hbf
            by_cases c1 : x = 32
            · have d1 : ((x : Int) == 32) = true := by simp [c1]
              have EB : Hid (Lx.isBlank x = true) := Lib.hid (by rw [c1]; rfl)
              clear c1 EX
              go_wp2
              go_meet
              exact ⟨_, rfl, Lib.hid EB.out.symm, rfl⟩
            · have d1 : ((x : Int) == 32) = false := by simp; omega
              by_cases c2 : x = 9
              · have d2 : ((x : Int) == 9) = true := by simp [c2]
                have EB : Hid (Lx.isBlank x = true) := Lib.hid (by rw [c2]; rfl)
                clear c1 c2 EX
                go_wp2
                go_meet
                exact ⟨_, rfl, Lib.hid EB.out.symm, rfl⟩
              · have d2 : ((x : Int) == 9) = false := by simp; omega
                by_cases c3 : x = 13
                · have d3 : ((x : Int) == 13) = true := by simp [c3]
                  have EB : Hid (Lx.isBlank x = true) := Lib.hid (by rw [c3]; rfl)
                  clear c1 c2 c3 EX
                  go_wp2
                  go_meet
                  exact ⟨_, rfl, Lib.hid EB.out.symm, rfl⟩
                · have d3 : ((x : Int) == 13) = false := by simp; omega
                  have EB : Hid (Lx.isBlank x = ((x : Int) == 10)) := Lib.hid (by unfold Lx.isBlank; rw [Bool.eq_iff_iff]; simp; omega)
                  obtain ⟨d, hd⟩ : ∃ d, ((x : Int) == 10) = d := ⟨_, rfl⟩
                  rw [hd] at EB
                  clear c1 c2 c3 EX
                  cases d <;> (
                    go_wp2
                    go_meet
                    exact ⟨_, rfl, Lib.hid EB.out.symm, rfl⟩)
          case rest =>
            obtain ⟨q, rfl, HQ, rfl⟩ := hcut
            cases q with
            | true =>
              have hbk : Lx.isBlank (byteN r.data.toList 0) = true := by rw [EX.out]; exact HQ.out.symm
              have h128 : byteN r.data.toList 0 < 128 := by unfold Lx.isBlank at hbk; simp at hbk; omega
              have HN : Hid (Lx.tokA Lx.flF s.data.toList (1, 1) [] = Lx.tokA Lx.flF (r.extract 1 r.size).data.toList (Lx.moved (p1, p2) (r.data.toList.take 1)) acc) := Lib.hid (by
                rw [HL.out, Lx.tokA_blank hrl hbk, drop_data])
              have HV2 : Hid (Lx.Val (r.extract 1 r.size).data.toList) := Lib.hid (by
                rw [drop_data]
                have e := drop_byte (l := r.data.toList) (k := 0) hrl
                rw [List.drop_zero] at e
                have hv := HS.out.val
                rw [e] at hv
                exact Lx.Val.tail h128 hv)
              have HM : Hid (∀ W, Calls Tryz.prog 21 #[.agg #[.int .i64 p1, .int .i64 p2], .string (r.extract 0 1)] W fun e w' => e = .returned (plV (Lx.moved (p1, p2) (r.data.toList.take 1))) ∧ Below W.heap.size W w') := Lib.hid fun W => by
                have := rmoved_any (p1, p2) (r.extract 0 1) (by rw [take_size (by omega)]; omega) (HP.out.mono (by omega)) W
                rw [take_data] at this
                exact this
              have HP2 : Hid (PlaceOk (1 + (s.size - (r.extract 1 r.size).size)) (Lx.moved (p1, p2) (r.data.toList.take 1))) := Lib.hid ((moved_ok _ _ _ (Nat.le_refl _) HP.out (by omega)).mono (by
                rw [drop_size, List.length_take, szl]; omega))
              have hs2 := drop_size r 1
              have HS2 := Lib.hid hs2
              clear hbk h128 hs2 HQ
              generalize Lx.moved (p1, p2) (r.data.toList.take 1) = p' at HN HM HP2
              obtain ⟨p1', p2'⟩ := p'
              unfold plV at HM
              go_wp2
              refine wp_region_tail 4 (by intro c a d v w h; cases d <;> (simp [Exit.then, Exit.inBlock] at h ⊢; exact h)) (by kernel_rfl) (by kernel_rfl) (by kernel_rfl) (by kernel_rfl) ?_
              apply Exists.intro
              refine ⟨fun m hm => ?_, fun w' hw' => ?_⟩
              · simp only [List.map_cons, List.map_nil, List.take_succ_cons, List.take_zero, deAl]
                repeat (first | go_big_quiet_skip | (go_big_quiet_want; go_big_quiet_op; first | go_big_quiet_on | (apply Exists.intro; refine ⟨fun W hW => ?_, ?_⟩; (focus (first
                  | (go_at_call 21; (with_reducible refine (HM.out _).mono ?_); rintro e w1 ⟨rfl, hb⟩; exact ⟨rfl, Ext.next hW hb⟩)
                  | exact rfl | (obtain ⟨hcW, hfW, hzW⟩ := cif (Ext.of (Ext.past hm hW)); (try simp only [World.size_alloc, World.size_setCell, World.size_drew, World.heap_drewN] at hzW); simp [go_sem, *, ↓IntWalk.iteOmega]; (try exact rfl)))); go_big_quiet_on)))
                exact wpQuiet_nil rfl
              rw [show als _ 0 4 = [] from by kernel_rfl]
              simp only [gEnd, List.drop_succ_cons, List.drop_zero]
              have hbl := Ext.of hw'
              obtain ⟨hc, hf, hz⟩ := cif hbl
              (try simp only [World.size_alloc, World.size_setCell, World.size_drew, World.heap_drewN] at hz)
              clear hw'
              go_wp2
              go_roundw
              case rel =>
                have hk := HS.out.keep hbl
                refine ⟨r.extract 1 r.size, _, acc, (p1', p2'), rfl, rfl, by rw [HS2.out]; omega, Lib.hid ⟨hk.own.keep fun b hb => ?_, ?_, ?_, ?_, HV2.out⟩, HP2, HN⟩
                · have := (hk.own.lt hb).1
                  exact (setC_other _ _ _ _ (by omega)).trans (setC_other _ _ _ _ (by omega))
                · exact (setC_other _ _ _ _ (by omega)).trans ((setC_other _ _ _ _ (by omega)).trans hk.res)
                · exact setC_at (setC_at hk.box 0 _) 1 _
                · have := hk.low
                  (repeat' (first | (with_reducible exact Below.refl _ _) | (with_reducible assumption) | (with_reducible refine Below.setCell ?_ ?_ _) | (with_reducible refine Below.alloc ?_ ?_ _) | (with_reducible refine Below.drew ?_) | (with_reducible refine below_drewN ?_ _) | (with_reducible refine below_next ?_ (by with_reducible assumption)) | omega | (dsimp only; omega) | (simp only [World.size_alloc, World.size_setCell, World.size_drew, World.heap_drewN]; omega)))
              case measure => simp only [szV]; rw [HS2.out]; omega
            | false =>
              have hbk : Lx.isBlank (byteN r.data.toList 0) = false := by rw [EX.out]; exact HQ.out.symm
              have HT := Lib.hid (fun W => rtoken_any r (by omega) h0 HS.out.val W)
              cases htk : Lx.tokenL Lx.flF r.data.toList with
              | error k =>
                have HN : Hid (Lx.tokensL Lx.flF s.data.toList = .error (k, (p1, p2))) := Lib.hid (by rw [HR.out, HL.out, Lx.tokA_err hrl hbk htk])
                have hk0 : (((k : Int) != 0) = true) := by have := tokenL_err htk; simp; omega
                have HW : Hid (∀ W, Calls Tryz.prog 22 #[.string r] W fun e w' => (∃ (k1 a b : Int) (x : ByteArray) (n : Int) (d : ByteArray), e = .returned (.tuple #[.agg #[.int .i64 k1, .int .i64 a, .int .i64 b, .string x, .int .u64 n, .string d], .int .i64 (k : Int)])) ∧ Below W.heap.size W w') := Lib.hid fun W => (HT.out W).mono fun e w' h => by
                  obtain ⟨h1, h2⟩ := h
                  unfold TokP at h1
                  rw [htk] at h1
                  obtain ⟨t, ⟨a1, a2, a3, a4, a5, a6, rfl⟩, he⟩ := h1
                  exact ⟨⟨_, _, _, _, _, _, he⟩, h2⟩
                have HLOW := Lib.hid HS.out.low
                clear hbk HT htk HQ HL HS
                go_wp2_with (go_at_call 22; (with_reducible refine (HW.out _).mono ?_); rintro e w' ⟨⟨t1, t2, t3, t4, t5, t6, rfl⟩, hbl⟩; obtain ⟨hc, hf, hz⟩ := cif hbl; (try simp only [World.size_alloc, World.size_setCell, World.size_drew, World.heap_drewN] at hz))
                refine wp_region_tail 3 (by intro c a d v w h; cases d <;> (simp [Exit.then, Exit.inBlock] at h ⊢; exact h)) (by kernel_rfl) (by kernel_rfl) (by kernel_rfl) (by kernel_rfl) ?_
                apply Exists.intro
                refine ⟨fun m hm => ?_, fun w' hw' => ?_⟩
                · simp only [List.map_cons, List.map_nil, List.take_succ_cons, List.take_zero, deAl]
                  repeat (first | go_big_quiet_skip | (go_big_quiet_want; go_big_quiet_op; first | go_big_quiet_on | (apply Exists.intro; refine ⟨fun W hW => ?_, ?_⟩; (focus (first
                    | (go_at_call 21; (with_reducible refine (HM.out _).mono ?_); rintro e w1 ⟨rfl, hb⟩; exact ⟨rfl, Ext.next hW hb⟩)
                    | exact rfl | (obtain ⟨hcW, hfW, hzW⟩ := cif (Ext.of (Ext.past hm hW)); (try simp only [World.size_alloc, World.size_setCell, World.size_drew, World.heap_drewN] at hzW); simp [go_sem, *, ↓IntWalk.iteOmega]; (try exact rfl)))); go_big_quiet_on)))
                  exact wpQuiet_nil rfl
                rw [show als _ 0 3 = [] from by kernel_rfl]
                simp only [gEnd, List.drop_succ_cons, List.drop_zero]
                have hbl := Ext.of hw'
                obtain ⟨hc, hf, hz⟩ := cif hbl
                (try simp only [World.size_alloc, World.size_setCell, World.size_drew, World.heap_drewN] at hz)
                clear hw'
                go_wp2
                all_goals ((try simp only [Exit.inBlock, Exit.then]); go_light; refine bodyPost_ret (by simp [results, Tryz.results9, go_sem, *, ↓IntWalk.iteOmega]; try rfl) rfl ?_)
                all_goals exact ⟨by rw [HN.out]; unfold TksP plV; rfl, by (have := HLOW.out); (repeat' (first | (with_reducible exact Below.refl _ _) | (with_reducible assumption) | (with_reducible refine Below.setCell ?_ ?_ _) | (with_reducible refine Below.alloc ?_ ?_ _) | (with_reducible refine Below.drew ?_) | (with_reducible refine below_drewN ?_ _) | (with_reducible refine below_next ?_ (by with_reducible assumption)) | omega | (dsimp only; omega) | (simp only [World.size_alloc, World.size_setCell, World.size_drew, World.heap_drewN]; omega)))⟩
              | ok t =>
                have htl := Lx.tokenL_len htk
                rw [szl] at htl
                have hvv := Lx.tokenL_val' htk HS.out.val
                have HN : Hid (Lx.tokA Lx.flF s.data.toList (1, 1) [] = Lx.tokA Lx.flF (r.extract t.len r.size).data.toList (Lx.moved (p1, p2) (r.data.toList.take t.len)) (acc ++ [⟨t.kind, (p1, p2), r.data.toList.take t.len, t.bits, t.data⟩])) := Lib.hid (by
                  rw [HL.out, Lx.tokA_tok hrl hbk htk, drop_data])
                have HV2 : Hid (Lx.Val (r.extract t.len r.size).data.toList) := Lib.hid (by rw [drop_data]; exact hvv.2)
                have HM : Hid (∀ W, Calls Tryz.prog 21 #[.agg #[.int .i64 p1, .int .i64 p2], .string (r.extract 0 t.len)] W fun e w' => e = .returned (plV (Lx.moved (p1, p2) (r.data.toList.take t.len))) ∧ Below W.heap.size W w') := Lib.hid fun W => by
                  have := rmoved_any (p1, p2) (r.extract 0 t.len) (by rw [take_size (by omega)]; omega) (HP.out.mono (by omega)) W
                  rw [take_data] at this
                  exact this
                have hs2 := drop_size r t.len
                have HP2 : Hid (PlaceOk (1 + (s.size - (r.extract t.len r.size).size)) (Lx.moved (p1, p2) (r.data.toList.take t.len))) := Lib.hid ((moved_ok _ _ _ (Nat.le_refl _) HP.out (by omega)).mono (by
                  rw [hs2, List.length_take, szl]; omega))
                have HS2 := Lib.hid hs2
                have HTC : Hid ((tokC ⟨t.kind, (p1, p2), r.data.toList.take t.len, t.bits, t.data⟩).toArray = #[.int .i64 (t.kind : Int), .int .i64 p1, .int .i64 p2, .string (r.extract 0 t.len), .int .u64 (t.bits : Int), .string ⟨t.data.toArray⟩]) := Lib.hid (by unfold tokC; rw [baB_take]; rfl)
                have HW : Hid (∀ W, Calls Tryz.prog 22 #[.string r] W fun e w' => e = .returned (.tuple #[.agg #[.int .i64 (t.kind : Int), .int .i64 0, .int .i64 0, .string (r.extract 0 t.len), .int .u64 (t.bits : Int), .string ⟨t.data.toArray⟩], .int .i64 0]) ∧ Below W.heap.size W w') := Lib.hid fun W => (HT.out W).mono fun e w' h => by
                  obtain ⟨h1, h2⟩ := h
                  unfold TokP at h1
                  rw [htk] at h1
                  exact ⟨h1, h2⟩
                have hts : (r.extract 0 t.len).size = t.len := take_size htl.2
                have hmin : min t.len r.size = t.len := Nat.min_eq_left htl.2
                clear hbk HT htk HQ hvv hs2
                generalize Lx.moved (p1, p2) (r.data.toList.take t.len) = p' at HN HM HP2
                obtain ⟨p1', p2'⟩ := p'
                unfold plV at HM
                dsimp only at HM
                generalize hkd : ((t.kind : Nat) : Int) = kd at HW HTC
                generalize hbi : ((t.bits : Nat) : Int) = bi at HW HTC
                generalize hda : (⟨t.data.toArray⟩ : ByteArray) = da at HW HTC
                clear hkd hbi hda
                generalize hlen' : t.len = tl at *
                obtain ⟨i0, z0, hi0, hz0, hz1, hz2, hz3⟩ := tok_info
                go_wp2_with (first
                  | (go_at_call 22; (with_reducible refine (HW.out _).mono ?_); rintro e w' ⟨rfl, hbl⟩; obtain ⟨hc, hf, hz⟩ := cif hbl; (try simp only [World.size_alloc, World.size_setCell, World.size_drew, World.heap_drewN] at hz))
                  | (at_builtin; refine wpList_app (e := 32) (f := tokC) rfl _ _ 23 rfl (w.heap.size + 2) i0 z0 64 Tryz.underlying23 hi0 hz0 hz1 hz2 hz3 (by decide) tokC_len v acc rfl ?c0 _ 1 _ [⟨t.kind, (p1, p2), r.data.toList.take tl, t.bits, t.data⟩] rfl ?c1 ?c2 (by decide) ?c3 ?c4 ?_))
                case c0 => exact ((HS.out.own.next hbl).alloc _).alloc _
                case c1 => exact RdL.oneT (by rw [HTC.out]; exact heap_alloc_at _ _ (by simp only [World.size_alloc]))
                case c2 => intro a ha u hu; simp at ha; subst ha; exact tokC_one _ u hu
                case c3 => simp; omega
                case c4 => simp only [World.size_alloc]; omega
                intro A9 c9 w12 hown hg hB hor
                have hk := HS.out.keep hbl
                have hlt2 := hk.lt
                have hbx2 : w12.heap[w.heap.size + 1]? = some (.cells #[.int .i64 p1, .int .i64 p2] 25 (0, 0)) := by
                  rw [hB.block _ (by omega), heap_alloc_old _ _ (by simp only [World.size_alloc]; omega), heap_alloc_old _ _ (by omega)]; exact hk.box
                have hrs2 : w12.heap[w.heap.size]? = some (.cells #[.int .i64 0, .int .i64 0] 25 (0, 0)) := by
                  rw [hB.block _ (by omega), heap_alloc_old _ _ (by simp only [World.size_alloc]; omega), heap_alloc_old _ _ (by omega)]; exact hk.res
                have htk2 : w12.heap[w'.heap.size]? = some (.cells #[.int .i64 kd, .int .i64 p1, .int .i64 p2, .string (r.extract 0 tl), .int .u64 bi, .string da] 32 (0, 0)) := by
                  rw [hg.block _ (by simp only [World.size_alloc]; omega) (fun e => by have := (hk.own.lt (b := w'.heap.size) e.symm).2; omega), heap_alloc_old _ _ (by simp only [World.size_alloc]; omega), heap_alloc_new]
                have hl12 : Below w.heap.size w w12 := ((hk.low.alloc (by omega) _).alloc (by simp only [World.size_alloc]; omega) _).trans (hB.mono (by omega))
                have hz12 := hB.size
                simp only [World.size_alloc] at hz12
                have hcb := cells_of_block hbx2
                have hb0' := hcb.1 0
                have hb1' := hcb.1 1
                have hbf' := hcb.2
                have hct := cells_of_block htk2
                have ht3 := hct.1 3
                have htf := hct.2
                simp at hb0' hb1' ht3
                have HO := Lib.hid hown
                have HH := Lib.hid (And.intro hbx2 (And.intro hrs2 hl12))
                have hlb := (hown.lower (b0 := w.heap.size + 2) (by omega))
                clear hown hg hB hor hk hbx2 hrs2 htk2 hl12 hcb hct hr0 hr1 hrf hb0 hb1 hbf hc hf hlb
                go_wp2_with (go_at_call 21; (with_reducible refine (HM.out _).mono ?_); rintro e w13 ⟨rfl, hbl2⟩; obtain ⟨hc, hf, hz13⟩ := cif hbl2)
                go_roundw
                case rel =>
                  have hl3 : (acc ++ [(⟨t.kind, (p1, p2), r.data.toList.take tl, t.bits, t.data⟩ : Lx.Tok)]).length = acc.length + 1 := by simp
                  have ho2 := HO.out.next hbl2
                  refine ⟨r.extract tl r.size, _, acc ++ [⟨t.kind, (p1, p2), r.data.toList.take tl, t.bits, t.data⟩], (p1', p2'), rfl, rfl, by rw [HS2.out, hl3]; omega, Lib.hid ⟨ho2.keep fun b hb => ?_, ?_, ?_, ?_, HV2.out⟩, HP2, HN⟩
                  · have := (ho2.lt hb).1
                    exact (setC_other _ _ _ _ (by omega)).trans (setC_other _ _ _ _ (by omega))
                  · exact (setC_other _ _ _ _ (by omega)).trans ((setC_other _ _ _ _ (by omega)).trans ((hbl2.block _ (by omega)).trans HH.out.2.1))
                  · exact setC_at (setC_at ((hbl2.block _ (by omega)).trans HH.out.1) 0 _) 1 _
                  · have := HH.out.2.2
                    (repeat' (first | (with_reducible exact Below.refl _ _) | (with_reducible assumption) | (with_reducible refine Below.setCell ?_ ?_ _) | (with_reducible refine Below.alloc ?_ ?_ _) | (with_reducible refine Below.drew ?_) | (with_reducible refine below_drewN ?_ _) | (with_reducible refine below_next ?_ (by with_reducible assumption)) | omega | (dsimp only; omega) | (simp only [World.size_alloc, World.size_setCell, World.size_drew, World.heap_drewN]; omega)))
                case measure => simp only [szV]; rw [HS2.out]; omega
        · have hr00 : r.size = 0 := by omega
          have hrn : r.data.toList = [] := List.eq_nil_of_length_eq_zero (by rw [szl]; exact hr00)
          have HN : Hid (Lx.tokensL Lx.flF s.data.toList = .ok (acc ++ [⟨8, (p1, p2), [], 0, []⟩])) := Lib.hid (by rw [HR.out, HL.out, hrn]; rfl)
          obtain ⟨i0, z0, hi0, hz0, hz1, hz2, hz3⟩ := tok_info
          have hcr := cells_of_block (RTokS.res HS.out)
          have hr0 := hcr.1 0
          have hr1 := hcr.1 1
          have hrf := hcr.2
          have hcb := cells_of_block (RTokS.box HS.out)
          have hb0 := hcb.1 0
          have hb1 := hcb.1 1
          have hbf := hcb.2
          have hsz := RTokS.lt HS.out
          simp at hr0 hr1 hb0 hb1
          clear hcr hcb
          clear hrn
          go_wp2_with (at_builtin; refine wpList_app (e := 32) (f := tokC) rfl _ _ 23 rfl (w.heap.size + 2) i0 z0 64 Tryz.underlying23 hi0 hz0 hz1 hz2 hz3 (by decide) tokC_len v acc rfl ?c0 _ 1 _ [⟨8, (p1, p2), [], 0, []⟩] rfl ?c1 ?c2 (by decide) ?c3 ?c4 ?_)
          case c0 => exact HS.out.own.alloc _
          case c1 => exact RdL.oneT (t := ⟨8, (p1, p2), [], 0, []⟩) (heap_alloc_new _ _)
          case c2 => intro a ha u hu; simp at ha; subst ha; exact tokC_one _ u hu
          case c3 => simp; omega
          case c4 => simp only [World.size_alloc]; omega
          intro A9 c9 w12 hown hg hB hor
          have hrs2 : w12.heap[w.heap.size]? = some (.cells #[.int .i64 0, .int .i64 0] 25 (0, 0)) := by
            rw [hB.block _ (by omega), heap_alloc_old _ _ (by omega)]; exact HS.out.res
          have hl12 : Below w.heap.size w w12 := (HS.out.low.alloc (by omega) _).trans (hB.mono (by omega))
          have hcr := cells_of_block hrs2
          have hq0 := hcr.1 0
          have hq1 := hcr.1 1
          have hqf := hcr.2
          simp at hq0 hq1
          have HO := Lib.hid hown
          have hz12 := hB.size
          simp only [World.size_alloc] at hz12
          clear hown hg hB hor hr0 hr1 hrf hb0 hb1 hbf hcr
          go_wp2
          all_goals ((try simp only [Exit.inBlock, Exit.then]); go_light; refine bodyPost_ret (by simp [results, Tryz.results9, go_sem, *, ↓IntWalk.iteOmega]; try rfl) rfl ?_)
          all_goals refine ⟨?_, by (repeat' (first | (with_reducible exact Below.refl _ _) | (with_reducible assumption) | (with_reducible refine Below.setCell ?_ ?_ _) | (with_reducible refine Below.alloc ?_ ?_ _) | (with_reducible refine Below.drew ?_) | (with_reducible refine below_drewN ?_ _) | (with_reducible refine below_next ?_ (by with_reducible assumption)) | omega | (dsimp only; omega) | (simp only [World.size_alloc, World.size_setCell, World.size_drew, World.heap_drewN]; omega)))⟩
          all_goals (
            rw [HN.out]
            refine ⟨_, ?_, rfl⟩
            have hl : (acc ++ [(⟨8, (p1, p2), [], 0, []⟩ : Lx.Tok)]).length = acc.length + 1 := by simp
            refine (OwnL.keep HO.out fun b hb => ?_).lower (by omega)
            have := (HO.out.lt hb).1
            exact (setC_other _ _ _ _ (by omega)).trans (setC_other _ _ _ _ (by omega)))
end Go.Proofs.YteplbbjmbhgllaaGreatDoor
