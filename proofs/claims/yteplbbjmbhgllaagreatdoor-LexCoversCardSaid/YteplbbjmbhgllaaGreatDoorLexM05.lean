/-
  The reference's tests of a byte: a digit, a letter, a digit of sixteen.
  The reference's two constant strings behind a name: the signs, the reserved words.
  The tables of signs and words, scanned: what the reference's loops find is what the spec says.
  The reference's sign: the longest sign that begins a text.
  The reference's escape: the byte behind a backslash.
-/
import Derived.Test.YteplbbjmbhgllaaGreatDoorProg
import Derived.Test.YteplbbjmbhgllaaGreatDoorLexM02
import Derived.Test.YteplbbjmbhgllaaGreatDoorRegion
import Derived.Deep.QuietTactic
import Derived.BigQuiet
import Derived.Outline
import Derived.Deep.RegionHeld3
import Derived.Deep.LoopGhost
import Derived.Deep.DeepCutAuto
import Derived.Deep.Light
import Derived.Laws.Strings
import Derived.Lib.ItoaWalk
import Derived.Lib.Strings
namespace Go.Proofs.YteplbbjmbhgllaaGreatDoor
open Go.RowKit
set_option linter.unusedVariables false
set_option linter.unusedSimpArgs false

theorem rdigit_any (c : Nat) (hc : c < 256) (w : World) : Calls Tryz.prog 39 #[.int .u8 c] w fun e w' => e = .returned (.bool (Lx.isDig c)) ∧ w = w' := by
  by_cases h1 : 48 ≤ c
  · have HM : Hid (Lx.isDig c = decide ((c : Int) ≤ 57)) := Lib.hid (by unfold Lx.isDig; by_cases h : c ≤ 57 <;> simp [h1] <;> omega)
    go_enter Tryz.func39, Tryz.ntmps39
    go_wp2
    go_ret
    exact ⟨by rw [HM.out]; rfl, rfl⟩
  · have HM : Hid (Lx.isDig c = false) := Lib.hid (by unfold Lx.isDig; simp [h1])
    go_enter Tryz.func39, Tryz.ntmps39
    go_wp2
    go_ret
    exact ⟨by rw [HM.out]; rfl, rfl⟩
theorem rletter_any (c : Nat) (hc : c < 256) (w : World) : Calls Tryz.prog 38 #[.int .u8 c] w fun e w' => e = .returned (.bool (Lx.isLet c)) ∧ w = w' := by
  obtain ⟨a1, ha1⟩ : ∃ b, b = decide ((c : Int) ≥ 97) := ⟨_, rfl⟩
  obtain ⟨a2, ha2⟩ : ∃ b, b = decide ((c : Int) ≤ 122) := ⟨_, rfl⟩
  obtain ⟨a3, ha3⟩ : ∃ b, b = decide ((c : Int) ≥ 65) := ⟨_, rfl⟩
  obtain ⟨a4, ha4⟩ : ∃ b, b = decide ((c : Int) ≤ 90) := ⟨_, rfl⟩
  obtain ⟨a5, ha5⟩ : ∃ b, b = ((c : Int) == 95) := ⟨_, rfl⟩
  have HM : Hid (Lx.isLet c = ((a1 && a2) || (a3 && a4) || a5)) := Lib.hid (by subst ha1 ha2 ha3 ha4 ha5; unfold Lx.isLet; rw [Bool.eq_iff_iff]; simp; omega)
  replace ha1 := ha1.symm
  replace ha2 := ha2.symm
  replace ha3 := ha3.symm
  replace ha4 := ha4.symm
  replace ha5 := ha5.symm
  have hb1 : decide (97 ≤ c) = a1 := by rw [← ha1, decide_eq_decide]; omega
  have hb2 : decide (c ≤ 122) = a2 := by rw [← ha2, decide_eq_decide]; omega
  have hb3 : decide (65 ≤ c) = a3 := by rw [← ha3, decide_eq_decide]; omega
  have hb4 : decide (c ≤ 90) = a4 := by rw [← ha4, decide_eq_decide]; omega
  generalize Lx.isLet c = out at HM
  go_enter Tryz.func38, Tryz.ntmps38
  cases a1 <;> cases a2 <;> cases a3 <;> cases a4 <;> cases a5 <;>
    (go_wp2
     go_ret
     exact ⟨by rw [HM.out]; rfl, rfl⟩)
/-- What a digit of sixteen answers. -/
def hexI (c : Nat) : Int := match Lx.hexV c with
  | some d => d
  | none => -1
theorem rhex_any (c : Nat) (hc : c < 256) (w : World) : Calls Tryz.prog 79 #[.int .u8 c] w fun e w' => e = .returned (.int .i64 (hexI c)) ∧ w = w' := by
  have HD := rdigit_any c hc
  rcases (by omega : (c < 48) ∨ (48 ≤ c ∧ c ≤ 57) ∨ (57 < c ∧ c < 65) ∨ (65 ≤ c ∧ c ≤ 70) ∨ (70 < c ∧ c < 97) ∨ (97 ≤ c ∧ c ≤ 102) ∨ (102 < c)) with h | h | h | h | h | h | h
  · have e : Lx.isDig c = false := by unfold Lx.isDig; simp; omega
    rw [e] at HD
    have HM : Hid (hexI c = -1) := Lib.hid (by unfold hexI Lx.hexV; rw [if_neg (by omega), if_neg (by omega), if_neg (by omega)])
    clear e
    go_enter Tryz.func79, Tryz.ntmps79
    go_wp2_with (go_at_call 39; (with_reducible refine (HD _).mono ?_); rintro e w' ⟨rfl, rfl⟩)
    all_goals (go_ret; exact ⟨by rw [HM.out]; first | rfl | (simp; done) | (refine congrArg (fun x => Ending.returned (Value.int .i64 x)) ?_; omega), rfl⟩)
  · have e : Lx.isDig c = true := by unfold Lx.isDig; simp; omega
    rw [e] at HD
    have HM : Hid (hexI c = (c : Int) - 48) := Lib.hid (by unfold hexI Lx.hexV; rw [if_pos (by omega)]; dsimp only; omega)
    clear e
    go_enter Tryz.func79, Tryz.ntmps79
    go_wp2_with (go_at_call 39; (with_reducible refine (HD _).mono ?_); rintro e w' ⟨rfl, rfl⟩)
    all_goals (go_ret; exact ⟨by rw [HM.out]; first | rfl | (simp; done) | (refine congrArg (fun x => Ending.returned (Value.int .i64 x)) ?_; omega), rfl⟩)
  · have e : Lx.isDig c = false := by unfold Lx.isDig; simp; omega
    rw [e] at HD
    have HM : Hid (hexI c = -1) := Lib.hid (by unfold hexI Lx.hexV; rw [if_neg (by omega), if_neg (by omega), if_neg (by omega)])
    clear e
    go_enter Tryz.func79, Tryz.ntmps79
    go_wp2_with (go_at_call 39; (with_reducible refine (HD _).mono ?_); rintro e w' ⟨rfl, rfl⟩)
    all_goals (go_ret; exact ⟨by rw [HM.out]; first | rfl | (simp; done) | (refine congrArg (fun x => Ending.returned (Value.int .i64 x)) ?_; omega), rfl⟩)
  · have e : Lx.isDig c = false := by unfold Lx.isDig; simp; omega
    rw [e] at HD
    have HM : Hid (hexI c = (c : Int) - 55) := Lib.hid (by unfold hexI Lx.hexV; rw [if_neg (by omega), if_neg (by omega), if_pos (by omega)]; dsimp only; omega)
    clear e
    go_enter Tryz.func79, Tryz.ntmps79
    go_wp2_with (go_at_call 39; (with_reducible refine (HD _).mono ?_); rintro e w' ⟨rfl, rfl⟩)
    all_goals (go_ret; exact ⟨by rw [HM.out]; first | rfl | (simp; done) | (refine congrArg (fun x => Ending.returned (Value.int .i64 x)) ?_; omega), rfl⟩)
  · have e : Lx.isDig c = false := by unfold Lx.isDig; simp; omega
    rw [e] at HD
    have HM : Hid (hexI c = -1) := Lib.hid (by unfold hexI Lx.hexV; rw [if_neg (by omega), if_neg (by omega), if_neg (by omega)])
    clear e
    go_enter Tryz.func79, Tryz.ntmps79
    go_wp2_with (go_at_call 39; (with_reducible refine (HD _).mono ?_); rintro e w' ⟨rfl, rfl⟩)
    all_goals (go_ret; exact ⟨by rw [HM.out]; first | rfl | (simp; done) | (refine congrArg (fun x => Ending.returned (Value.int .i64 x)) ?_; omega), rfl⟩)
  · have e : Lx.isDig c = false := by unfold Lx.isDig; simp; omega
    rw [e] at HD
    have HM : Hid (hexI c = (c : Int) - 87) := Lib.hid (by unfold hexI Lx.hexV; rw [if_neg (by omega), if_pos (by omega)]; dsimp only; omega)
    clear e
    go_enter Tryz.func79, Tryz.ntmps79
    go_wp2_with (go_at_call 39; (with_reducible refine (HD _).mono ?_); rintro e w' ⟨rfl, rfl⟩)
    all_goals (go_ret; exact ⟨by rw [HM.out]; first | rfl | (simp; done) | (refine congrArg (fun x => Ending.returned (Value.int .i64 x)) ?_; omega), rfl⟩)
  · have e : Lx.isDig c = false := by unfold Lx.isDig; simp; omega
    rw [e] at HD
    have HM : Hid (hexI c = -1) := Lib.hid (by unfold hexI Lx.hexV; rw [if_neg (by omega), if_neg (by omega), if_neg (by omega)])
    clear e
    go_enter Tryz.func79, Tryz.ntmps79
    go_wp2_with (go_at_call 39; (with_reducible refine (HD _).mono ?_); rintro e w' ⟨rfl, rfl⟩)
    all_goals (go_ret; exact ⟨by rw [HM.out]; first | rfl | (simp; done) | (refine congrArg (fun x => Ending.returned (Value.int .i64 x)) ?_; omega), rfl⟩)
end Go.Proofs.YteplbbjmbhgllaaGreatDoor

namespace Go.Proofs.YteplbbjmbhgllaaGreatDoor
open Go.RowKit
set_option linter.unusedVariables false
set_option linter.unusedSimpArgs false

def sgnL : List UInt8 := [60, 60, 61, 32, 62, 62, 61, 32, 43, 43, 32, 45, 45, 32, 45, 62, 32, 60, 60, 32, 62, 62, 32, 60, 61, 32, 62, 61, 32, 61, 61, 32, 33, 61, 32, 38, 38, 32, 124, 124, 32, 43, 61, 32, 45, 61, 32, 42, 61, 32, 47, 61, 32, 37, 61, 32, 38, 61, 32, 124, 61, 32, 94, 61, 32, 43, 32, 45, 32, 42, 32, 47, 32, 37, 32, 38, 32, 124, 32, 94, 32, 126, 32, 33, 32, 60, 32, 62, 32, 61, 32, 63, 32, 58, 32, 59, 32, 44, 32, 46, 32, 40, 32, 41, 32, 91, 32, 93, 32, 123, 32, 125, 32]
def sgnB : ByteArray := ⟨sgnL.toArray⟩
theorem sgnB_size : sgnB.size = 113 := by decide +kernel
theorem sgnL_len : sgnL.length = 113 := by decide +kernel
/-- Its byte at i. -/
def sgnA (i : Nat) : Nat := (sgnL.getD i 0).toNat
@[go_sem ↓ high] theorem fold_sgnB : (⟨([60, 60, 61, 32, 62, 62, 61, 32, 43, 43, 32, 45, 45, 32, 45, 62, 32, 60, 60, 32, 62, 62, 32, 60, 61, 32, 62, 61, 32, 61, 61, 32, 33, 61, 32, 38, 38, 32, 124, 124, 32, 43, 61, 32, 45, 61, 32, 42, 61, 32, 47, 61, 32, 37, 61, 32].append [38, 61, 32, 124, 61, 32, 94, 61, 32, 43, 32, 45, 32, 42, 32, 47, 32, 37, 32, 38, 32, 124, 32, 94, 32, 126, 32, 33, 32, 60, 32, 62, 32, 61, 32, 63, 32, 58, 32, 59, 32, 44, 32, 46, 32, 40, 32, 41, 32, 91, 32, 93, 32, 123, 32, 125, 32]).toArray⟩ : ByteArray) = sgnB := rfl
theorem run_index_sgnB {P : Program} (w : World) (t : TypeId) (k : IntKind) (i : Nat) (h : P.underlying t = some .string) (h1 : i < 113) :
    (Instr.index t (.string sgnB) (.int k (i : Int))).run P w = .ok (.int .u8 (sgnA i)) w := by
  have h2 : i < sgnB.size := by rw [sgnB_size]; exact h1
  rw [run_index_string w t sgnB k _ h, dif_pos ⟨by omega, by omega⟩]
  have e : ((i : Int)).toNat = i := by omega
  simp only [e]
  rw [Lib.getD_at sgnB i h2]
  rfl
def wrdL : List UInt8 := [32, 98, 114, 101, 97, 107, 32, 99, 97, 115, 101, 32, 99, 104, 97, 114, 32, 99, 111, 110, 116, 105, 110, 117, 101, 32, 100, 101, 102, 97, 117, 108, 116, 32, 100, 111, 32, 100, 111, 117, 98, 108, 101, 32, 101, 108, 115, 101, 32, 101, 120, 116, 101, 114, 110, 32, 102, 111, 114, 32, 103, 111, 116, 111, 32, 105, 102, 32, 105, 110, 116, 32, 108, 111, 110, 103, 32, 114, 101, 116, 117, 114, 110, 32, 115, 104, 111, 114, 116, 32, 115, 105, 103, 110, 101, 100, 32, 115, 105, 122, 101, 111, 102, 32, 115, 116, 114, 117, 99, 116, 32, 115, 119, 105, 116, 99, 104, 32, 117, 110, 105, 111, 110, 32, 117, 110, 115, 105, 103, 110, 101, 100, 32, 118, 111, 105, 100, 32, 119, 104, 105, 108, 101, 32]
def wrdB : ByteArray := ⟨wrdL.toArray⟩
theorem wrdB_size : wrdB.size = 144 := by decide +kernel
theorem wrdL_len : wrdL.length = 144 := by decide +kernel
/-- Its byte at i. -/
def wrdA (i : Nat) : Nat := (wrdL.getD i 0).toNat
@[go_sem ↓ high] theorem fold_wrdB : (⟨(([32, 98, 114, 101, 97, 107, 32, 99, 97, 115, 101, 32, 99, 104, 97, 114, 32, 99, 111, 110, 116, 105, 110, 117, 101, 32, 100, 101, 102, 97, 117, 108, 116, 32, 100, 111].append [32, 100, 111, 117, 98, 108, 101, 32, 101, 108, 115, 101, 32, 101, 120, 116, 101, 114, 110, 32, 102, 111, 114, 32, 103, 111, 116, 111, 32, 105, 102, 32, 105, 110, 116, 32]).append ([108, 111, 110, 103, 32, 114, 101, 116, 117, 114, 110, 32, 115, 104, 111, 114, 116, 32, 115, 105, 103, 110, 101, 100, 32, 115, 105, 122, 101, 111, 102, 32, 115, 116, 114, 117].append [99, 116, 32, 115, 119, 105, 116, 99, 104, 32, 117, 110, 105, 111, 110, 32, 117, 110, 115, 105, 103, 110, 101, 100, 32, 118, 111, 105, 100, 32, 119, 104, 105, 108, 101, 32])).toArray⟩ : ByteArray) = wrdB := rfl
theorem run_index_wrdB {P : Program} (w : World) (t : TypeId) (k : IntKind) (i : Nat) (h : P.underlying t = some .string) (h1 : i < 144) :
    (Instr.index t (.string wrdB) (.int k (i : Int))).run P w = .ok (.int .u8 (wrdA i)) w := by
  have h2 : i < wrdB.size := by rw [wrdB_size]; exact h1
  rw [run_index_string w t wrdB k _ h, dif_pos ⟨by omega, by omega⟩]
  have e : ((i : Int)).toNat = i := by omega
  simp only [e]
  rw [Lib.getD_at wrdB i h2]
  rfl
end Go.Proofs.YteplbbjmbhgllaaGreatDoor

namespace Go.Proofs.YteplbbjmbhgllaaGreatDoor
open Go.RowKit Lx
set_option linter.unusedVariables false
set_option linter.unusedSimpArgs false

/-- x begins l. -/
def preB (x l : List UInt8) : Bool := decide (x.length ≤ l.length ∧ l.take x.length = x)
/-- The scan: acc is the piece so far, T what is left. -/
def scanG (l : List UInt8) : List UInt8 → List UInt8 → List UInt8
  | acc, [] => []
  | acc, c :: T => if c.toNat ≠ 32 then scanG l (acc ++ [c]) T else if preB acc l then acc else scanG l [] T
def splitB : List UInt8 → List UInt8 → List (List UInt8)
  | acc, [] => []
  | acc, c :: T => if c.toNat ≠ 32 then splitB (acc ++ [c]) T else acc :: splitB [] T
def firstP (l : List UInt8) (ps : List (List UInt8)) : List UInt8 := (ps.find? fun x => preB x l).getD []
theorem scanG_first (l : List UInt8) : ∀ (T acc : List UInt8), scanG l acc T = firstP l (splitB acc T)
  | [], acc => rfl
  | c :: T, acc => by
    rw [scanG, splitB]
    by_cases h : c.toNat ≠ 32
    · rw [if_pos h, if_pos h]; exact scanG_first l T _
    · rw [if_neg h, if_neg h]
      by_cases hp : preB acc l = true
      · rw [if_pos hp]; simp [firstP, List.find?_cons, hp]
      · have hp' : preB acc l = false := by simpa using hp
        rw [if_neg hp, scanG_first l T []]; simp [firstP, List.find?_cons, hp']
/-- The text of the longest sign that begins l; none: none. -/
def signT (l : List UInt8) : List UInt8 := match signL l with
  | some n => l.take n
  | none => []
theorem split_signs : splitB [] sgnL = signs3 ++ signs2 ++ signs1.map (fun b => [b]) := by decide +kernel
theorem find_len {k : Nat} {l : List UInt8} : ∀ (ps : List (List UInt8)), (∀ x ∈ ps, x.length = k) → ps.find? (fun x => preB x l) = if k ≤ l.length ∧ l.take k ∈ ps then some (l.take k) else none
  | [], _ => by simp
  | x :: ps, h => by
    have hx := h x (List.mem_cons_self ..)
    have ih := find_len (l := l) ps fun y hy => h y (List.mem_cons_of_mem _ hy)
    rw [List.find?_cons]
    by_cases c : k ≤ l.length ∧ l.take k = x
    · have : preB x l = true := by unfold preB; rw [hx]; exact decide_eq_true c
      rw [this]
      simp only [c.2]
      rw [if_pos ⟨c.1, List.mem_cons_self ..⟩]
    · have : preB x l = false := by unfold preB; rw [hx]; exact decide_eq_false c
      rw [this]
      simp only
      rw [ih]
      by_cases d : k ≤ l.length ∧ l.take k ∈ ps
      · rw [if_pos d, if_pos ⟨d.1, List.mem_cons_of_mem _ d.2⟩]
      · rw [if_neg d, if_neg]
        rintro ⟨d1, d2⟩
        rcases List.mem_cons.1 d2 with e | e
        · exact c ⟨d1, e⟩
        · exact d ⟨d1, e⟩
theorem scan_signs (l : List UInt8) : scanG l [] sgnL = signT l := by
  rw [scanG_first, split_signs, firstP, List.find?_append, List.find?_append, find_len (k := 3) signs3 (by decide +kernel), find_len (k := 2) signs2 (by decide +kernel),
    find_len (k := 1) (signs1.map fun b => [b]) (by simp)]
  unfold signT signL
  by_cases h3 : 3 ≤ l.length ∧ l.take 3 ∈ signs3
  · rw [if_pos h3, if_pos h3]; simp
  · rw [if_neg h3, if_neg h3]
    by_cases h2 : 2 ≤ l.length ∧ l.take 2 ∈ signs2
    · rw [if_pos h2, if_pos h2]; simp
    · rw [if_neg h2, if_neg h2]
      match l with
      | [] => simp
      | b :: r =>
        by_cases h1 : b ∈ signs1
        · have hm : 1 ≤ (b :: r).length ∧ (b :: r).take 1 ∈ signs1.map fun b => [b] := ⟨by simp, List.mem_map.2 ⟨b, h1, by simp⟩⟩
          rw [if_pos hm]
          simp [h1]
        · have hm : ¬ (1 ≤ (b :: r).length ∧ (b :: r).take 1 ∈ signs1.map fun b => [b]) := by
            rintro ⟨_, h⟩
            obtain ⟨b', hb, e⟩ := List.mem_map.1 h
            simp at e
            exact h1 (e ▸ hb)
          rw [if_neg hm]
          simp [h1]

/-- The word at i is l. -/
def hitW (l : List UInt8) (i : Nat) : Bool := decide (wrdA i = 32) && decide (i + 1 + l.length < 144) && decide ((wrdL.drop (i + 1)).take l.length = l) && decide (wrdA (i + 1 + l.length) = 32)
theorem takeWhile_at : ∀ (l T : List UInt8), (∀ b ∈ l, b.toNat ≠ 32) → T.take l.length = l → (T.getD l.length 0).toNat = 32 → T.takeWhile (fun b => decide (b.toNat ≠ 32)) = l
  | [], T, _, _, h => by
    match T with
    | [] => rfl
    | c :: T => simp at h; simp [List.takeWhile_cons, h]
  | b :: l, [], _, h, _ => by simp at h
  | b :: l, c :: T, hb, h, h2 => by
    simp only [List.length_cons, List.take_succ_cons, List.cons.injEq] at h
    obtain ⟨rfl, h⟩ := h
    have := takeWhile_at l T (fun x hx => hb x (List.mem_cons_of_mem _ hx)) h (by simpa using h2)
    rw [List.takeWhile_cons, if_pos (by simpa using hb c (List.mem_cons_self ..)), this]
theorem words_at : ∀ i < 144, wrdA i = 32 → i + 1 < 144 → (wrdL.drop (i + 1)).takeWhile (fun b => decide (b.toNat ≠ 32)) ∈ words := by decide +kernel
theorem words_hit : ∀ x ∈ words, ∃ i, i < 144 ∧ hitW x i = true := by
  have : (words.all fun x => (List.range 144).any fun i => hitW x i) = true := by decide +kernel
  intro x hx
  have h := List.all_eq_true.1 this x hx
  obtain ⟨i, hi, h⟩ := List.any_eq_true.1 h
  exact ⟨i, List.mem_range.1 hi, h⟩
theorem hit_words {l : List UInt8} (hl : ∀ b ∈ l, b.toNat ≠ 32) {i : Nat} (hi : i < 144) (h : hitW l i = true) : l ∈ words := by
  unfold hitW at h
  simp only [Bool.and_eq_true, decide_eq_true_eq] at h
  obtain ⟨⟨⟨h1, h2⟩, h3⟩, h4⟩ := h
  have := takeWhile_at l (wrdL.drop (i + 1)) hl h3 (by unfold wrdA at h4; rw [List.getD_eq_getElem?_getD, List.getElem?_drop]; rw [List.getD_eq_getElem?_getD] at h4; exact h4)
  rw [← this]
  exact words_at i hi h1 (by omega)
theorem words_plain : ∀ x ∈ words, x ≠ [] ∧ ∀ b ∈ x, b.toNat ≠ 32 := by decide +kernel
theorem word_none {l : List UInt8} (h : ∀ i < 144, hitW l i = false) : ¬ l ∈ words := fun hm => by
  obtain ⟨i, hi, h'⟩ := words_hit l hm
  rw [h i hi] at h'
  exact absurd h' (by decide)
end Go.Proofs.YteplbbjmbhgllaaGreatDoor

namespace Go.Proofs.YteplbbjmbhgllaaGreatDoor
open Go.RowKit
set_option linter.unusedVariables false
set_option linter.unusedSimpArgs false

/-- The piece of the signs from a up to k. -/
def pcS (a k : Nat) : List UInt8 := (sgnL.drop a).take (k - a)
theorem pcS_len {a k : Nat} (h : k ≤ 113) : (pcS a k).length = k - a := by
  unfold pcS; rw [List.length_take, List.length_drop, sgnL_len]; omega
theorem scan_step {l : List UInt8} {a k : Nat} (ha : a ≤ k) (hk : k < 113) :
    scanG l (pcS a k) (sgnL.drop k) = if sgnA k ≠ 32 then scanG l (pcS a (k + 1)) (sgnL.drop (k + 1)) else if preB (pcS a k) l then pcS a k else scanG l (pcS (k + 1) (k + 1)) (sgnL.drop (k + 1)) := by
  have hl : k < sgnL.length := by rw [sgnL_len]; exact hk
  have e : sgnL.drop k = sgnL[k] :: sgnL.drop (k + 1) := List.drop_eq_getElem_cons hl
  have eA : sgnA k = sgnL[k].toNat := by unfold sgnA; rw [List.getD_eq_getElem?_getD, List.getElem?_eq_getElem hl]; rfl
  have e1 : pcS a (k + 1) = pcS a k ++ [sgnL[k]] := by
    unfold pcS
    rw [show k + 1 - a = (k - a) + 1 from by omega, List.take_add_one, List.getElem?_drop, show a + (k - a) = k from by omega, List.getElem?_eq_getElem hl]
    rfl
  have e2 : pcS (k + 1) (k + 1) = [] := by unfold pcS; simp
  rw [e, scanG, eA, e1, e2]
theorem pre_iff {s : ByteArray} {a k : Nat} (ha : a ≤ k) (hk : k ≤ 113) : preB (pcS a k) s.data.toList = decide (k ≤ s.size + a ∧ ((s.extract 0 (k - a)).toList == (sgnB.extract a k).toList) = true) := by
  have e1 : (s.extract 0 (k - a)).toList = s.data.toList.take (k - a) := by rw [Lib.toList_data, Lib.extract_data]; simp
  have e2 : (sgnB.extract a k).toList = pcS a k := by rw [Lib.toList_data, Lib.extract_data]; rfl
  have e3 : s.data.toList.length = s.size := by rw [Array.length_toList]; rfl
  unfold preB
  rw [pcS_len hk, e1, e2, decide_eq_decide, e3]
  constructor
  · rintro ⟨h1, h2⟩; exact ⟨by omega, by simpa using h2⟩
  · rintro ⟨h1, h2⟩; exact ⟨by omega, by simpa using h2⟩
set_option maxRecDepth 100000 in
set_option maxHeartbeats 1000000 in
theorem rsign_any (s : ByteArray) (hs : s.size ≤ 1048576) (w : World) : Calls Tryz.prog 43 #[.string s] w fun e w' => ∃ r : ByteArray, e = .returned (.string r) ∧ r.data.toList = signT s.data.toList ∧ w = w' := by
  have HR := Lib.hid (scan_signs s.data.toList)
  generalize signT s.data.toList = R at HR
  have hsz := sgnB_size
  go_enter Tryz.func43, Tryz.ntmps43
  go_wp2
  go_loop [3, 4, 5] (fun f i x => ∃ (a k : Nat), a ≤ k ∧ k ≤ 113 ∧ f = .int .i64 a ∧ i = .int .i64 k ∧ Hid (scanG s.data.toList (pcS a k) (sgnL.drop k) = R)) (fun f i x => 113 - (intOf i).toNat)
  case atStart => exact ⟨0, 0, by omega, by omega, rfl, rfl, Lib.hid HR.out⟩
  case round =>
    obtain ⟨a, k, hak, hk, rfl, rfl, HS⟩ := hrel
    by_cases hk : k < 113
    · have hix := run_index_sgnB (P := Tryz.prog) w 9 .i64 k (by kernel_rfl) hk
      have HT := Lib.hid (scan_step (l := s.data.toList) hak hk)
      by_cases hq : sgnA k = 32
      · rw [hq] at hix
        have HP := Lib.hid (pre_iff (s := s) hak (by omega : k ≤ 113))
        by_cases hc1 : k ≤ s.size + a
        · obtain ⟨g, hg⟩ : ∃ g, g = ((s.extract 0 (k - a)).toList == (sgnB.extract a k).toList) := ⟨_, rfl⟩
          replace hg := hg.symm
          cases g
          · have HN : Hid (scanG s.data.toList (pcS (k + 1) (k + 1)) (sgnL.drop (k + 1)) = R) := Lib.hid (by
              rw [← HS.out, HT.out, if_neg (by simp [hq]), if_neg (by rw [HP.out, hg]; simp)])
            clear HS hq
            go_wp2
            go_round
            case rel => exact ⟨k + 1, k + 1, by omega, by omega, by go_num, by go_num, HN⟩
            case measure => simp [intOf]; omega
          · have HN : Hid (pcS a k = R) := Lib.hid (by
              rw [← HS.out, HT.out, if_neg (by simp [hq]), if_pos (by rw [HP.out, hg]; simp [hc1])])
            clear HS hq
            go_wp2
            go_ret
            exact ⟨_, rfl, by rw [← HN.out, Lib.extract_data]; rfl, rfl⟩
        · have HN : Hid (scanG s.data.toList (pcS (k + 1) (k + 1)) (sgnL.drop (k + 1)) = R) := Lib.hid (by
              rw [← HS.out, HT.out, if_neg (by simp [hq]), if_neg (by rw [HP.out]; simp; omega)])
          clear HS hq
          go_wp2
          go_round
          case rel => exact ⟨k + 1, k + 1, by omega, by omega, by go_num, by go_num, HN⟩
          case measure => simp [intOf]; omega
      · have HN : Hid (scanG s.data.toList (pcS a (k + 1)) (sgnL.drop (k + 1)) = R) := Lib.hid (by rw [← HS.out, HT.out, if_pos hq])
        have hq' : ((sgnA k : Int) == 32) = false := by simp; omega
        generalize sgnA k = q at hix hq' hq HT
        clear HS hq HT
        go_wp2
        go_round
        case rel => exact ⟨a, k + 1, by omega, by omega, by go_num, by go_num, HN⟩
        case measure => simp [intOf]; omega
    · obtain rfl : k = 113 := by omega
      have HN : Hid (([] : List UInt8) = R) := Lib.hid (by rw [← HS.out, show sgnL.drop 113 = [] from by decide +kernel]; rfl)
      clear HS
      go_wp2
      go_ret
      exact ⟨_, rfl, by rw [← HN.out], rfl⟩
end Go.Proofs.YteplbbjmbhgllaaGreatDoor

namespace Go.Proofs.YteplbbjmbhgllaaGreatDoor
open Go.RowKit
set_option linter.unusedVariables false
set_option linter.unusedSimpArgs false

theorem szl (s : ByteArray) : s.data.toList.length = s.size := by rw [Array.length_toList]; rfl
/-- A text's byte, as a number. -/
def byteN (l : List UInt8) (k : Nat) : Nat := (l.getD k 0).toNat
theorem byteN_lt (l : List UInt8) (k : Nat) : byteN l k < 256 := UInt8.toNat_lt _
theorem drop_byte {l : List UInt8} {k : Nat} (hk : k < l.length) : l.drop k = l.getD k 0 :: l.drop (k + 1) := by
  rw [List.drop_eq_getElem_cons hk, List.getD_eq_getElem?_getD, List.getElem?_eq_getElem hk]; rfl
theorem idx_s {P : Program} (t : TypeId) (ht : P.underlying t = some .string) (s : ByteArray) (k : IntKind) (z : Int) (j : Nat) (hz : z = (j : Int)) (hj : j < s.size) (w : World) :
    (Instr.index t (.string s) (.int k z)).run P w = .ok (.int .u8 (byteN s.data.toList j : Int)) w := by
  subst hz
  rw [run_index_string w t s k _ ht, dif_pos ⟨by omega, by omega⟩]
  have e : ((j : Int)).toNat = j := by omega
  simp only [e]
  rw [Lib.getD_at s j hj]
  rfl
/-- What escape answers. -/
def escV (l : List UInt8) (i : Nat) : Value := match Lx.escL (l.drop (i + 1)) with
  | some (c, k) => .tuple #[.int .u8 (c : Int), .int .i64 ((i + 1 + k : Nat) : Int), .bool true]
  | none => .tuple #[.int .u8 0, .int .i64 0, .bool false]
theorem escV_end {l : List UInt8} {i : Nat} (h : l.length ≤ i + 1) : escV l i = .tuple #[.int .u8 0, .int .i64 0, .bool false] := by
  unfold escV; rw [List.drop_of_length_le h]; rfl
theorem escV_at {l : List UInt8} {i : Nat} (h : i + 1 < l.length) : escV l i = (let x := byteN l (i + 1)
    if x = 110 then .tuple #[.int .u8 10, .int .i64 ((i + 2 : Nat) : Int), .bool true] else if x = 116 then .tuple #[.int .u8 9, .int .i64 ((i + 2 : Nat) : Int), .bool true]
    else if x = 114 then .tuple #[.int .u8 13, .int .i64 ((i + 2 : Nat) : Int), .bool true] else if x = 48 then .tuple #[.int .u8 0, .int .i64 ((i + 2 : Nat) : Int), .bool true]
    else if x = 92 ∨ x = 39 ∨ x = 34 then .tuple #[.int .u8 (x : Int), .int .i64 ((i + 2 : Nat) : Int), .bool true]
    else if x = 120 then (if i + 3 < l.length ∧ 0 ≤ hexI (byteN l (i + 2)) ∧ 0 ≤ hexI (byteN l (i + 3)) then
      .tuple #[.int .u8 (hexI (byteN l (i + 2)) * 16 + hexI (byteN l (i + 3))), .int .i64 ((i + 4 : Nat) : Int), .bool true] else .tuple #[.int .u8 0, .int .i64 0, .bool false])
    else .tuple #[.int .u8 0, .int .i64 0, .bool false]) := by
  unfold escV
  rw [drop_byte h]
  have eB : (l.getD (i + 1) 0).toNat = byteN l (i + 1) := rfl
  simp only [Lx.escL, eB]
  by_cases h1 : byteN l (i + 1) = 110
  · simp [h1]; omega
  · rw [if_neg h1, if_neg h1]
    by_cases h2 : byteN l (i + 1) = 116
    · simp [h2]; omega
    · rw [if_neg h2, if_neg h2]
      by_cases h3 : byteN l (i + 1) = 114
      · simp [h3]; omega
      · rw [if_neg h3, if_neg h3]
        by_cases h4 : byteN l (i + 1) = 48
        · simp [h4]; omega
        · rw [if_neg h4, if_neg h4]
          by_cases h5 : byteN l (i + 1) = 92 ∨ byteN l (i + 1) = 39 ∨ byteN l (i + 1) = 34
          · rw [if_pos h5, if_pos h5]
          · rw [if_neg h5, if_neg h5]
            by_cases h6 : byteN l (i + 1) = 120
            · rw [if_pos h6, if_pos h6]
              by_cases hl : i + 3 < l.length
              · rw [drop_byte (show i + 1 + 1 < l.length by omega), drop_byte (show i + 1 + 1 + 1 < l.length by omega)]
                have e2 : (l.getD (i + 1 + 1) 0).toNat = byteN l (i + 2) := rfl
                have e3 : (l.getD (i + 1 + 1 + 1) 0).toNat = byteN l (i + 3) := rfl
                simp only [e2, e3, hexI]
                obtain ⟨X, hX⟩ : ∃ X, Lx.hexV (byteN l (i + 2)) = X := ⟨_, rfl⟩
                obtain ⟨Y, hY⟩ : ∃ Y, Lx.hexV (byteN l (i + 3)) = Y := ⟨_, rfl⟩
                simp only [hX, hY]
                cases X <;> cases Y <;> simp [hl]
                omega
              · rw [if_neg (by omega)]
                match hm : l.drop (i + 1 + 1) with
                | [] => rfl
                | [c] => rfl
                | c :: d :: r =>
                  have := congrArg List.length hm
                  simp at this
                  omega
            · rw [if_neg h6, if_neg h6]
theorem hexI_le (c : Nat) : -1 ≤ hexI c ∧ hexI c ≤ 15 := by
  unfold hexI Lx.hexV; split <;> rename_i h
  · split at h
    · injection h with h; omega
    · split at h
      · injection h with h; omega
      · split at h
        · injection h with h; omega
        · cases h
  · omega
set_option maxRecDepth 100000 in
set_option maxHeartbeats 4000000 in
theorem rescape_any (s : ByteArray) (hs : s.size ≤ 1048576) (i : Nat) (hi : i < s.size) (w : World) : Calls Tryz.prog 59 #[.string s, .int .i64 i] w fun e w' => e = .returned (escV s.data.toList i) ∧ Below w.heap.size w w' := by
  by_cases hl : i + 1 < s.size
  · have HE := Lib.hid (escV_at (l := s.data.toList) (i := i) (by rw [szl]; exact hl))
    have hix := fun W => idx_s (P := Tryz.prog) 9 Tryz.underlying9 s .i64 (i + 1) (i + 1) (by push_cast; rfl) hl W
    have hx := byteN_lt s.data.toList (i + 1)
    generalize byteN s.data.toList (i + 1) = x at HE hix hx
    by_cases h1 : x = 110
    · subst h1
      go_enter Tryz.func59, Tryz.ntmps59
      go_wp2
      go_returns
      exact ⟨by rw [HE.out]; simp, Below.refl _ _⟩
    have d1 : ((x : Int) == 110) = false := by simp; omega
    by_cases h2 : x = 116
    · subst h2
      go_enter Tryz.func59, Tryz.ntmps59
      go_wp2
      go_returns
      exact ⟨by rw [HE.out]; simp, Below.refl _ _⟩
    have d2 : ((x : Int) == 116) = false := by simp; omega
    by_cases h3 : x = 114
    · subst h3
      go_enter Tryz.func59, Tryz.ntmps59
      go_wp2
      go_returns
      exact ⟨by rw [HE.out]; simp, Below.refl _ _⟩
    have d3 : ((x : Int) == 114) = false := by simp; omega
    by_cases h4 : x = 48
    · subst h4
      go_enter Tryz.func59, Tryz.ntmps59
      go_wp2
      go_returns
      exact ⟨by rw [HE.out]; simp, Below.refl _ _⟩
    have d4 : ((x : Int) == 48) = false := by simp; omega
    by_cases h5 : x = 92
    · subst h5
      go_enter Tryz.func59, Tryz.ntmps59
      go_wp2
      go_returns
      exact ⟨by rw [HE.out]; simp, Below.refl _ _⟩
    have d5 : ((x : Int) == 92) = false := by simp; omega
    by_cases h6 : x = 39
    · subst h6
      go_enter Tryz.func59, Tryz.ntmps59
      go_wp2
      go_returns
      exact ⟨by rw [HE.out]; simp, Below.refl _ _⟩
    have d6 : ((x : Int) == 39) = false := by simp; omega
    by_cases h7 : x = 34
    · subst h7
      go_enter Tryz.func59, Tryz.ntmps59
      go_wp2
      go_returns
      exact ⟨by rw [HE.out]; simp, Below.refl _ _⟩
    have d7 : ((x : Int) == 34) = false := by simp; omega
    by_cases h8 : x = 120
    · subst h8
      clear h1 h2 h3 h4 h5 h6 h7
      by_cases hl3 : i + 3 < s.size
      · have hix2 := fun W => idx_s (P := Tryz.prog) 9 Tryz.underlying9 s .i64 (i + 2) (i + 2) (by push_cast; rfl) (by omega) W
        have hix3 := fun W => idx_s (P := Tryz.prog) 9 Tryz.underlying9 s .i64 (i + 3) (i + 3) (by push_cast; rfl) (by omega) W
        have HC2 := Lib.hid (fun W => rhex_any (byteN s.data.toList (i + 2)) (byteN_lt _ _) W)
        have HC3 := Lib.hid (fun W => rhex_any (byteN s.data.toList (i + 3)) (byteN_lt _ _) W)
        have hy := hexI_le (byteN s.data.toList (i + 2))
        have hz := hexI_le (byteN s.data.toList (i + 3))
        generalize hexI (byteN s.data.toList (i + 2)) = y at HE HC2 hy
        generalize hexI (byteN s.data.toList (i + 3)) = z at HE HC3 hz
        generalize byteN s.data.toList (i + 2) = yc at hix2 HC2
        generalize byteN s.data.toList (i + 3) = zc at hix3 HC3
        by_cases hy0 : 0 ≤ y
        · by_cases hz0 : 0 ≤ z
          · go_enter Tryz.func59, Tryz.ntmps59
            go_wp2_with (first
              | (go_at_call 79; (with_reducible refine (HC2.out _).mono ?_); rintro e w' ⟨rfl, rfl⟩)
              | (go_at_call 79; (with_reducible refine (HC3.out _).mono ?_); rintro e w' ⟨rfl, rfl⟩))
            refine wp_region_ext (by kernel_rfl) (by kernel_rfl) ?_
            repeat (first | go_big_quiet_skip | (go_big_quiet_want; go_big_quiet_op; first | go_big_quiet_on | (apply Exists.intro; refine ⟨fun W hW => ?_, ?_⟩; (focus (first
              | (go_at_call 79; (with_reducible refine (HC2.out _).mono ?_); rintro e w1 ⟨rfl, rfl⟩; exact ⟨rfl, hW⟩)
                | (go_at_call 79; (with_reducible refine (HC3.out _).mono ?_); rintro e w1 ⟨rfl, rfl⟩; exact ⟨rfl, hW⟩)
              | exact rfl | (obtain ⟨hcW, hfW, hzW⟩ := cif (Ext.of hW); (try simp only [World.size_alloc, World.size_setCell, World.size_drew, World.heap_drewN] at hzW); simp [go_sem, *, ↓IntWalk.iteOmega]; (try exact rfl)))); go_big_quiet_on)))
            refine wpQuiet_nil ?_
            intro w' hw'
            have hbl := Ext.of hw'
            obtain ⟨hc, hf, hz⟩ := cif hbl
            (try simp only [World.size_alloc, World.size_setCell, World.size_drew, World.heap_drewN] at hz)
            clear hw'
            go_wp2
            go_returns
            exact ⟨by rw [HE.out]; simp [szl, hl3, hy0, hz0], hbl⟩
          · go_enter Tryz.func59, Tryz.ntmps59
            go_wp2_with (first
              | (go_at_call 79; (with_reducible refine (HC2.out _).mono ?_); rintro e w' ⟨rfl, rfl⟩)
              | (go_at_call 79; (with_reducible refine (HC3.out _).mono ?_); rintro e w' ⟨rfl, rfl⟩))
            go_returns
            exact ⟨by rw [HE.out]; simp; omega, Below.refl _ _⟩
        · go_enter Tryz.func59, Tryz.ntmps59
          go_wp2_with (first
              | (go_at_call 79; (with_reducible refine (HC2.out _).mono ?_); rintro e w' ⟨rfl, rfl⟩))
          go_returns
          exact ⟨by rw [HE.out]; simp; omega, Below.refl _ _⟩
      · go_enter Tryz.func59, Tryz.ntmps59
        go_wp2
        go_returns
        exact ⟨by rw [HE.out]; simp [szl, hl3], Below.refl _ _⟩
    have d8 : ((x : Int) == 120) = false := by simp; omega
    go_enter Tryz.func59, Tryz.ntmps59
    go_wp2
    go_returns
    exact ⟨by rw [HE.out]; simp [h1, h2, h3, h4, h5, h6, h7, h8], Below.refl _ _⟩
  · have HE := Lib.hid (escV_end (l := s.data.toList) (i := i) (by rw [szl]; omega))
    go_enter Tryz.func59, Tryz.ntmps59
    go_wp2
    go_returns
    exact ⟨by rw [HE.out]; rfl, Below.refl _ _⟩
end Go.Proofs.YteplbbjmbhgllaaGreatDoor
