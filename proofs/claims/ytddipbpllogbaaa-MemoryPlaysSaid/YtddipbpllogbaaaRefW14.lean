/-
  The reference's memory: a block more; what is loaded, joined.
-/
import Derived.Test.YtddipbpllogbaaaRefW2
import Derived.ArgAppend
namespace Go.Proofs.Ytddipbpllogbaaa
open Go.RowKit
set_option linter.unusedVariables false
set_option linter.unusedSimpArgs false

/-- An append to an own row: the row stays, or it is new. -/
theorem append_one {P : Program} {w : World} (base : Nat) (t ty e : TypeId) (i : TypeInfo) (z : Value) (size bytes : Nat) (ht : P.underlying t = some (.slice e)) (hi : P.info? e = some i) (hz : i.zero = some z)
    (hsize : i.size = size) (hby : i.bytes = bytes) (hzs : z.cells.size = size) (hsz : 0 < size)
    (v : Value) (n : Nat) (xs : List Value) (hown : w.ownsRow base e size v n xs)
    (a : Addr) (m c : Nat) (news : List Value) (hl : news.length = m * size) (hnews : ∀ j u, news[j]? = some u → w.cell? (a.add j) = some u) (h1 : ∀ u ∈ news, u.oneCell' = true)
    (h63 : n + m ≤ maxLen) (hbytes : (n + m) * bytes ≤ 140737488355328) (hbase : base ≤ w.heap.size) :
    ∃ v' w', (Builtin.append_ #[t, t] ty #[v, .slice (some a) m c]).run P w = .ok v' w' ∧ w'.ownsRow base e size v' (n + m) (xs ++ news) ∧ w.grownBy w' v.ownBlock ∧ ∀ q, v'.ownBlock = some q → v.ownBlock = some q ∨ w.heap.size ≤ q := by
  obtain ⟨v', w', r1, r2, r3, _⟩ := run_append_own (P := P) w base t ty e i z size bytes ht hi hz hsize hby hzs hsz v n xs hown a m c news hl hnews h1 h63 hbytes hbase
  refine ⟨v', w', r1, r2, r3, fun q hq => ?_⟩
  rcases hown.2 with ⟨rfl, rfl⟩ | ⟨g, cp, cur, rfl, hb, hg, hnc, hcm, hcs, htk⟩
  · obtain rfl : xs = [] := List.eq_nil_of_length_eq_zero (by simpa using hown.1)
    obtain ⟨v2, w2, s1, s2, _⟩ := run_append_own (P := P) w w.heap.size t ty e i z size bytes ht hi hz hsize hby hzs hsz (.slice none 0 0) 0 [] (World.ownsRow_nil _ _ _ _) a m c news hl hnews h1 h63 hbytes (Nat.le_refl _)
    rw [r1] at s1
    injection s1 with s1 s1'
    subst s1 s1'
    exact .inr (s2.lt q hq).1
  · rcases Nat.lt_or_ge cp (n + m) with hgr | hroom
    · have holds : ∀ (j : Nat) (u : Value), xs[j]? = some u → w.cell? ((⟨g, 0, none⟩ : Addr).add j) = some u := hown.cells (g := g) rfl
      obtain ⟨v2, w2, s1, s2, _⟩ := run_append_arg_grows (P := P) w t ty e i z size bytes ht hi hz hsize hby hzs hsz ⟨g, 0, none⟩ n cp xs hown.1 holds a m c news hl hnews hgr h63 hbytes
      rw [r1] at s1
      injection s1 with s1 s1'
      subst s1 s1'
      exact .inr (s2.lt q hq).1
    · subst hsize
      have hspare : ∀ j, j < news.length → (w.cell? ⟨g, 0 + n * i.size + j, none⟩).isSome = true := fun j hj => by
        rw [Lib.cell_of_heap hg, Nat.zero_add]
        have h2 : n * i.size + j < cur.size := by
          rw [hcs]
          have h3 : (n + m) * i.size ≤ cp * i.size := Nat.mul_le_mul_right _ hroom
          rw [Nat.add_mul] at h3
          omega
        simp [h2]
      have s1 := run_append_room_cells (P := P) w t ty e i ht hi g 0 n cp a m c news hl hnews h1 hroom hspare (fun j _ => Lib.frozen_of_heap hg _)
      rw [r1] at s1
      injection s1 with s1 s1'
      rw [s1] at hq
      exact .inl hq

def newRB (g b p n : Nat) : RB := ⟨g, b, p, 0, List.replicate n 0, List.replicate n 0, fun _ => none, true, false⟩
theorem made8 (n : Nat) : madeCells #[Value.int .u8 0] n = ((List.replicate n (0 : Int)).map (Value.int .u8)).toArray := by
  apply Array.ext
  · rw [size_madeCells]; simp
  · intro i h1 h2
    simp [madeCells, Nat.mod_one]
/-- One block more. -/
theorem RefS.grow {w W4 W5 : World} {base rm cap : Nat} {s v' : Value} {R : List RB} (h : RefS w base rm s cap R) (hcap : cap + 1 < 288230376151711744) (n : Nat) (hn : n ≤ 16777216) (g b p : Nat)
    (hb : Below w.heap.size w W4) (hg : W4.heap[g]? = some (.cells ((List.replicate n (0 : Int)).map (Value.int .u8)).toArray 5 (0, 0))) (hbb : W4.heap[b]? = some (.cells ((List.replicate n (0 : Int)).map (Value.int .u8)).toArray 5 (0, 0))) (hp : W4.heap[p]? = some (.map #[] 0))
    (hlo : w.heap.size ≤ g ∧ w.heap.size ≤ b ∧ w.heap.size ≤ p ∧ g ≠ b)
    (hrow : W5.ownsRow base 67 5 v' (R.length + 1) (R.flatMap RB.cells ++ (newRB g b p n).cells)) (hgr : W4.grownBy W5 s.ownBlock) (hnew : ∀ q, v'.ownBlock = some q → s.ownBlock = some q ∨ W4.heap.size ≤ q) :
    RefLeft w (W5.setCell ⟨rm, 0, none⟩ v') base rm s R (cap + 1) v' (R ++ [newRB g b p n]) := by
  have hrm := lt_of_block h.top
  have hsz := hb.size
  have hlom := h.lo
  have hso : ∀ q, s.ownBlock = some q → ∃ cur, w.heap[q]? = some (.cells cur 67 (0, 0)) := fun q hq => by
    rcases h.row.2 with ⟨h2, _⟩ | ⟨g', cp, cur, e1, _, e3, _⟩
    · rw [h2] at hq; cases hq
    · rw [e1] at hq
      simp only [Value.ownBlock, Option.some.injEq] at hq
      subst hq
      exact ⟨cur, e3⟩
  have hvo : ∀ q, v'.ownBlock = some q → ∃ cur, W5.heap[q]? = some (.cells cur 67 (0, 0)) := fun q hq => by
    rcases hrow.2 with ⟨h2, _⟩ | ⟨g', cp, cur, e1, _, e3, _⟩
    · rw [h2] at hq; cases hq
    · rw [e1] at hq
      simp only [Value.ownBlock, Option.some.injEq] at hq
      subst hq
      exact ⟨cur, e3⟩
  have hns : ∀ {i : Nat} {cs : Array Value} {t : TypeId}, w.heap[i]? = some (.cells cs t (0, 0)) → t ≠ 67 → some i ≠ s.ownBlock := fun {i cs t} hi ht e => by
    obtain ⟨cur, e3⟩ := hso i e.symm
    rw [e3] at hi
    simp only [Option.some.injEq, Obj.cells.injEq] at hi
    exact ht hi.2.1.symm
  have hnm : ∀ {i : Nat} {es : Array MapEntry} {cl : Nat}, w.heap[i]? = some (.map es cl) → some i ≠ s.ownBlock := fun {i es cl} hi e => by
    obtain ⟨cur, e3⟩ := hso i e.symm
    rw [e3] at hi
    simp at hi
  have h5 : ∀ i, i < w.heap.size → some i ≠ s.ownBlock → W5.heap[i]? = w.heap[i]? := fun i hi hne => (hgr.block i (by omega) hne).trans (hb.block i hi)
  have hsl : ∀ q, s.ownBlock = some q → q < w.heap.size := fun q hq => by
    obtain ⟨cur, e⟩ := hso q hq
    exact lt_of_block e
  have h5n : ∀ i, w.heap.size ≤ i → i < W4.heap.size → W5.heap[i]? = W4.heap[i]? := fun i hi hi2 => hgr.block i hi2 (fun e => by have := hsl i e.symm; omega)
  have htop5 : W5.heap[rm]? = some (.cells #[s] 29 (0, 0)) := (h5 rm hrm (hns h.top (by decide))).trans h.top
  have h6 : ∀ i, i ≠ rm → (W5.setCell ⟨rm, 0, none⟩ v').heap[i]? = W5.heap[i]? := fun i hi => heap_set_ne _ _ _ hi
  have hvr : v'.ownBlock ≠ some rm := fun e => by
    obtain ⟨cur, e3⟩ := hvo rm e
    rw [htop5] at e3
    simp at e3
  have hkeep : ∀ (k : Nat) (C : RB), R[k]? = some C → C.live = true → RBAt (W5.setCell ⟨rm, 0, none⟩ v') C := fun k C hk hl => by
    have hC := h.at_ k C hk hl
    have hlt := hC.lt
    obtain ⟨es, cl, ho⟩ := hC.pcs.obj
    refine hC.block fun i hi => ?_
    rcases hi with rfl | rfl | rfl
    · rw [h6 _ (fun e => by have h1 := hC.kinds; rw [e, h.top] at h1; simp at h1)]
      exact h5 _ hlt.1 (hns hC.kinds (by decide))
    · rw [h6 _ (fun e => by have h1 := hC.bytes; rw [e, h.top] at h1; simp at h1)]
      exact h5 _ hlt.2.1 (hns hC.bytes (by decide))
    · rw [h6 _ (map_ne ho h.top)]
      exact h5 _ hlt.2.2 (hnm ho)
  have hget : ∀ (k : Nat) (C : RB), (R ++ [newRB g b p n])[k]? = some C → (k < R.length ∧ R[k]? = some C) ∨ (k = R.length ∧ C = newRB g b p n) := fun k C hk => by
    rcases Nat.lt_or_ge k R.length with h1 | h1
    · rw [List.getElem?_append_left h1] at hk; exact .inl ⟨h1, hk⟩
    · rw [List.getElem?_append_right h1] at hk
      have : k - R.length = 0 := by
        rcases Nat.eq_zero_or_pos (k - R.length) with h2 | h2
        · exact h2
        · rw [List.getElem?_eq_none (by simp only [List.length_cons, List.length_nil]; omega)] at hk; cases hk
      rw [this] at hk
      simp at hk
      exact .inr ⟨by omega, hk.symm⟩
  have hg4 := lt_of_block hg
  have hb4 := lt_of_block hbb
  have hp4 := lt_of_block hp
  refine { mem := { top := ?_, row := ?_, lo := h.lo, len := ?_, keys := fun k C hk hl => ?_, at_ := fun k C hk hl => ?_, apart := fun i k C D hi hk hC hD hik => ?_ }, low := ?_, foot := fun i hi hno => ?_, own := fun i hi => ?_ }
  · rw [heap_set_at htop5]; rfl
  · rw [List.length_append, List.flatMap_append]
    have e : [newRB g b p n].flatMap RB.cells = (newRB g b p n).cells := by simp
    rw [e]
    exact row_keep hrow fun i hi => h6 i (fun e => hvr (by rw [hi, e]))
  · rw [List.length_append]
    have := h.len
    exact ⟨by simp; omega, hcap⟩
  · rcases hget k C hk with ⟨_, hk⟩ | ⟨rfl, rfl⟩
    · obtain ⟨a1, a2, a3, a4, a5, a6, a7, a8⟩ := h.keys k C hk hl
      exact ⟨a1, a2, a3, a4, a5, a6, by omega, a8⟩
    · refine ⟨by show base ≤ g; omega, by show base ≤ b; omega, by show base ≤ p; omega, hlo.2.2.2, by simp [newRB], by simp [newRB, hn], by simp [newRB], fun x hx => ?_, fun x hx => ?_⟩
      · have := (List.mem_replicate.1 hx).2; omega
      · have := (List.mem_replicate.1 hx).2; omega
  · rcases hget k C hk with ⟨_, hk⟩ | ⟨rfl, rfl⟩
    · exact hkeep k C hk hl
    · refine ⟨(h6 _ (by show g ≠ rm; omega)).trans ((h5n _ hlo.1 hg4).trans hg), (h6 _ (by show b ≠ rm; omega)).trans ((h5n _ hlo.2.1 hb4).trans hbb), ?_⟩
      have hpp : (W5.setCell ⟨rm, 0, none⟩ v').heap[p]? = some (.map #[] 0) := (h6 _ (by omega)).trans ((h5n _ hlo.2.2.1 hp4).trans hp)
      refine ⟨.map [], ⟨#[], 0, hpp, ?_⟩, fun j _ => ⟨rfl, fun a h => by cases h⟩⟩
      obtain ⟨es', cl', h1, h2⟩ := World.ownsMap_made (H := Unit) w Try.prog 3 pR
      have h3 := h1.symm.trans (heap_alloc_new w (.map #[] 0))
      simp only [Option.some.injEq, Obj.map.injEq] at h3
      obtain ⟨rfl, rfl⟩ := h3
      exact h2
  · rcases hget i C hi with ⟨_, hi⟩ | ⟨rfl, rfl⟩
    · rcases hget k D hk with ⟨_, hk⟩ | ⟨rfl, rfl⟩
      · exact h.apart i k C D hi hk hC hD hik
      · have hlt := (h.at_ i C hi hC).lt
        exact ⟨by show C.g ≠ g; omega, by show C.g ≠ b; omega, by show C.b ≠ b; omega, by show C.p ≠ p; omega⟩
    · rcases hget k D hk with ⟨_, hk⟩ | ⟨rfl, rfl⟩
      · have hlt := (h.at_ k D hk hD).lt
        exact ⟨by show g ≠ D.g; omega, by show g ≠ D.b; omega, by show b ≠ D.b; omega, by show p ≠ D.p; omega⟩
      · omega
  · refine (((hb.mono (by omega)).grown hgr (by omega) (fun q hq => by have := (h.row.lt q hq).1; exact this))).setCell (p := ⟨rm, 0, none⟩) h.lo _
  · rw [h6 i (fun e => hno (.inl e))]
    exact h5 i hi (fun e => hno (.inr (.inl e.symm)))
  · rcases hi with hi | hi | ⟨k, C, hk, hl, hi⟩
    · exact .inl (.inl hi)
    · rcases hnew i hi with h1 | h1
      · exact .inl (.inr (.inl h1))
      · exact .inr (by omega)
    · rcases hget k C hk with ⟨_, hk⟩ | ⟨rfl, rfl⟩
      · exact .inl (.inr (.inr ⟨k, C, hk, hl, hi⟩))
      · right
        rcases hi with rfl | rfl | rfl
        · exact hlo.1
        · exact hlo.2.1
        · exact hlo.2.2.1

end Go.Proofs.Ytddipbpllogbaaa
