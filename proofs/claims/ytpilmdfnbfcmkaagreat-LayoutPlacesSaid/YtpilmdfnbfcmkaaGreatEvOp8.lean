/-
  All operations. No program in sight.
-/
import Derived.Test.YtpilmdfnbfcmkaaGreatEvOp7
namespace Go.Proofs.YtpilmdfnbfcmkaaGreat.Ev
set_option linter.unusedVariables false
set_option linter.unusedSimpArgs false

section
variable {P : Program} {T : Tab} {call : CallF} {env : L2} {m : Mem} {k : K} {a : Value} {mm : Mem}
/-- what is known of an operation that the reckoner did -/
structure Done (P : Program) (op : Op) (env : L2) (m : Mem) (v : Value) (m' : Mem) : Prop where
  ops : OpS P op env m v m'
  light : clsOf op = 0 → LightS P op env m v m'
  reads : clsOf op = 1 → m' = m ∧ ReadS P op env m v
theorem Done.pure {op : Op} {v : Value} (h : PureS P op env v) : Done P op env m v m := ⟨h.ops m, fun _ => .inl ⟨rfl, h⟩, fun _ => ⟨rfl, fun ρ w o a ho _ hS => h ρ w o a ho hS⟩⟩
theorem Done.make {op : Op} {v : Value} {b : Bk} {m' : Mem} (h : MakeS P op env m.next v b) (h2 : m'.next = m.next + 1) (h3 : ∀ j, m'.heap.find j = if j = m.next then some b else m.heap.find j) (hc : clsOf op = 0) : Done P op env m v m' :=
  ⟨h.ops rfl h2 h3, fun _ => .inr ⟨b, h, h2, h3⟩, fun h => by rw [hc] at h; cases h⟩
theorem Done.act {op : Op} {v : Value} {m' : Mem} (h : OpS P op env m v m') (hc : clsOf op = 3) : Done P op env m v m' := ⟨h, fun h => (by rw [hc] at h; cases h), fun h => (by rw [hc] at h; cases h)⟩
theorem Done.read {op : Op} {v : Value} (h : ReadS P op env m v) (hc : clsOf op = 1) : Done P op env m v m := ⟨h.ops, fun h => (by rw [hc] at h; cases h), fun _ => ⟨rfl, h⟩⟩
theorem op_sound (hT : TabOk P T) (hC : CallOk P call) {op : Op} (h : opF op T call env m k = .ok a mm) : ∃ v m', k v m' = .ok a mm ∧ Done P op env m v m' := by
  have pur : (∃ v, k v m = .ok a mm ∧ PureS P op env v) → ∃ v m', k v m' = .ok a mm ∧ Done P op env m v m' := fun ⟨v, h1, h2⟩ => ⟨v, m, h1, .pure h2⟩
  have mak : (clsOf op = 0) → (∃ v b m', k v m' = .ok a mm ∧ MakeS P op env m.next v b ∧ m'.next = m.next + 1 ∧ ∀ j, m'.heap.find j = if j = m.next then some b else m.heap.find j) → ∃ v m', k v m' = .ok a mm ∧ Done P op env m v m' :=
    fun hc ⟨v, b, m', h1, h2, h3, h4⟩ => ⟨v, m', h1, .make h2 h3 h4 hc⟩
  have act : (clsOf op = 3) → (∃ v m', k v m' = .ok a mm ∧ OpS P op env m v m') → ∃ v m', k v m' = .ok a mm ∧ Done P op env m v m' := fun hc ⟨v, m', h1, h2⟩ => ⟨v, m', h1, .act h2 hc⟩
  have rd : (clsOf op = 1) → (∃ v, k v m = .ok a mm ∧ ReadS P op env m v) → ∃ v m', k v m' = .ok a mm ∧ Done P op env m v m' := fun hc ⟨v, h1, h2⟩ => ⟨v, m, h1, .read h2 hc⟩
  cases op with
  | move x => exact pur (mv_ok (T := T) (call := call) rfl (fun o c ho => by unfold execOp; rw [ho]; rfl) h)
  | assign x => exact pur (mv_ok (T := T) (call := call) rfl (fun o c ho => by unfold execOp; rw [ho]; rfl) h)
  | pick x y z => exact pur (pick_ok (T := T) (call := call) h)
  | alloc t => exact mak rfl (alloc_ok (call := call) hT h)
  | box t x => exact mak rfl (box_ok (T := T) (call := call) h)
  | build t ps => exact pur (build_ok (call := call) hT h)
  | buildSlice t n ps => exact mak rfl (buildSlice_ok (call := call) hT h)
  | insert a b c d => cases h
  | load t x => exact rd rfl (load_op_ok (call := call) hT h)
  | store t x y => exact act rfl (store_op_ok (call := call) hT h)
  | ready g => cases h
  | waits g => cases h
  | nilCheck x => exact pur (nil_ok (T := T) (call := call) h)
  | binOp op t x y t2 => exact pur (bin_ok (call := call) hT h)
  | unOp op t x => exact pur (un_ok (T := T) (call := call) h)
  | convert s d x => exact rd rfl (conv_ok (call := call) hT h)
  | sliceToArrayPointer d x => cases h
  | makeInterface t x => exact pur (iface_ok (call := call) hT h)
  | makeFunc f a b => exact pur (func_ok (T := T) (call := call) h)
  | makeMap t r => exact mak rfl (map_ok (T := T) (call := call) h)
  | makeChan t s => cases h
  | makeSlice t x y => exact mak rfl (makeSlice_ok (call := call) hT h)
  | slice t x lo hi mx =>
    obtain ⟨v, m', h1, h2⟩ := slice_ok (call := call) hT h
    exact ⟨v, m', h1, h2.ops, fun _ => h2, fun h => by cases h⟩
  | fieldAddr t x f => exact pur (fieldAddr_ok (call := call) hT h)
  | field t x f => exact pur (field_ok (call := call) hT h)
  | indexAddr t x i => exact pur (indexAddr_ok (call := call) hT h)
  | index t x i => exact pur (index_ok (call := call) hT h)
  | lookup t x i ok => exact rd rfl (lookup_ok (call := call) hT h)
  | mapUpdate t x y z => exact act rfl (update_ok (call := call) hT h)
  | mapEntry t x y => cases h
  | entryStore t x y z => cases h
  | range t x => exact act rfl (range_ok (call := call) hT h)
  | next it s => exact act rfl (next_ok (T := T) (call := call) h)
  | entry it => exact rd rfl (entry_ok (T := T) (call := call) h)
  | typeAssert x t1 t2 ok => exact pur (assert_ok (call := call) hT h)
  | extract x i => exact pur (extract_ok (T := T) (call := call) h)
  | call c => 
    obtain ⟨v, m', h1, h2, h3⟩ := call_ok hT hC h
    refine ⟨v, m', h1, h2, fun h => ?_, h3⟩
    exfalso
    revert h
    unfold clsOf
    split <;> intro h <;> simp_all
  | go c => cases h
  | «defer» c => cases h
  | panic x => cases h
  | send x y => cases h
  | recv t x ok => cases h
  | select cs b => cases h
end
end Go.Proofs.YtpilmdfnbfcmkaaGreat.Ev
