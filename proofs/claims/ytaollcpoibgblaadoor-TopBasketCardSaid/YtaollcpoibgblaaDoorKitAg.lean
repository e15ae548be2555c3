/- General lemmas on structs and arrays by value: a store of all cells of a block just made. No conditions. -/
import Derived.Test.YtaollcpoibgblaaDoorKitA
import Derived.Deep.MidRow
namespace Go.Proofs.YtaollcpoibgblaaDoor
open Go.ChangeShapes Go.WideShapes Go.ChangeAt Go.RowKit
set_option linter.unusedVariables false
set_option linter.unusedSimpArgs false

theorem setRow_new (W : World) (old cells : Array Value) (t : TypeId) : (W.alloc (.cells old t)).setRow W.heap.size cells = W.alloc (.cells cells t) := by
  have e : ∀ (f : Obj → Obj) (x : Obj), (W.heap.push x).modify W.heap.size f = W.heap.push (f x) := by
    intro f x
    apply Array.ext
    · simp
    · intro i h1 h2
      rw [Array.getElem_modify]
      simp at h1
      by_cases hi : W.heap.size = i
      · subst hi; simp
      · have : i < W.heap.size := by omega
        rw [if_neg hi, Array.getElem_push_lt this, Array.getElem_push_lt this]
  have h1 : ∀ o : Obj, (W.alloc o).heap = W.heap.push o := fun _ => rfl
  unfold World.setRow
  rw [h1, e]
  rfl
theorem wpList_store_new {P : Program} {ops : Array Oper} {rest : List Oper} {o : Oper} {a : Act} {W : World} {Q : Exit → Act → World → Prop} (hgd : o.guard = none) (ty : TypeId) (x y : Operand) (ho : o.op = .store ty x y)
    (cells old : Array Value) (t : TypeId) (g : Nat) (hx : a.eval x = .pointer (some ⟨g, 0, none⟩)) (hy : a.eval y = .agg cells)
    (hi : (P.info? ty).map (·.size) = some cells.size) (hold : old.size = cells.size) (h1 : cells.toList.all (·.oneCell') = true) (hg : g = W.heap.size)
    (h : wpList P ops Q rest (a.put o.dst undef) (W.alloc (.cells cells t))) : wpList P ops Q (o :: rest) a (W.alloc (.cells old t)) := by
  subst hg
  exact wpList_store_row hgd ty x y ho W.heap.size cells hx hy t old (heap_alloc_new W _) hi hold (by simpa using h1) (by rw [setRow_new]; exact h)
theorem alloc3 (w : World) (a b c : Obj) : (((w.alloc a).alloc b).alloc c).heap[w.heap.size + 1 + 1]? = some c ∧ (((w.alloc a).alloc b).alloc c).heap[w.heap.size + 1]? = some b ∧ (((w.alloc a).alloc b).alloc c).heap[w.heap.size]? = some a ∧ Below w.heap.size w (((w.alloc a).alloc b).alloc c) := by
  refine ⟨?_, ?_, ?_, ((Below.refl _ w).alloc (Nat.le_refl _) a |>.alloc (by simp) b).alloc (by simp; omega) c⟩
  · have := heap_alloc_new ((w.alloc a).alloc b) c
    simpa using this
  · rw [Below.heap_alloc _ c _ (by simp)]
    have := heap_alloc_new (w.alloc a) b
    simpa using this
  · rw [Below.heap_alloc _ c _ (by simp; omega), Below.heap_alloc _ b _ (by simp)]
    exact heap_alloc_new w a
theorem alloc2N (w : World) (a b : Obj) : ((w.alloc a).alloc b).heap[w.heap.size + 1]? = some b ∧ ((w.alloc a).alloc b).heap[w.heap.size]? = some a ∧ Below w.heap.size w ((w.alloc a).alloc b) ∧ ((w.alloc a).alloc b).heap.size = w.heap.size + 1 + 1 := by
  refine ⟨?_, ?_, (Below.refl _ w).alloc (Nat.le_refl _) a |>.alloc (by simp) b, by simp⟩
  · have := heap_alloc_new (w.alloc a) b
    simpa using this
  · rw [Below.heap_alloc _ b _ (by simp)]
    exact heap_alloc_new w a
/-- A struct or an array by value: so many cells, whatever they are. -/
def AgN (n : Nat) (v : Value) : Prop := ∃ cs : List Value, v = .agg cs.toArray ∧ cs.length = n ∧ ∀ u ∈ cs, u.oneCell' = true
end Go.Proofs.YtaollcpoibgblaaDoor
