/- An argument that is a slice of adds (a text and two numbers), opened to a list. -/
import Derived.Test.YtcaglkefhbbnbaaKitB
import Derived.Test.YtcaglkefhbbnbaaLawA
import Derived.Deep.Slices
import Derived.Deep.Fields
namespace Go.Proofs.Ytcaglkefhbbnbaa
open Go.ChangeShapes Go.WideShapes Go.ChangeAt Go.RowKit Go.Deep
set_option linter.unusedVariables false
set_option linter.unusedSimpArgs false

section
variable {H : Type} {enc : TypeId × Value → H} {P : Program} {w : World} {base : Nat} {spare : Nat → Bool} {held : Bool}
theorem open_slice_fields {t e : TypeId} {fs : Array Field} {fuel : Nat} {cs : List Value} {x : DataW H × List MemPlace} (ht : P.underlying t = some (.slice e)) (he : P.underlying e = some (.struct fs))
    (hone : oneCellFields P fs = true) (hC : P.cellsOf e = fs.size) (h : DataW.trod enc P w base spare held fuel t cs = some x) :
    (cs = [.slice none 0 0] ∧ x = (.nil, [])) ∨
    ∃ (a : Addr) (len cap m : Nat) (D : Nat → DataW H) (Pl : Nat → List MemPlace), cs = [.slice (some a) len cap] ∧ base ≤ a.block ∧ len ≤ cap ∧ cap ≤ maxLen ∧ m = (if spare a.block then cap else len) ∧
      x = (.slice ((List.range len).map D) ((List.range (m - len)).map fun j => D (len + j)), MemPlace.row a (m * fs.size) ++ (List.range m).flatMap Pl) ∧
      ∀ i, i < m → ∃ (ys : List (DataW H × List MemPlace)) (n : Nat), D i = .agg (ys.map (·.1)) ∧ Pl i = ys.flatMap (·.2) ∧ ys.length = fs.size ∧
        ∀ (j : Nat) (f : Field), fs[j]? = some f → ∃ (v : Value) (y : DataW H × List MemPlace), w.cell? (a.add (i * fs.size + j)) = some v ∧ ys[j]? = some y ∧ DataW.trod enc P w base spare held n f.type [v] = some y := by
  rcases open_slice ht h with h0 | ⟨a, len, cap, m, n, D, Pl, hcs, hb, hl, hm, hmm, hx, hi⟩
  · exact .inl h0
  · refine .inr ⟨a, len, cap, m, D, Pl, hcs, hb, hl, hm, hmm, by rw [hC] at hx; exact hx, fun i him => ?_⟩
    obtain ⟨cs', hc, ht'⟩ := hi i him
    rw [hC] at hc
    obtain ⟨ys, n', hn', hy, hlen, hyl, hf⟩ := DataW.trod_struct he ht'
    obtain ⟨_, hcl, hat⟩ := World.cells?_some hc
    simp only [Prod.mk.injEq] at hy
    refine ⟨ys, n', hy.1, hy.2, hyl, fun j f hj => ?_⟩
    obtain ⟨ho, hk⟩ := hone_of hone j f hj
    have hjl : j < fs.size := (Array.getElem?_eq_some_iff.1 hj).1
    have hcell := hat j hjl
    have hv : cs'[j]? = some (cs'[j]'(by omega)) := List.getElem?_eq_getElem (by omega)
    have h1 := hf j f hj
    rw [ho, hk] at h1
    have hone' : (cs'.drop j).take 1 = [cs'[j]'(by omega)] := by
      rw [List.drop_eq_getElem_cons (by omega)]
      rfl
    rw [hone'] at h1
    have hys : ys[j]? = some (ys[j]'(by omega)) := List.getElem?_eq_getElem (by omega)
    refine ⟨_, _, ?_, hys, h1.trans hys⟩
    rw [← Go.Deep.add_add, hcell, hv]

theorem list_of_cells (len : Nat) (Q : Nat → AddD → Prop) (h : ∀ i, i < len → ∃ a, Q i a) : ∃ l : List AddD, l.length = len ∧ ∀ i (hi : i < l.length), Q i l[i] := by
  induction len with
  | zero => exact ⟨[], rfl, fun i hi => by simp at hi⟩
  | succ n ih =>
    obtain ⟨l, hl, hq⟩ := ih (fun i hi => h i (by omega))
    obtain ⟨a, ha⟩ := h n (by omega)
    refine ⟨l ++ [a], by simp [hl], fun i hi => ?_⟩
    rw [List.getElem_append]
    split
    · rename_i h1; exact hq i h1
    · rename_i h1
      have : i = n := by simp at hi; omega
      subst this
      simp [hl]
      exact ha

theorem flat3_get {l : List AddD} {j : Nat} {u : Value} (h : (l.flatMap addCells)[j]? = some u) : ∃ (k r : Nat) (hk : k < l.length), r < 3 ∧ j = k * 3 + r ∧ (addCells l[k])[r]? = some u := by
  have hlen : (l.flatMap addCells).length = l.length * 3 := by
    clear h
    induction l with
    | nil => rfl
    | cons a l ih => rw [List.flatMap_cons, List.length_append, ih]; simp [addCells]; omega
  have hj : j < l.length * 3 := by rw [← hlen]; exact (List.getElem?_eq_some_iff.1 h).1
  refine ⟨j / 3, j % 3, by omega, by omega, by omega, ?_⟩
  rw [← flat3 addCells (fun _ => rfl) l (j / 3) (j % 3) (by omega) (by omega)]
  rw [show j / 3 * 3 + j % 3 = j by omega]
  exact h

theorem open_adds {t e : TypeId} {f0 f1 f2 : Field} {v : Value} {d : DataW H} {p : List MemPlace} {r : Reach} {b0 : Nat} (ht : P.underlying t = some (.slice e)) (he : P.underlying e = some (.struct #[f0, f1, f2]))
    (hone : oneCellFields P #[f0, f1, f2] = true) (hC : P.cellsOf e = 3) (u0 : P.underlying f0.type = some .string) (u1 : P.underlying f1.type = some (.int .i64)) (u2 : P.underlying f2.type = some (.int .i64))
    (hv : Value.okWide P w r b0 t v) (h : DataW.Trod enc P w 0 (fun _ => true) true t v d p) (hlt : ∀ x ∈ p, x.block < w.heap.size) :
    ∃ A c l, v = .slice A (List.length (α := AddD) l) c ∧ AddsAt w w.heap.size A l ∧ l.length ≤ maxLen := by
  obtain ⟨a0, len, cap, rfl⟩ := okWide_slice ht hv
  obtain ⟨fuel, hf⟩ := h
  rcases open_slice_fields ht he hone hC hf with ⟨hcs, _⟩ | ⟨a, len', cap', m, D, Pl, hcs, _, hl, hm, hmm, hx, hi⟩
  · simp [Value.cells] at hcs
    obtain ⟨rfl, rfl, rfl⟩ := hcs
    exact ⟨none, 0, [], rfl, Reads.none_, by simp⟩
  · simp [Value.cells] at hcs
    obtain ⟨rfl, rfl, rfl⟩ := hcs
    simp at hmm
    subst hmm
    obtain ⟨l, hll, hq⟩ := list_of_cells len (fun i x => w.cell? (a.add (i * 3 + 0)) = some (.string x.key) ∧ w.cell? (a.add (i * 3 + 1)) = some (.int .i64 x.at_) ∧ w.cell? (a.add (i * 3 + 2)) = some (.int .i64 x.n)) (fun i hi' => by
      obtain ⟨ys, n, _, _, _, hfj⟩ := hi i (by omega)
      obtain ⟨v0, y0, c0, _, r0⟩ := hfj 0 f0 rfl
      obtain ⟨v1, y1, c1, _, r1⟩ := hfj 1 f1 rfl
      obtain ⟨v2, y2, c2, _, r2⟩ := hfj 2 f2 rfl
      obtain ⟨s, e0, _⟩ := DataW.trod_string u0 r0
      obtain ⟨n1, e1, _⟩ := DataW.trod_int u1 r1
      obtain ⟨n2, e2, _⟩ := DataW.trod_int u2 r2
      simp at e0 e1 e2
      subst e0 e1 e2
      exact ⟨⟨s, n1, n2⟩, c0, c1, c2⟩)
    refine ⟨some a, m, l, by rw [hll], ?_, by omega⟩
    by_cases h0 : len = 0
    · subst h0
      have : l = [] := List.eq_nil_of_length_eq_zero hll
      subst this
      exact Reads.none_
    · refine Reads.of_add ?_ (by decide) ?_ ?_
      · clear hq hll
        induction l with
        | nil => rfl
        | cons a l ih => rw [List.flatMap_cons, List.length_append, ih]; simp [addCells]; omega
      · have hin : MemPlace.cell a.block a.off ∈ p := by
          simp only [Prod.mk.injEq] at hx
          rw [hx.2]
          refine List.mem_append_left _ ?_
          have hm0 : 0 < m * 3 := by omega
          simp only [MemPlace.row]
          refine List.mem_map.2 ⟨0, List.mem_range.2 hm0, ?_⟩
          simp
        exact hlt _ hin
      · intro j u hu
        obtain ⟨k, r, hk, hr, rfl, hu'⟩ := flat3_get hu
        have hqk := hq k hk
        match r, hr, hu' with
        | 0, _, hu' => simp [addCells] at hu'; subst hu'; exact hqk.1
        | 1, _, hu' => simp [addCells] at hu'; subst hu'; exact hqk.2.1
        | 2, _, hu' => simp [addCells] at hu'; subst hu'; exact hqk.2.2
end
end Go.Proofs.Ytcaglkefhbbnbaa
