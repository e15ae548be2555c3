/- Arguments of whatever shape, opened: numbers, texts, structs, slices of these. Lemmas over any program. -/
import Derived.Test.YtaollcpoibgblaaDoorKitB
import Derived.Deep.Slices
import Derived.Deep.Strs
import Derived.Lib.SmallJoins
namespace Go.Proofs.YtaollcpoibgblaaDoor
open Go.ChangeShapes Go.WideShapes Go.ChangeAt Go.RowKit Go.Deep
set_option linter.unusedVariables false
set_option linter.unusedSimpArgs false

section
variable {H : Type} {enc : TypeId × Value → H} {P : Program} {w : World}

/-- Whatever is read at a type comes of some a: its cells are e a, and Ex a holds. -/
def Dec (enc : TypeId × Value → H) (P : Program) (w : World) (t : TypeId) {α : Type} (e : α → List Value) (Ex : α → Prop) : Prop :=
  ∀ (fuel : Nat) (cs : List Value) (x : DataW H × List MemPlace), DataW.trod enc P w 0 (fun _ => true) true fuel t cs = some x → (∀ y ∈ x.2, y.block < w.heap.size) → ∃ a, cs = e a ∧ Ex a

theorem dec_string {t : TypeId} (ht : P.underlying t = some .string) : Dec enc P w t (fun s : ByteArray => [.string s]) (fun s => s.size ≤ maxLen) := by
  intro fuel cs x h _
  obtain ⟨s, e, _, hs⟩ := DataW.trod_string ht h
  exact ⟨s, e, hs⟩
theorem dec_int {t : TypeId} {k : IntKind} (ht : P.underlying t = some (.int k)) : Dec enc P w t (fun n : Int => [.int k n]) (fun n => (Lit.int k n).wf = true) := by
  intro fuel cs x h _
  obtain ⟨n, e, _, hn⟩ := DataW.trod_int ht h
  exact ⟨n, e, hn⟩
theorem dec_bool {t : TypeId} (ht : P.underlying t = some .bool) : Dec enc P w t (fun b : Bool => [.bool b]) (fun _ => True) := by
  intro fuel cs x h _
  obtain ⟨b, e, _⟩ := DataW.trod_bool ht h
  exact ⟨b, e, trivial⟩

theorem take_all {cs : List Value} {k : Nat} (h : cs.length = k) : (cs.drop 0).take k = cs := by rw [List.drop_zero, List.take_of_length_le (by omega)]

theorem dec_struct2 {t : TypeId} {f0 f1 : Field} {α β : Type} {e0 : α → List Value} {e1 : β → List Value} {E0 : α → Prop} {E1 : β → Prop}
    (ht : P.underlying t = some (.struct #[f0, f1])) (hc : P.cellsOf t = P.cellsOf f0.type + P.cellsOf f1.type) (o0 : f0.offset = 0) (o1 : f1.offset = P.cellsOf f0.type)
    (d0 : Dec enc P w f0.type e0 E0) (d1 : Dec enc P w f1.type e1 E1) : Dec enc P w t (fun a : α × β => e0 a.1 ++ e1 a.2) (fun a => E0 a.1 ∧ E1 a.2) := by
  intro fuel cs x h hlt
  obtain ⟨y0, y1, n, rfl, hl, h0, h1⟩ := trod_struct2 ht h
  obtain ⟨a, ea, xa⟩ := d0 n _ _ h0 (fun y hy => hlt y (by simp [hy]))
  obtain ⟨b, eb, xb⟩ := d1 n _ _ h1 (fun y hy => hlt y (by simp [hy]))
  refine ⟨(a, b), ?_, xa, xb⟩
  simp only
  rw [← ea, ← eb, o0, o1, List.drop_zero]
  rw [show (cs.drop (P.cellsOf f0.type)).take (P.cellsOf f1.type) = cs.drop (P.cellsOf f0.type) from List.take_of_length_le (by rw [List.length_drop]; omega)]
  exact (List.take_append_drop _ _).symm

theorem dec_struct3 {t : TypeId} {f0 f1 f2 : Field} {α β γ : Type} {e0 : α → List Value} {e1 : β → List Value} {e2 : γ → List Value} {E0 : α → Prop} {E1 : β → Prop} {E2 : γ → Prop}
    (ht : P.underlying t = some (.struct #[f0, f1, f2])) (hc : P.cellsOf t = P.cellsOf f0.type + P.cellsOf f1.type + P.cellsOf f2.type) (o0 : f0.offset = 0) (o1 : f1.offset = P.cellsOf f0.type) (o2 : f2.offset = P.cellsOf f0.type + P.cellsOf f1.type)
    (d0 : Dec enc P w f0.type e0 E0) (d1 : Dec enc P w f1.type e1 E1) (d2 : Dec enc P w f2.type e2 E2) : Dec enc P w t (fun a : α × β × γ => e0 a.1 ++ e1 a.2.1 ++ e2 a.2.2) (fun a => E0 a.1 ∧ E1 a.2.1 ∧ E2 a.2.2) := by
  intro fuel cs x h hlt
  obtain ⟨y0, y1, y2, n, rfl, hl, h0, h1, h2⟩ := trod_struct3 ht h
  obtain ⟨a, ea, xa⟩ := d0 n _ _ h0 (fun y hy => hlt y (by simp [hy]))
  obtain ⟨b, eb, xb⟩ := d1 n _ _ h1 (fun y hy => hlt y (by simp [hy]))
  obtain ⟨c, ec, xc⟩ := d2 n _ _ h2 (fun y hy => hlt y (by simp [hy]))
  refine ⟨(a, b, c), ?_, xa, xb, xc⟩
  simp only
  rw [← ea, ← eb, ← ec, o0, o1, o2, List.drop_zero]
  rw [show (cs.drop (P.cellsOf f0.type + P.cellsOf f1.type)).take (P.cellsOf f2.type) = cs.drop (P.cellsOf f0.type + P.cellsOf f1.type) from List.take_of_length_le (by rw [List.length_drop]; omega)]
  rw [List.append_assoc]
  have e3 : (cs.drop (P.cellsOf f0.type)).take (P.cellsOf f1.type) ++ cs.drop (P.cellsOf f0.type + P.cellsOf f1.type) = cs.drop (P.cellsOf f0.type) := by
    rw [← List.drop_drop]
    exact List.take_append_drop _ _
  rw [e3]
  exact (List.take_append_drop _ _).symm

theorem dec_struct4 {t : TypeId} {f0 f1 f2 f3 : Field} {α β γ δ : Type} {e0 : α → List Value} {e1 : β → List Value} {e2 : γ → List Value} {e3 : δ → List Value} {E0 : α → Prop} {E1 : β → Prop} {E2 : γ → Prop} {E3 : δ → Prop}
    (ht : P.underlying t = some (.struct #[f0, f1, f2, f3])) (hc : P.cellsOf t = P.cellsOf f0.type + P.cellsOf f1.type + P.cellsOf f2.type + P.cellsOf f3.type) (o0 : f0.offset = 0) (o1 : f1.offset = P.cellsOf f0.type) (o2 : f2.offset = P.cellsOf f0.type + P.cellsOf f1.type) (o3 : f3.offset = P.cellsOf f0.type + P.cellsOf f1.type + P.cellsOf f2.type)
    (d0 : Dec enc P w f0.type e0 E0) (d1 : Dec enc P w f1.type e1 E1) (d2 : Dec enc P w f2.type e2 E2) (d3 : Dec enc P w f3.type e3 E3) : Dec enc P w t (fun a : α × β × γ × δ => e0 a.1 ++ e1 a.2.1 ++ e2 a.2.2.1 ++ e3 a.2.2.2) (fun a => E0 a.1 ∧ E1 a.2.1 ∧ E2 a.2.2.1 ∧ E3 a.2.2.2) := by
  intro fuel cs x h hlt
  obtain ⟨y0, y1, y2, y3, n, rfl, hl, h0, h1, h2, h3⟩ := Joins.trod_struct4 ht h
  obtain ⟨a, ea, xa⟩ := d0 n _ _ h0 (fun y hy => hlt y (by simp [hy]))
  obtain ⟨b, eb, xb⟩ := d1 n _ _ h1 (fun y hy => hlt y (by simp [hy]))
  obtain ⟨c, ec, xc⟩ := d2 n _ _ h2 (fun y hy => hlt y (by simp [hy]))
  obtain ⟨d, ed, xd⟩ := d3 n _ _ h3 (fun y hy => hlt y (by simp [hy]))
  refine ⟨(a, b, c, d), ?_, xa, xb, xc, xd⟩
  simp only
  rw [← ea, ← eb, ← ec, ← ed, o0, o1, o2, o3, List.drop_zero]
  rw [show (cs.drop (P.cellsOf f0.type + P.cellsOf f1.type + P.cellsOf f2.type)).take (P.cellsOf f3.type) = cs.drop (P.cellsOf f0.type + P.cellsOf f1.type + P.cellsOf f2.type) from List.take_of_length_le (by rw [List.length_drop]; omega)]
  rw [List.append_assoc, List.append_assoc]
  have e4 : (cs.drop (P.cellsOf f0.type + P.cellsOf f1.type)).take (P.cellsOf f2.type) ++ cs.drop (P.cellsOf f0.type + P.cellsOf f1.type + P.cellsOf f2.type) = cs.drop (P.cellsOf f0.type + P.cellsOf f1.type) := by
    rw [← List.drop_drop (i := P.cellsOf f2.type) (j := P.cellsOf f0.type + P.cellsOf f1.type)]
    exact List.take_append_drop _ _
  have e5 : (cs.drop (P.cellsOf f0.type)).take (P.cellsOf f1.type) ++ cs.drop (P.cellsOf f0.type + P.cellsOf f1.type) = cs.drop (P.cellsOf f0.type) := by
    rw [← List.drop_drop]
    exact List.take_append_drop _ _
  rw [e4, e5]
  exact (List.take_append_drop _ _).symm

/-- A slice's value and what it holds. -/
structure SlD (α : Type) where
  adr : Option Addr
  cap : Nat
  l : List α

def slCells {α : Type} (s : SlD α) : List Value := [.slice s.adr s.l.length s.cap]
def SlEx {α : Type} (w : World) (k : Nat) (e : α → List Value) (Ex : α → Prop) (s : SlD α) : Prop :=
  Reads w w.heap.size k s.adr s.l.length (s.l.flatMap e) ∧ s.l.length ≤ maxLen ∧ (∀ a ∈ s.l, Ex a) ∧ (s.adr = none → s.cap = 0)

theorem list_of_places {α : Type} (len : Nat) (Q : Nat → α → Prop) (h : ∀ i, i < len → ∃ a, Q i a) : ∃ l : List α, l.length = len ∧ ∀ i (hi : i < l.length), Q i l[i] := by
  induction len with
  | zero => exact ⟨[], rfl, fun i hi => by simp at hi⟩
  | succ n ih =>
    obtain ⟨l, hl, hq⟩ := ih (fun i hi => h i (by omega))
    obtain ⟨a, ha⟩ := h n (by omega)
    refine ⟨l ++ [a], by simp [hl], fun i hi => ?_⟩
    rw [List.getElem_append]
    split
    · rename_i h1; exact hq i h1
    · rename_i h1
      have : i = n := by simp at hi; omega
      subst this
      simp [hl]
      exact ha

theorem flat_len {α : Type} {e : α → List Value} {k : Nat} (he : ∀ a, (e a).length = k) (l : List α) : (l.flatMap e).length = l.length * k := by
  induction l with
  | nil => simp
  | cons a l ih => rw [List.flatMap_cons, List.length_append, ih, he, List.length_cons, Nat.succ_mul]; omega

theorem flat_getE {α : Type} {e : α → List Value} {k : Nat} (he : ∀ a, (e a).length = k) (l : List α) (i r : Nat) (hi : i < l.length) (hr : r < k) : (l.flatMap e)[i * k + r]? = (e l[i])[r]? := by
  induction l generalizing i with
  | nil => simp at hi
  | cons a l ih =>
    rw [List.flatMap_cons]
    cases i with
    | zero => rw [List.getElem?_append_left (by rw [he]; omega)]; simp
    | succ j =>
      rw [List.getElem?_append_right (by rw [he, Nat.succ_mul]; omega)]
      have : (j + 1) * k + r - (e a).length = j * k + r := by rw [he, Nat.succ_mul]; omega
      rw [this, ih j (by simpa using hi)]
      simp

theorem flat_get {α : Type} {e : α → List Value} {k : Nat} (hk : 0 < k) (he : ∀ a, (e a).length = k) {l : List α} {j : Nat} {u : Value} (h : (l.flatMap e)[j]? = some u) : ∃ (i r : Nat) (hi : i < l.length), r < k ∧ j = i * k + r ∧ (e l[i])[r]? = some u := by
  have hj : j < l.length * k := by rw [← flat_len he]; exact (List.getElem?_eq_some_iff.1 h).1
  have hi : j / k < l.length := Nat.div_lt_of_lt_mul (by rw [Nat.mul_comm]; exact hj)
  have hr : j % k < k := Nat.mod_lt _ hk
  have hjj : j = j / k * k + j % k := by have := Nat.div_add_mod j k; rw [Nat.mul_comm]; omega
  refine ⟨j / k, j % k, hi, hr, hjj, ?_⟩
  rw [← flat_getE he l (j / k) (j % k) hi hr, ← hjj]
  exact h

theorem dec_slice {t e : TypeId} {α : Type} {ea : α → List Value} {Ex : α → Prop} {k : Nat} (ht : P.underlying t = some (.slice e)) (hk : 0 < k) (hC : P.cellsOf e = k) (he : ∀ a, (ea a).length = k) (d : Dec enc P w e ea Ex) :
    Dec enc P w t (slCells (α := α)) (SlEx w k ea Ex) := by
  intro fuel cs x h hlt
  rcases open_slice ht h with ⟨rfl, rfl⟩ | ⟨a, len, cap, m, n, D, Pl, rfl, _, hl, hm, hmm, rfl, hi⟩
  · exact ⟨⟨none, 0, []⟩, rfl, Reads.none_, by simp, by simp, fun _ => rfl⟩
  · simp at hmm
    subst hmm
    rw [hC] at hi hlt
    obtain ⟨l, hll, hq⟩ := list_of_places len (fun i b => w.cells? 0 (a.add (i * k)) k = some (ea b) ∧ Ex b) (fun i hi' => by
      obtain ⟨cs', h1, h2⟩ := hi i (by omega)
      obtain ⟨b, rfl, hb⟩ := d n cs' _ h2 (fun y hy => hlt y (by
        refine List.mem_append_right _ (List.mem_flatMap.2 ⟨i, List.mem_range.2 (by omega), hy⟩)))
      exact ⟨b, h1, hb⟩)
    refine ⟨⟨some a, m, l⟩, by simp [slCells, hll], ?_, by show l.length ≤ _; omega, fun b hb => ?_, fun h => by cases h⟩
    · show Reads w w.heap.size k (some a) l.length (l.flatMap ea)
      by_cases h0 : l.length = 0
      · have : l = [] := List.eq_nil_of_length_eq_zero h0
        subst this
        exact Reads.none_
      · refine Reads.of_add (flat_len he l) hk ?_ ?_
        · refine hlt (MemPlace.cell a.block a.off) (List.mem_append_left _ ?_)
          simp only [MemPlace.row]
          refine List.mem_map.2 ⟨0, List.mem_range.2 (Nat.mul_pos (by omega) hk), ?_⟩
          simp
        · intro j u hu
          obtain ⟨i, r, hil, hr, rfl, hu'⟩ := flat_get hk he hu
          obtain ⟨hc, _⟩ := hq i hil
          obtain ⟨_, hcl, hat⟩ := World.cells?_some hc
          rw [← Go.Deep.add_add, hat r hr, hu']
    · obtain ⟨i, hil, rfl⟩ := List.getElem_of_mem hb
      exact (hq i hil).2

theorem Dec.map {t : TypeId} {α β : Type} {e : α → List Value} {Ex : α → Prop} {e' : β → List Value} {Ex' : β → Prop} (d : Dec enc P w t e Ex) (f : α → β) (he : ∀ a, e a = e' (f a)) (hx : ∀ a, Ex a → Ex' (f a)) : Dec enc P w t e' Ex' := by
  intro fuel cs x h hlt
  obtain ⟨a, ea, xa⟩ := d fuel cs x h hlt
  exact ⟨f a, ea.trans (he a), hx a xa⟩

/-- An argument. -/
theorem Dec.open_ {t : TypeId} {α : Type} {e : α → List Value} {Ex : α → Prop} (d : Dec enc P w t e Ex) {v : Value} {x : DataW H} {p : List MemPlace} (h : DataW.Trod enc P w 0 (fun _ => true) true t v x p) (hlt : ∀ y ∈ p, y.block < w.heap.size) : ∃ a, v.cells.toList = e a ∧ Ex a := by
  obtain ⟨fuel, hf⟩ := h
  exact d fuel _ _ hf hlt
theorem Dec.open_slice {t e : TypeId} {α : Type} {ea : α → List Value} {Ex : α → Prop} {k : Nat} {r : Reach} {b0 : Nat} (d : Dec enc P w t (slCells (α := α)) (SlEx w k ea Ex)) (ht : P.underlying t = some (.slice e)) {v : Value} {x : DataW H} {p : List MemPlace} (hv : Value.okWide P w r b0 t v) (h : DataW.Trod enc P w 0 (fun _ => true) true t v x p) (hlt : ∀ y ∈ p, y.block < w.heap.size) :
    ∃ A c l, v = .slice A (List.length (α := α) l) c ∧ Reads w w.heap.size k A l.length (l.flatMap ea) ∧ l.length ≤ maxLen ∧ (∀ a ∈ l, Ex a) ∧ (A = none → c = 0) := by
  obtain ⟨a0, len, cap, rfl⟩ := okWide_slice ht hv
  obtain ⟨⟨A, c, l⟩, h1, h2, h3, h4, h5⟩ := d.open_ h hlt
  simp [slCells, Value.cells] at h1
  obtain ⟨rfl, rfl, rfl⟩ := h1
  exact ⟨_, _, l, rfl, h2, h3, h4, h5⟩
end
end Go.Proofs.YtaollcpoibgblaaDoor
