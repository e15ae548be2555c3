/- Plain: the union of rows of ranges. -/
import Derived.Test.YtcladmcbhnmhiaaDdM
namespace Go.Proofs.Ytcladmcbhnmhiaa
open Go.ChangeShapes Go.WideShapes Go.ChangeAt Go.RowKit Go.Shelf Go.Lib Go.Sort Go.Proofs
set_option linter.unusedVariables false
set_option linter.unusedSimpArgs false

/-- One range more, in a row that rises. -/
def mstep (row : List Rg) (r : Rg) : List Rg :=
  match row.getLast? with
  | some l => if r.1 ≤ l.2 then row.dropLast ++ [(l.1, max l.2 r.2)] else row ++ [r]
  | none => row ++ [r]
structure MOk (row done left : List Rg) : Prop where
  ok : RowOk 0 row
  mem : ∀ n, memR row n ↔ memR done n
  ah : ∀ x ∈ row, ∀ y ∈ left, x.1 ≤ y.1
  len : row.length ≤ done.length
theorem memR_one (r : Rg) (n : Int) : memR [r] n ↔ r.1 ≤ n ∧ n < r.2 := by rw [memR_cons]; simp [memR_nil]
theorem MOk.nil (ms : List Rg) : MOk [] [] ms := ⟨trivial, fun _ => Iff.rfl, by simp, Nat.le_refl _⟩
theorem MOk.step {row done left : List Rg} {r : Rg} (h : MOk row done (r :: left)) (hr : ∀ y ∈ left, r.1 ≤ y.1) (h0 : 0 < r.1) (h1 : r.1 < r.2) : MOk (mstep row r) (done ++ [r]) left := by
  rcases rev_cases (A := row) with rfl | ⟨A, l, rfl⟩
  · have e : mstep [] r = [r] := rfl
    rw [e]
    refine ⟨⟨h0, h1, trivial⟩, fun n => ?_, fun x hx y hy => ?_, by simp⟩
    · rw [memR_append, ← h.mem n]
      simp [memR_nil]
    · simp at hx; subst hx; exact hr y hy
  · have hA := RowOk.append.1 h.ok
    have hl := h.ah l (by simp) r (by simp)
    have hm := h.mem
    have hlen := h.len
    have e : mstep (A ++ [l]) r = if r.1 ≤ l.2 then A ++ [(l.1, max l.2 r.2)] else A ++ [l] ++ [r] := by
      unfold mstep
      simp
    rw [e]
    obtain ⟨a1, a2, -⟩ := hA.2
    have hmx : max l.2 r.2 = if l.2 ≤ r.2 then r.2 else l.2 := by rw [Int.max_def]
    by_cases q : r.1 ≤ l.2
    · rw [if_pos q]
      refine ⟨RowOk.append.2 ⟨hA.1, a1, ?_, trivial⟩, fun n => ?_, fun x hx y hy => ?_, by simp at hlen ⊢; omega⟩
      · show l.1 < max l.2 r.2
        rw [hmx]; split <;> omega
      · rw [memR_append, memR_append, ← hm n, memR_append, memR_one, memR_one, memR_one]
        simp only
        rw [hmx]
        split
        all_goals
          constructor
          · rintro (z | ⟨z1, z2⟩)
            · exact .inl (.inl z)
            · by_cases z3 : n < l.2
              · exact .inl (.inr ⟨z1, z3⟩)
              · exact .inr ⟨by omega, by omega⟩
          · rintro ((z | ⟨z1, z2⟩) | ⟨z1, z2⟩)
            · exact .inl z
            · exact .inr ⟨z1, by omega⟩
            · exact .inr ⟨by omega, by omega⟩
      · rcases List.mem_append.1 hx with hx | hx
        · exact h.ah x (by simp [hx]) y (by simp [hy])
        · simp at hx; subst hx; exact h.ah l (by simp) y (by simp [hy])
    · rw [if_neg q]
      refine ⟨RowOk.append.2 ⟨h.ok, ?_, h1, trivial⟩, fun n => ?_, fun x hx y hy => ?_, by simp at hlen ⊢; omega⟩
      · rw [lastTo_snoc]; omega
      · rw [memR_append, memR_append (A := done), ← hm n]
      · rcases List.mem_append.1 hx with hx | hx
        · exact h.ah x hx y (by simp [hy])
        · simp at hx; subst hx; exact hr y hy
theorem MOk.fold {ms : List Rg} : ∀ {row done : List Rg}, MOk row done ms → ms.Pairwise (fun x y => x.1 ≤ y.1) → (∀ r ∈ ms, 0 < r.1 ∧ r.1 < r.2) → MOk (ms.foldl mstep row) (done ++ ms) [] := by
  induction ms with
  | nil => intro row done h _ _; simpa using h
  | cons r ms ih =>
    intro row done h hp hb
    rw [List.pairwise_cons] at hp
    have := ih (h.step hp.1 (hb r (by simp)).1 (hb r (by simp)).2) hp.2 (fun x hx => hb x (by simp [hx]))
    simpa using this
theorem memR_perm {A B : List Rg} (h : A.Perm B) (n : Int) : memR A n ↔ memR B n := by
  unfold memR
  constructor
  · rintro ⟨r, hr, q⟩; exact ⟨r, h.mem_iff.1 hr, q⟩
  · rintro ⟨r, hr, q⟩; exact ⟨r, h.mem_iff.2 hr, q⟩
/-- The union of two rows. -/
def mergeR (A B : List Rg) : List Rg := ((A ++ B).mergeSort (fun x y => decide (x.1 ≤ y.1))).foldl mstep []
section
variable {A B : List Rg} (hA : RowOk 0 A) (hB : RowOk 0 B)
include hA hB
theorem union_bd {ms : List Rg} (hp : ms.Perm (A ++ B)) : ∀ r ∈ ms, 0 < r.1 ∧ r.1 < r.2 := fun r hr => by
  rcases List.mem_append.1 (hp.mem_iff.1 hr) with h | h
  · exact hA.gt r h
  · exact hB.gt r h
theorem union_ok {ms : List Rg} (hp : ms.Perm (A ++ B)) (hs : ms.Pairwise (fun x y => x.1 ≤ y.1)) : RowOk 0 (ms.foldl mstep []) ∧ (∀ n, memR (ms.foldl mstep []) n ↔ memR A n ∨ memR B n) ∧ (ms.foldl mstep []).length ≤ A.length + B.length := by
  have h := (MOk.nil ms).fold hs (union_bd hA hB hp)
  refine ⟨h.ok, fun n => ?_, ?_⟩
  · rw [h.mem n, List.nil_append, memR_perm hp, memR_append]
  · have h1 := h.len
    have h2 := hp.length_eq
    rw [List.length_append] at h2
    rw [List.nil_append, h2] at h1
    exact h1
theorem mergeR_ok : RowOk 0 (mergeR A B) ∧ (∀ n, memR (mergeR A B) n ↔ memR A n ∨ memR B n) ∧ (mergeR A B).length ≤ A.length + B.length := by
  refine union_ok hA hB (List.mergeSort_perm _ _) ?_
  have := List.pairwise_mergeSort (le := fun x y : Rg => decide (x.1 ≤ y.1)) (fun a b c h1 h2 => by simp at h1 h2 ⊢; omega) (fun a b => by simp; omega) (A ++ B)
  exact this.imp (fun h => by simpa using h)
theorem union_eq {ms : List Rg} (hp : ms.Perm (A ++ B)) (hs : ms.Pairwise (fun x y => x.1 ≤ y.1)) : ms.foldl mstep [] = mergeR A B := by
  have h1 := union_ok hA hB hp hs
  have h2 := mergeR_ok hA hB
  exact h1.1.unique h2.1 (fun n => by rw [h1.2.1, h2.2.1])
end
theorem mergeR_nil {A : List Rg} (hA : RowOk 0 A) : mergeR A [] = A := by
  have h := mergeR_ok hA (B := []) trivial
  exact h.1.unique hA (fun n => by rw [h.2.1]; simp [memR_nil])
def mergeF (F Fo : RowsF) : RowsF := fun k => mergeR (F k) (Fo k)
theorem SetOk.merge {F Fo : RowsF} {l m : List OpD} (h : SetOk F l) (ho : SetOk Fo m) : SetOk (mergeF F Fo) (l ++ m) where
  ok := fun k => (mergeR_ok (h.ok k) (ho.ok k)).1
  mem := fun k n => by
    unfold mergeF
    rw [(mergeR_ok (h.ok k) (ho.ok k)).2.1 n, h.mem, ho.mem, List.mem_append]
    constructor
    · rintro (q | q)
      · exact ⟨.inl q.1, q.2⟩
      · exact ⟨.inr q.1, q.2⟩
    · rintro ⟨q | q, z⟩
      · exact .inl ⟨q, z⟩
      · exact .inr ⟨q, z⟩
end Go.Proofs.Ytcladmcbhnmhiaa
