/- Putting something into a sorted row: plain. -/
import Derived.Test.YtgahopkbgefjdaaKitV
namespace Go.Proofs.Ytgahopkbgefjdaa
set_option linter.unusedVariables false
set_option linter.unusedSimpArgs false

section
variable {α : Type}
/-- How far one goes past elements of which p holds. -/
def insAt (p : α → Bool) (l : List α) : Nat := (l.takeWhile p).length
def insV (p : α → Bool) (x : α) (l : List α) : List α := l.take (insAt p l) ++ [x] ++ l.drop (insAt p l)
theorem insAt_le (p : α → Bool) (l : List α) : insAt p l ≤ l.length := (List.takeWhile_prefix p).length_le
theorem insAt_cons (p : α → Bool) (a : α) (l : List α) : insAt p (a :: l) = if p a = true then insAt p l + 1 else 0 := by
  unfold insAt
  rw [List.takeWhile_cons]
  split <;> rfl
theorem insAt_eq (p : α → Bool) (l : List α) (k : Nat) (hk : k ≤ l.length) (h1 : ∀ j (hj : j < l.length), j < k → p l[j] = true) (h2 : ∀ h : k < l.length, p l[k] = false) : insAt p l = k := by
  induction l generalizing k with
  | nil => simp at hk; subst hk; rfl
  | cons a l ih =>
    rw [insAt_cons]
    cases k with
    | zero =>
      have := h2 (by simp)
      simp at this
      simp [this]
    | succ k =>
      have h0 := h1 0 (by simp) (by omega)
      simp at h0
      rw [if_pos h0]
      rw [ih k (by simpa using hk) (fun j hj hjk => h1 (j + 1) (by simpa using hj) (by omega)) (fun h => h2 (by simpa using h))]
theorem insV_perm (p : α → Bool) (x : α) (l : List α) : (insV p x l).Perm (x :: l) := by
  unfold insV
  have h : (l.take (insAt p l) ++ [x] ++ l.drop (insAt p l)).Perm (x :: (l.take (insAt p l) ++ l.drop (insAt p l))) := by
    rw [List.append_assoc]
    exact List.perm_middle
  rw [List.take_append_drop] at h
  exact h
theorem insV_len (p : α → Bool) (x : α) (l : List α) : (insV p x l).length = l.length + 1 := by simpa using (insV_perm p x l).length_eq
theorem insV_cons (p : α → Bool) (x a : α) (l : List α) : insV p x (a :: l) = if p a = true then a :: insV p x l else x :: a :: l := by
  unfold insV
  rw [insAt_cons]
  split <;> simp
/-- It stays sorted, where x stands to each of the others one way or the other. -/
theorem insV_sorted (lt : α → α → Bool) (tr : ∀ x y z, lt x y = true → lt y z = true → lt x z = true) (p : α → Bool) (x : α) (l : List α) (hl : l.Pairwise (fun a b => lt a b = true)) (hp : ∀ y ∈ l, (p y = true → lt y x = true) ∧ (p y = false → lt x y = true)) :
    (insV p x l).Pairwise (fun a b => lt a b = true) := by
  induction l with
  | nil => simp [insV, insAt]
  | cons a l ih =>
    rw [insV_cons]
    rw [List.pairwise_cons] at hl
    have ha := hp a (by simp)
    split
    · rename_i h
      rw [List.pairwise_cons]
      refine ⟨fun b hb => ?_, ih hl.2 (fun y hy => hp y (by simp [hy]))⟩
      rcases List.mem_cons.1 ((insV_perm p x l).subset hb) with rfl | hb
      · exact ha.1 h
      · exact hl.1 b hb
    · rename_i h
      have h' : p a = false := by simpa using h
      rw [List.pairwise_cons]
      refine ⟨fun b hb => ?_, List.pairwise_cons.2 hl⟩
      rcases List.mem_cons.1 hb with rfl | hb
      · exact ha.2 h'
      · exact tr _ _ _ (ha.2 h') (hl.1 b hb)
/-- All of them, one by one. -/
def insAll (q : α → α → Bool) (l : List α) : List α := l.foldl (fun acc x => insV (q x) x acc) []
theorem insAll_snoc (q : α → α → Bool) (l : List α) (x : α) : insAll q (l ++ [x]) = insV (q x) x (insAll q l) := by simp [insAll]
theorem foldl_perm (q : α → α → Bool) (l : List α) : ∀ acc, (l.foldl (fun acc x => insV (q x) x acc) acc).Perm (acc ++ l) := by
  induction l with
  | nil => intro acc; simp
  | cons x l ih =>
    intro acc
    refine (ih (insV (q x) x acc)).trans ?_
    refine ((insV_perm (q x) x acc).append_right l).trans ?_
    rw [List.cons_append]
    exact List.perm_middle.symm
theorem insAll_perm (q : α → α → Bool) (l : List α) : (insAll q l).Perm l := by simpa [insAll] using foldl_perm q l []
theorem foldl_sorted (lt : α → α → Bool) (tr : ∀ x y z, lt x y = true → lt y z = true → lt x z = true) (q : α → α → Bool) (l : List α) : ∀ acc, acc.Pairwise (fun a b => lt a b = true) → (∀ x ∈ l, ∀ y, (y ∈ acc ∨ y ∈ l) → x ≠ y → (q x y = true → lt y x = true) ∧ (q x y = false → lt x y = true)) → (acc ++ l).Nodup →
    (l.foldl (fun acc x => insV (q x) x acc) acc).Pairwise (fun a b => lt a b = true) := by
  induction l with
  | nil => intro acc h _ _; exact h
  | cons x l ih =>
    intro acc h hq hn
    have hx : ∀ y ∈ acc, x ≠ y := fun y hy e => by
      rw [List.nodup_append] at hn
      exact hn.2.2 y hy x (by simp) e.symm
    refine ih _ (insV_sorted lt tr (q x) x acc h (fun y hy => hq x (by simp) y (.inl hy) (hx y hy))) ?_ ?_
    · intro z hz y hy hne
      refine hq z (by simp [hz]) y ?_ hne
      rcases hy with hy | hy
      · rcases List.mem_cons.1 ((insV_perm (q x) x acc).subset hy) with rfl | hy
        · exact .inr (by simp)
        · exact .inl hy
      · exact .inr (by simp [hy])
    · have : (acc ++ x :: l).Perm (insV (q x) x acc ++ l) := by
        refine List.perm_middle.trans ?_
        rw [← List.cons_append]
        exact (insV_perm (q x) x acc).symm.append_right l
      exact (this.nodup_iff).1 hn
theorem insAll_sorted (lt : α → α → Bool) (tr : ∀ x y z, lt x y = true → lt y z = true → lt x z = true) (q : α → α → Bool) (l : List α) (hn : l.Nodup) (hq : ∀ x ∈ l, ∀ y ∈ l, x ≠ y → (q x y = true → lt y x = true) ∧ (q x y = false → lt x y = true)) : (insAll q l).Pairwise (fun a b => lt a b = true) :=
  foldl_sorted lt tr q l [] List.Pairwise.nil (fun x hx y hy hne => hq x hx y (by simpa using hy) hne) (by simpa using hn)
end
end Go.Proofs.Ytgahopkbgefjdaa
