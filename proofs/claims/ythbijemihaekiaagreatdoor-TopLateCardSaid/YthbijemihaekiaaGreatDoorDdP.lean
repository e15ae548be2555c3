/- Plain laws of rows of ranges: what a row holds, one more number, a row is told by what it holds. -/
import Derived.Test.YthbijemihaekiaaGreatDoorKitM
namespace Go.Proofs.YthbijemihaekiaaGreatDoor
set_option linter.unusedVariables false
set_option linter.unusedSimpArgs false

abbrev Rg := Int × Int
/-- Ranges that rise, none empty, between two of them a number lacks; all behind e. -/
def RowOk : Int → List Rg → Prop
  | _, [] => True
  | e, r :: R => e < r.1 ∧ r.1 < r.2 ∧ RowOk r.2 R
def memR (R : List Rg) (n : Int) : Prop := ∃ r ∈ R, r.1 ≤ n ∧ n < r.2
def cntR (R : List Rg) : Int := (R.map (fun r => r.2 - r.1)).sum
def lastTo (e : Int) (A : List Rg) : Int := A.foldl (fun _ r => r.2) e

theorem memR_nil (n : Int) : ¬ memR [] n := by rintro ⟨r, h, _⟩; cases h
theorem memR_cons (r : Rg) (R : List Rg) (n : Int) : memR (r :: R) n ↔ (r.1 ≤ n ∧ n < r.2) ∨ memR R n := by
  constructor
  · rintro ⟨x, hx, h⟩
    rcases List.mem_cons.1 hx with rfl | hx
    · exact .inl h
    · exact .inr ⟨x, hx, h⟩
  · rintro (h | ⟨x, hx, h⟩)
    · exact ⟨r, List.mem_cons_self, h⟩
    · exact ⟨x, List.mem_cons_of_mem _ hx, h⟩
theorem memR_append (A B : List Rg) (n : Int) : memR (A ++ B) n ↔ memR A n ∨ memR B n := by
  induction A with
  | nil => simp [memR_nil]
  | cons r A ih => rw [List.cons_append, memR_cons, memR_cons, ih, or_assoc]
theorem RowOk.append {e : Int} {A B : List Rg} : RowOk e (A ++ B) ↔ RowOk e A ∧ RowOk (lastTo e A) B := by
  induction A generalizing e with
  | nil => simp [RowOk, lastTo]
  | cons r A ih =>
    rw [List.cons_append, RowOk, RowOk, ih]
    simp only [lastTo, List.foldl_cons, and_assoc]
theorem RowOk.gt {e : Int} {R : List Rg} (h : RowOk e R) : ∀ r ∈ R, e < r.1 ∧ r.1 < r.2 := by
  induction R generalizing e with
  | nil => simp
  | cons r R ih =>
    intro x hx
    rcases List.mem_cons.1 hx with rfl | hx
    · exact ⟨h.1, h.2.1⟩
    · have := ih h.2.2 x hx
      have h1 := h.1; have h2 := h.2.1
      omega
theorem RowOk.mono {e e' : Int} {R : List Rg} (h : RowOk e R) (he : e' ≤ e) : RowOk e' R := by
  cases R with
  | nil => trivial
  | cons r R => exact ⟨by have := h.1; omega, h.2⟩
theorem RowOk.memR_gt {e : Int} {R : List Rg} (h : RowOk e R) {n : Int} (hn : memR R n) : e < n := by
  obtain ⟨r, hr, h1, h2⟩ := hn
  have := h.gt r hr
  omega
/-- A row is told by what it holds. -/
theorem RowOk.unique {e e' : Int} {R R' : List Rg} (h : RowOk e R) (h' : RowOk e' R') (hm : ∀ n, memR R n ↔ memR R' n) : R = R' := by
  induction R generalizing e e' R' with
  | nil =>
    cases R' with
    | nil => rfl
    | cons r R' =>
      have := h'.2.1
      exact absurd ((hm r.1).2 ⟨r, List.mem_cons_self, by omega, this⟩) (memR_nil _)
  | cons r R ih =>
    cases R' with
    | nil =>
      have := h.2.1
      exact absurd ((hm r.1).1 ⟨r, List.mem_cons_self, by omega, this⟩) (memR_nil _)
    | cons s S =>
      obtain ⟨a1, a2, a3⟩ := h
      obtain ⟨b1, b2, b3⟩ := h'
      have p1 : s.1 ≤ r.1 := by
        rcases (memR_cons _ _ _).1 ((hm r.1).1 ⟨r, List.mem_cons_self, by omega, a2⟩) with q | q
        · exact q.1
        · have := b3.memR_gt q; omega
      have p2 : r.1 ≤ s.1 := by
        rcases (memR_cons _ _ _).1 ((hm s.1).2 ⟨s, List.mem_cons_self, by omega, b2⟩) with q | q
        · exact q.1
        · have := a3.memR_gt q; omega
      have p3 : s.2 ≤ r.2 := by
        rcases Int.lt_or_le r.2 s.2 with q | q
        · have := (memR_cons _ _ _).1 ((hm r.2).2 ⟨s, List.mem_cons_self, by omega, q⟩)
          rcases this with q | q
          · omega
          · have := a3.memR_gt q; omega
        · exact q
      have p4 : r.2 ≤ s.2 := by
        rcases Int.lt_or_le s.2 r.2 with q | q
        · have := (memR_cons _ _ _).1 ((hm s.2).1 ⟨r, List.mem_cons_self, by omega, q⟩)
          rcases this with q | q
          · omega
          · have := b3.memR_gt q; omega
        · exact q
      have hrs : r = s := Prod.ext (by omega) (by omega)
      subst hrs
      rw [ih a3 b3 (fun n => ?_)]
      constructor
      · intro q
        have q1 := a3.memR_gt q
        rcases (memR_cons _ _ _).1 ((hm n).1 ((memR_cons _ _ _).2 (.inr q))) with q2 | q2
        · omega
        · exact q2
      · intro q
        have q1 := b3.memR_gt q
        rcases (memR_cons _ _ _).1 ((hm n).2 ((memR_cons _ _ _).2 (.inr q))) with q2 | q2
        · omega
        · exact q2

/-- Where a number belongs: how many ranges end at it or ahead of it. -/
def placeR (R : List Rg) (n : Int) : Nat := (R.takeWhile (fun r => decide (r.2 ≤ n))).length
theorem placeR_le (R : List Rg) (n : Int) : placeR R n ≤ R.length := by
  unfold placeR
  exact (List.takeWhile_sublist _).length_le
theorem take_place (R : List Rg) (n : Int) : R.take (placeR R n) = R.takeWhile (fun r => decide (r.2 ≤ n)) := by
  unfold placeR
  have h : R.takeWhile (fun r => decide (r.2 ≤ n)) <+: R := List.takeWhile_prefix _
  exact (List.prefix_iff_eq_take.1 h).symm
theorem take_le {R : List Rg} {n : Int} : ∀ r ∈ R.take (placeR R n), r.2 ≤ n := by
  rw [take_place]
  intro r hr
  have h : (R.takeWhile (fun r => decide (r.2 ≤ n))).all (fun r => decide (r.2 ≤ n)) = true := List.all_takeWhile
  simpa using List.all_eq_true.1 h r hr
theorem at_place {R : List Rg} {n : Int} (h : placeR R n < R.length) : n < R[placeR R n].2 := by
  induction R with
  | nil => simp at h
  | cons r R ih =>
    by_cases hr : r.2 ≤ n
    · have e : placeR (r :: R) n = placeR R n + 1 := by unfold placeR; simp [List.takeWhile_cons, hr]
      simp only [e, List.getElem_cons_succ]
      exact ih (by rw [e] at h; simpa using h)
    · have e : placeR (r :: R) n = 0 := by unfold placeR; simp [List.takeWhile_cons, hr]
      simp only [e, List.getElem_cons_zero]
      omega
theorem RowOk.drop {e : Int} {R : List Rg} (h : RowOk e R) (k : Nat) : RowOk (lastTo e (R.take k)) (R.drop k) := by
  have h2 : RowOk e (R.take k ++ R.drop k) := by rw [List.take_append_drop]; exact h
  exact (RowOk.append.1 h2).2
/-- Of ranges that rise: those that end behind n are just those from its place on. -/
theorem RowOk.behind {e : Int} {R : List Rg} (h : RowOk e R) {n : Int} {t : Nat} (ht : t < R.length) : n < R[t].2 ↔ placeR R n ≤ t := by
  constructor
  · intro hn
    rcases Nat.lt_or_ge t (placeR R n) with q | q
    · have := take_le (R := R) (n := n) R[t] (by rw [List.mem_take_iff_getElem]; exact ⟨t, by omega, rfl⟩)
      omega
    · exact q
  · intro hp
    have h1 := at_place (R := R) (n := n) (by omega)
    rcases Nat.eq_or_lt_of_le hp with q | q
    · simp only [q] at h1; exact h1
    · have hd := h.drop (placeR R n)
      rw [List.drop_eq_getElem_cons (show placeR R n < R.length by omega)] at hd
      have := hd.2.2.gt R[t] (by rw [List.mem_drop_iff_getElem]; exact ⟨t - (placeR R n + 1), by omega, by congr 1; omega⟩)
      omega
theorem RowOk.mem_iff {e : Int} {R : List Rg} (h : RowOk e R) {n : Int} : memR R n ↔ ∃ hp : placeR R n < R.length, R[placeR R n].1 ≤ n := by
  constructor
  · rintro ⟨r, hr, h1, h2⟩
    obtain ⟨t, ht, rfl⟩ := List.getElem_of_mem hr
    have hp := (h.behind ht).1 h2
    refine ⟨by omega, ?_⟩
    rcases Nat.eq_or_lt_of_le hp with q | q
    · simp only [q]; exact h1
    · have hd := h.drop (placeR R n)
      rw [List.drop_eq_getElem_cons (show placeR R n < R.length by omega)] at hd
      have := hd.2.2.gt R[t] (by rw [List.mem_drop_iff_getElem]; exact ⟨t - (placeR R n + 1), by omega, by congr 1; omega⟩)
      have := hd.2.1
      omega
  · rintro ⟨hp, h1⟩
    exact ⟨_, List.getElem_mem hp, h1, at_place hp⟩

/-- One more number. -/
def putR (R : List Rg) (n : Int) : List Rg :=
  let A := R.take (placeR R n)
  let B := R.drop (placeR R n)
  let A' := if lastTo 0 A = n then A.dropLast else A
  let f := if lastTo 0 A = n then (A.getLast?.map (·.1)).getD 0 else n
  let B' := if (B.head?.map (·.1)).getD 0 = n + 1 then B.tail else B
  let t := if (B.head?.map (·.1)).getD 0 = n + 1 then (B.head?.map (·.2)).getD 0 else n + 1
  A' ++ (f, t) :: B'
theorem lastTo_snoc (e : Int) (A : List Rg) (r : Rg) : lastTo e (A ++ [r]) = r.2 := by unfold lastTo; simp
theorem rev_cases {A : List Rg} : A = [] ∨ ∃ A0 r, A = A0 ++ [r] := by
  rcases List.eq_nil_or_concat A with h | ⟨a, b, h⟩
  · exact .inl h
  · exact .inr ⟨a, b, by rw [h, List.concat_eq_append]⟩
theorem putR_ok {R : List Rg} (h : RowOk 0 R) {n : Int} (h1 : 1 ≤ n) (hn : ¬ memR R n) : RowOk 0 (putR R n) ∧ ∀ m, memR (putR R n) m ↔ memR R m ∨ m = n := by
  obtain ⟨A, hA⟩ : ∃ A, A = R.take (placeR R n) := ⟨_, rfl⟩
  obtain ⟨B, hB⟩ : ∃ B, B = R.drop (placeR R n) := ⟨_, rfl⟩
  have hR : R = A ++ B := by rw [hA, hB, List.take_append_drop]
  have hAl : ∀ r ∈ A, r.2 ≤ n := by rw [hA]; exact take_le
  have hBl : ∀ b B0, B = b :: B0 → n < b.1 := fun b B0 e => by
    have hp : placeR R n < R.length := by
      rcases Nat.lt_or_ge (placeR R n) R.length with q | q
      · exact q
      · rw [List.drop_eq_nil_of_le q] at hB; rw [hB] at e; cases e
    rw [List.drop_eq_getElem_cons hp] at hB
    rw [hB] at e
    injection e with e1 e2
    rcases Int.lt_or_le n b.1 with q | q
    · exact q
    · exact absurd (h.mem_iff.2 ⟨hp, by rw [e1]; exact q⟩) hn
  have hsplit := RowOk.append.1 (hR ▸ h)
  unfold putR
  simp only [← hA, ← hB]
  have key : ∀ (f t : Int) (A' B' : List Rg), RowOk 0 A' → lastTo 0 A' < f → f ≤ n → n < t → RowOk t B' → (∀ m, memR A m ∨ memR B m ∨ m = n ↔ memR A' m ∨ (f ≤ m ∧ m < t) ∨ memR B' m) → RowOk 0 (A' ++ (f, t) :: B') ∧ ∀ m, memR (A' ++ (f, t) :: B') m ↔ memR R m ∨ m = n := by
    intro f t A' B' k1 k2 k3 k4 k5 k6
    refine ⟨RowOk.append.2 ⟨k1, k2, by simp only; omega, k5⟩, fun m => ?_⟩
    rw [memR_append, memR_cons, hR, memR_append, or_assoc, k6 m]
  have hla : lastTo 0 A ≤ n := by
    rcases rev_cases (A := A) with e | ⟨A0, r, e⟩
    · rw [e]; show (0 : Int) ≤ n; omega
    · rw [e, lastTo_snoc]; exact hAl r (by rw [e]; simp)
  have hB1 : RowOk n B := by
    cases hb : B with
    | nil => trivial
    | cons b B0 => rw [hb] at hsplit; exact ⟨hBl b B0 hb, hsplit.2.2⟩
  rcases rev_cases (A := A) with e | ⟨A0, r, e⟩
  · have l0 : lastTo 0 A = 0 := by rw [e]; rfl
    have l1 : ¬ lastTo 0 A = n := by omega
    simp only [if_neg l1]
    have hA0 : ∀ m, ¬ memR A m := by rw [e]; exact memR_nil
    cases hb : B with
    | nil =>
      have : ¬ (0 : Int) = n + 1 := by omega
      simp [this]
      exact key n (n + 1) A [] hsplit.1 (by omega) (by omega) (by omega) trivial (fun m => by
          rw [hb]
          constructor
          · rintro (q | q | q)
            · exact .inl q
            · exact absurd q (memR_nil _)
            · exact .inr (.inl (by omega))
          · rintro (q | q | q)
            · exact .inl q
            · exact .inr (.inr (by omega))
            · exact absurd q (memR_nil _))
    | cons b B0 =>
      rw [hb] at hsplit hB1
      have hbl := hBl b B0 hb
      show RowOk 0 (A ++ ((n, if b.1 = n + 1 then b.2 else n + 1) :: (if b.1 = n + 1 then B0 else b :: B0))) ∧ ∀ m, memR (A ++ ((n, if b.1 = n + 1 then b.2 else n + 1) :: (if b.1 = n + 1 then B0 else b :: B0))) m ↔ memR R m ∨ m = n
      by_cases hc : b.1 = n + 1
      · simp only [if_pos hc]
        exact key n b.2 A B0 hsplit.1 (by omega) (by omega) (by have := hB1.2.1; omega) hB1.2.2 (fun m => by
          rw [hb, memR_cons]
          have := hB1.2.1
          constructor
          · rintro (q | (q | q) | q)
            · exact .inl q
            · exact .inr (.inl (by omega))
            · exact .inr (.inr q)
            · exact .inr (.inl (by omega))
          · rintro (q | q | q)
            · exact .inl q
            · rcases Int.lt_or_le n m with z | z
              · exact .inr (.inl (.inl (by omega)))
              · exact .inr (.inr (by omega))
            · exact .inr (.inl (.inr q)))
      · simp only [if_neg hc]
        exact key n (n + 1) A (b :: B0) hsplit.1 (by omega) (by omega) (by omega) ⟨by omega, hB1.2⟩ (fun m => by
          rw [hb]
          constructor
          · rintro (q | q | q)
            · exact .inl q
            · exact .inr (.inr q)
            · exact .inr (.inl (by omega))
          · rintro (q | q | q)
            · exact .inl q
            · exact .inr (.inr (by omega))
            · exact .inr (.inl q))
  · have l0 : lastTo 0 A = r.2 := by rw [e, lastTo_snoc]
    have hA0 := hsplit.1
    rw [e, RowOk.append] at hA0
    obtain ⟨a1, a2, a3, -⟩ := hA0
    have hmA : ∀ m, memR A m ↔ memR A0 m ∨ (r.1 ≤ m ∧ m < r.2) := fun m => by rw [e, memR_append, memR_cons]; have := memR_nil m; simp [this]
    rw [l0] at hla
    by_cases hl : lastTo 0 A = n
    · rw [l0] at hl
      have d1 : A.dropLast = A0 := by rw [e]; simp
      have d2 : (A.getLast?.map (·.1)).getD 0 = r.1 := by rw [e]; simp
      simp only [l0, if_pos hl, d1, d2]
      cases hb : B with
      | nil =>
        have : ¬ (0 : Int) = n + 1 := by omega
        simp [this]
        exact key r.1 (n + 1) A0 [] a1 a2 (by omega) (by omega) trivial (fun m => by
          rw [hb, hmA m]
          have := memR_nil m
          constructor
          · rintro ((q | q) | q | q)
            · exact .inl q
            · exact .inr (.inl (by omega))
            · exact absurd q this
            · exact .inr (.inl (by omega))
          · rintro (q | q | q)
            · exact .inl (.inl q)
            · rcases Int.lt_or_le m n with z | z
              · exact .inl (.inr (by omega))
              · exact .inr (.inr (by omega))
            · exact absurd q this)
      | cons b B0 =>
        rw [hb] at hB1
        have hbl := hBl b B0 hb
        show RowOk 0 (A0 ++ ((r.1, if b.1 = n + 1 then b.2 else n + 1) :: (if b.1 = n + 1 then B0 else b :: B0))) ∧ ∀ m, memR (A0 ++ ((r.1, if b.1 = n + 1 then b.2 else n + 1) :: (if b.1 = n + 1 then B0 else b :: B0))) m ↔ memR R m ∨ m = n
        by_cases hc : b.1 = n + 1
        · simp only [if_pos hc]
          exact key r.1 b.2 A0 B0 a1 a2 (by omega) (by have := hB1.2.1; omega) hB1.2.2 (fun m => by
            rw [hb, memR_cons, hmA m]
            have := hB1.2.1
            constructor
            · rintro ((q | q) | (q | q) | q)
              · exact .inl q
              · exact .inr (.inl (by omega))
              · exact .inr (.inl (by omega))
              · exact .inr (.inr q)
              · exact .inr (.inl (by omega))
            · rintro (q | q | q)
              · exact .inl (.inl q)
              · rcases Int.lt_or_le m n with z | z
                · exact .inl (.inr (by omega))
                · rcases Int.lt_or_le n m with z | z
                  · exact .inr (.inl (.inl (by omega)))
                  · exact .inr (.inr (by omega))
              · exact .inr (.inl (.inr q)))
        · simp only [if_neg hc]
          exact key r.1 (n + 1) A0 (b :: B0) a1 a2 (by omega) (by omega) ⟨by omega, hB1.2⟩ (fun m => by
            rw [hb, hmA m]
            constructor
            · rintro ((q | q) | q | q)
              · exact .inl q
              · exact .inr (.inl (by omega))
              · exact .inr (.inr q)
              · exact .inr (.inl (by omega))
            · rintro (q | q | q)
              · exact .inl (.inl q)
              · rcases Int.lt_or_le m n with z | z
                · exact .inl (.inr (by omega))
                · exact .inr (.inr (by omega))
              · exact .inr (.inl q))
    · have hl2 : ¬ r.2 = n := by omega
      simp only [l0, if_neg hl2]
      cases hb : B with
      | nil =>
        have : ¬ (0 : Int) = n + 1 := by omega
        simp [this]
        exact key n (n + 1) A [] hsplit.1 (by omega) (by omega) (by omega) trivial (fun m => by
          rw [hb]
          have := memR_nil m
          constructor
          · rintro (q | q | q)
            · exact .inl q
            · exact absurd q this
            · exact .inr (.inl (by omega))
          · rintro (q | q | q)
            · exact .inl q
            · exact .inr (.inr (by omega))
            · exact absurd q this)
      | cons b B0 =>
        rw [hb] at hB1
        have hbl := hBl b B0 hb
        show RowOk 0 (A ++ ((n, if b.1 = n + 1 then b.2 else n + 1) :: (if b.1 = n + 1 then B0 else b :: B0))) ∧ ∀ m, memR (A ++ ((n, if b.1 = n + 1 then b.2 else n + 1) :: (if b.1 = n + 1 then B0 else b :: B0))) m ↔ memR R m ∨ m = n
        by_cases hc : b.1 = n + 1
        · simp only [if_pos hc]
          exact key n b.2 A B0 hsplit.1 (by omega) (by omega) (by have := hB1.2.1; omega) hB1.2.2 (fun m => by
            rw [hb, memR_cons]
            have := hB1.2.1
            constructor
            · rintro (q | (q | q) | q)
              · exact .inl q
              · exact .inr (.inl (by omega))
              · exact .inr (.inr q)
              · exact .inr (.inl (by omega))
            · rintro (q | q | q)
              · exact .inl q
              · rcases Int.lt_or_le n m with z | z
                · exact .inr (.inl (.inl (by omega)))
                · exact .inr (.inr (by omega))
              · exact .inr (.inl (.inr q)))
        · simp only [if_neg hc]
          exact key n (n + 1) A (b :: B0) hsplit.1 (by omega) (by omega) (by omega) ⟨by omega, hB1.2⟩ (fun m => by
            rw [hb]
            constructor
            · rintro (q | q | q)
              · exact .inl q
              · exact .inr (.inr q)
              · exact .inr (.inl (by omega))
            · rintro (q | q | q)
              · exact .inl q
              · exact .inr (.inr (by omega))
              · exact .inr (.inl q))
theorem putR_len (R : List Rg) (n : Int) : (putR R n).length ≤ R.length + 1 := by
  have hR : R.length = (R.take (placeR R n)).length + (R.drop (placeR R n)).length := by rw [← List.length_append, List.take_append_drop]
  unfold putR
  simp only [List.length_append, List.length_cons]
  rw [hR]
  have h1 : ∀ (c : Prop) [Decidable c] (A : List Rg), (if c then A.dropLast else A).length ≤ A.length := fun c _ A => by split <;> simp
  have h2 : ∀ (c : Prop) [Decidable c] (A : List Rg), (if c then A.tail else A).length ≤ A.length := fun c _ A => by split <;> simp
  have := h1 (lastTo 0 (R.take (placeR R n)) = n) (R.take (placeR R n))
  have := h2 (((R.drop (placeR R n)).head?.map (·.1)).getD 0 = n + 1) (R.drop (placeR R n))
  omega
end Go.Proofs.YthbijemihaekiaaGreatDoor
