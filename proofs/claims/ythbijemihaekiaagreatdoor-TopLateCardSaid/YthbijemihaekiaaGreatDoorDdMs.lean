/- Plain: what many puts leave (cut out of DdM; not to be joined with it). -/
import Derived.Test.YthbijemihaekiaaGreatDoorDdD
namespace Go.Proofs.YthbijemihaekiaaGreatDoor
open Go.ChangeShapes Go.WideShapes Go.ChangeAt Go.RowKit
set_option linter.unusedVariables false
set_option linter.unusedSimpArgs false

abbrev OpD := ByteArray × Int
def okOp (o : OpD) : Prop := nameB o.1 = true ∧ 1 ≤ o.2 ∧ o.2 ≤ 1099511627776
/-- Rows that hold just what was put. -/
structure SetOk (F : RowsF) (l : List OpD) : Prop where
  ok : ∀ k, RowOk 0 (F k)
  mem : ∀ k n, memR (F k) n ↔ (k, n) ∈ l ∧ okOp (k, n)
theorem putB_iff (F : RowsF) (k : ByteArray) (n : Int) : putB F k n = true ↔ okOp (k, n) ∧ ¬ memR (F k) n := by
  unfold putB okOp
  simp only [Bool.and_eq_true, decide_eq_true_eq, Bool.not_eq_true', decide_eq_false_iff_not, and_assoc]
theorem SetOk.put {F : RowsF} {l : List OpD} (h : SetOk F l) (o : OpD) : SetOk (putF F o.1 o.2) (l ++ [o]) := by
  obtain ⟨k, n⟩ := o
  unfold putF
  by_cases hp : putB F k n = true
  · simp only [if_pos hp]
    obtain ⟨h1, h2⟩ := (putB_iff F k n).1 hp
    obtain ⟨p1, p2⟩ := putR_ok (h.ok k) h1.2.1 h2
    refine ⟨fun x => ?_, fun x m => ?_⟩
    · unfold updF; split
      · exact p1
      · exact h.ok x
    · unfold updF
      by_cases hx : x = k
      · subst hx
        rw [if_pos rfl, p2 m, h.mem x m, List.mem_append]
        constructor
        · rintro (q | q)
          · exact ⟨.inl q.1, q.2⟩
          · subst q; exact ⟨.inr (by simp), h1⟩
        · rintro ⟨q | q, q2⟩
          · exact .inl ⟨q, q2⟩
          · simp at q; exact .inr q
      · rw [if_neg hx, h.mem x m, List.mem_append]
        constructor
        · rintro ⟨q, q2⟩; exact ⟨.inl q, q2⟩
        · rintro ⟨q | q, q2⟩
          · exact ⟨q, q2⟩
          · simp at q; exact absurd q.1 hx
  · simp only [if_neg hp]
    refine ⟨h.ok, fun x m => ?_⟩
    rw [h.mem x m, List.mem_append]
    constructor
    · rintro ⟨q, q2⟩; exact ⟨.inl q, q2⟩
    · rintro ⟨q | q, q2⟩
      · exact ⟨q, q2⟩
      · simp at q
        obtain ⟨rfl, rfl⟩ := q
        rcases Classical.em (memR (F x) m) with q3 | q3
        · exact (h.mem x m).1 q3
        · exact absurd ((putB_iff F x m).2 ⟨q2, q3⟩) hp
theorem SetOk.nil : SetOk (fun _ => []) [] := ⟨fun _ => trivial, fun k n => by simp [memR_nil]⟩
section
variable {F : RowsF} {l : List OpD}
theorem SetOk.top (h : SetOk F l) (k : ByteArray) : ∀ r ∈ F k, r.2 ≤ 1099511627777 := fun r hr => by
  have h1 := (h.ok k).gt r hr
  have h2 := ((h.mem k (r.2 - 1)).1 ⟨r, hr, by omega, by omega⟩).2.2.2
  simp only at h2
  omega
theorem SetOk.key (h : SetOk F l) {k : ByteArray} (hk : F k ≠ []) : nameB k = true ∧ ∃ o ∈ l, o.1 = k := by
  obtain ⟨r, hr⟩ := List.exists_mem_of_ne_nil _ hk
  have h1 := (h.ok k).gt r hr
  have h2 := (h.mem k r.1).1 ⟨r, hr, by omega, by omega⟩
  exact ⟨h2.2.1, _, h2.1, rfl⟩
theorem nodup_len07 {α : Type} [DecidableEq α] : ∀ {l m : List α}, l.Nodup → (∀ x ∈ l, x ∈ m) → l.length ≤ m.length
  | [], m, _, _ => Nat.zero_le _
  | a :: l, m, hn, hs => by
    rw [List.nodup_cons] at hn
    have ha := hs a List.mem_cons_self
    have h1 : l.length ≤ (m.erase a).length := nodup_len07 hn.2 (fun x hx => (List.mem_erase_of_ne (show x ≠ a from fun e => hn.1 (by rw [← e]; exact hx))).2 (hs x (List.mem_cons_of_mem _ hx)))
    rw [List.length_erase_of_mem ha] at h1
    have := List.length_pos_of_mem ha
    simp only [List.length_cons]
    omega
theorem RowOk.nodup {e : Int} {R : List Rg} (h : RowOk e R) : (R.map (·.1)).Nodup := by
  induction R generalizing e with
  | nil => simp
  | cons r R ih =>
    rw [List.map_cons, List.nodup_cons]
    refine ⟨fun hm => ?_, ih h.2.2⟩
    obtain ⟨s, hs, e1⟩ := List.mem_map.1 hm
    have := h.2.2.gt s hs
    have := h.2.1
    omega
theorem SetOk.len (h : SetOk F l) (k : ByteArray) : (F k).length ≤ l.length := by
  have h1 := nodup_len07 (l := (F k).map (·.1)) (m := l.map (·.2)) (h.ok k).nodup (fun x hx => by
    obtain ⟨r, hr, rfl⟩ := List.mem_map.1 hx
    have h1 := (h.ok k).gt r hr
    have h2 := (h.mem k r.1).1 ⟨r, hr, by omega, by omega⟩
    exact List.mem_map.2 ⟨_, h2.1, rfl⟩)
  simpa using h1
end
end Go.Proofs.YthbijemihaekiaaGreatDoor
