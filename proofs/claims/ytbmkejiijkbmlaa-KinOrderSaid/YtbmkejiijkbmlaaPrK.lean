/- Plain law of KinBounds; sessions as arguments. -/
import Derived.Test.YtbmkejiijkbmlaaPrJ
namespace Go.Proofs.Ytbmkejiijkbmlaa
open Go.ChangeShapes Go.WideShapes Go.ChangeAt Go.RowKit Go.Shelf Go.Lib Go.Sort Go.Proofs
set_option linter.unusedVariables false
set_option linter.unusedSimpArgs false

/-- How many have just one of two. -/
def cntX (L : List (List ByteArray)) (a b : ByteArray) : Int := (L.countP (fun s => decide (¬ (a ∈ s ∧ b ∈ s) ∧ (a ∈ s ∨ b ∈ s))) : Nat)
theorem cnt_parts (L : List (List ByteArray)) (a b : ByteArray) : ∃ p q : Nat, cnt1 L a = cnt2 L a b + p ∧ cnt1 L b = cnt2 L a b + q ∧ cntX L a b = p + q := by
  unfold cnt1 cnt2 cntX
  induction L with
  | nil => exact ⟨0, 0, by simp, by simp, by simp⟩
  | cons s L ih =>
    obtain ⟨p, q, h1, h2, h3⟩ := ih
    simp only [List.countP_cons]
    generalize L.countP (fun s => decide (a ∈ s)) = m1 at *
    generalize L.countP (fun s => decide (b ∈ s)) = m2 at *
    generalize L.countP (fun s => decide (a ∈ s ∧ b ∈ s)) = m3 at *
    generalize L.countP (fun s => decide (¬ (a ∈ s ∧ b ∈ s) ∧ (a ∈ s ∨ b ∈ s))) = m4 at *
    by_cases ha : a ∈ s <;> by_cases hb : b ∈ s
    · exact ⟨p, q, by simp [ha, hb]; omega, by simp [ha, hb]; omega, by simp [ha, hb]; omega⟩
    · exact ⟨p + 1, q, by simp [ha, hb]; omega, by simp [ha, hb]; omega, by simp [ha, hb]; omega⟩
    · exact ⟨p, q + 1, by simp [ha, hb]; omega, by simp [ha, hb]; omega, by simp [ha, hb]; omega⟩
    · exact ⟨p, q, by simp [ha, hb]; omega, by simp [ha, hb]; omega, by simp [ha, hb]; omega⟩
theorem cnt2_comm (L : List (List ByteArray)) (a b : ByteArray) : cnt2 L a b = cnt2 L b a := by
  unfold cnt2
  congr 2
  funext s
  simp only [decide_eq_decide]
  exact And.comm
theorem like_comm (L : List (List ByteArray)) (a b : ByteArray) : likeNum L a b = likeNum L b a ∧ likeDen L a b = likeDen L b a := by
  unfold likeNum likeDen
  rw [cnt2_comm L a b, Int.mul_comm (cnt1 L a)]
  have h1 : (cnt1 L a = 0 ∨ cnt1 L b = 0) = (cnt1 L b = 0 ∨ cnt1 L a = 0) := propext Or.comm
  have h2 : (a = b) = (b = a) := propext eq_comm
  simp only [h1, h2]
  exact ⟨trivial, trivial⟩
theorem bounds_plain (L : List (List ByteArray)) (a b : ByteArray) : likeNum L a b ≤ likeDen L a b ∧ (likeNum L a b = likeDen L a b ↔ (0 < cnt2 L a b ∧ cntX L a b = 0)) ∧ (likeNum L a b = 0 ↔ cnt2 L a b = 0) := by
  obtain ⟨p, q, h1, h2, h3⟩ := cnt_parts L a b
  have n0 := (cnt2_le L a b).1
  unfold likeNum likeDen
  rw [h1, h2, h3]
  generalize hn : cnt2 L a b = n at *
  by_cases h0 : n + (p : Int) = 0 ∨ n + (q : Int) = 0
  · rw [if_pos h0, if_pos h0]
    exact ⟨by omega, by omega, by omega⟩
  · rw [if_neg h0, if_neg h0]
    by_cases hab : a = b
    · subst hab
      rw [cnt2_self] at hn
      rw [if_pos rfl, if_pos rfl]
      have hx : cntX L a a = 0 := by simp [cntX]
      exact ⟨by omega, by omega, by omega⟩
    · rw [if_neg hab, if_neg hab]
      have e : (n + (p : Int)) * (n + q) = n * n + (n * q + p * n + p * q) := by grind
      have k1 : 0 ≤ n * (q : Int) := Int.mul_nonneg n0 (by omega)
      have k2 : 0 ≤ (p : Int) * n := Int.mul_nonneg (by omega) n0
      have k3 : 0 ≤ (p : Int) * q := Int.mul_nonneg (by omega) (by omega)
      rw [e]
      refine ⟨by omega, ?_, ?_⟩
      · constructor
        · intro h
          have z1 : n * (q : Int) = 0 := by omega
          have z2 : (p : Int) * n = 0 := by omega
          have z3 : (p : Int) * q = 0 := by omega
          have w1 := Int.mul_eq_zero.1 z1
          have w2 := Int.mul_eq_zero.1 z2
          have w3 := Int.mul_eq_zero.1 z3
          omega
        · rintro ⟨hp, hx⟩
          have : (p : Int) = 0 ∧ (q : Int) = 0 := by omega
          rw [this.1, this.2]
          simp
      · constructor
        · intro h
          have := Int.mul_eq_zero.1 h
          omega
        · intro h; rw [h]; simp

theorem flat_oneK (l : List ByteArray) : l.flatMap (fun s => [Value.string s]) = l.map Value.string := by
  induction l with
  | nil => rfl
  | cons a l ih => rw [List.flatMap_cons, ih]; rfl
/-- An argument that is a session; a row of sessions. -/
theorem dec_sess {H : Type} {enc : TypeId × Value → H} {w : World} : Dec enc Try.prog w 34 sessCells (SessOk w w.heap.size) := by
  have d3 : Dec enc Try.prog w 32 (slCells (α := ByteArray)) (SlEx w 1 (fun s : ByteArray => [.string s]) (fun s => s.size ≤ maxLen)) :=
    dec_slice Try.underlying32 (by omega) (by kernel_rfl) (fun _ => rfl) (dec_string Try.underlying9)
  refine Dec.map (dec_struct4 Try.underlying34 (by kernel_rfl) rfl (by kernel_rfl) (by kernel_rfl) (by kernel_rfl) (dec_string Try.underlying9) (dec_int Try.underlying3) (dec_int Try.underlying3) d3) (fun a => (⟨a.1, a.2.1, a.2.2.1, a.2.2.2.adr, a.2.2.2.cap, a.2.2.2.l⟩ : SessD)) (fun a => rfl) ?_
  rintro ⟨x, y, z, ⟨A, c, l⟩⟩ ⟨h1, h2, h3, h4, h5, h6, h7⟩
  simp only at h4 h5 h6
  refine ⟨⟨?_, h6⟩, h5⟩
  have e := flat_oneK l
  rw [e] at h4
  exact h4
theorem dec_sesss {H : Type} {enc : TypeId × Value → H} {w : World} : Dec enc Try.prog w 22 (slCells (α := SessD)) (SlEx w 4 sessCells (SessOk w w.heap.size)) :=
  dec_slice Try.underlying22 (by omega) (by kernel_rfl) (fun _ => rfl) dec_sess
end Go.Proofs.Ytbmkejiijkbmlaa
