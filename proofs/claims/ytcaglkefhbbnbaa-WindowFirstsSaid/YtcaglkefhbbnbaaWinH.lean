/- Contracts of the reference's End and Holds; what the ends of a tick are, plainly. -/
import Derived.Test.YtcaglkefhbbnbaaWinG
namespace Go.Proofs.Ytcaglkefhbbnbaa
open Go.ChangeShapes Go.WideShapes Go.ChangeAt Go.RowKit
set_option linter.unusedVariables false

def endB (h e : Int) : Bool := decide (h ≤ e) && decide (e ≤ 2199023255552) && decide (e % h = 0)
def heldB (s at_ e : Int) : Bool := decide (at_ < e) && decide (e - s ≤ at_)

set_option maxHeartbeats 400000 in
theorem rend_any (s h e : Int) (h1 : 1 ≤ h) (h2 : h ≤ 9223372036854775807) (w : World) :
    Calls Try.prog 18 #[.agg #[.int .i64 s, .int .i64 h], .int .i64 e] w fun r w' => r = .returned (.bool (endB h e)) ∧ Below w.heap.size w w' := by
  by_cases c1 : h ≤ e
  · by_cases c2 : e ≤ 2199023255552
    · go_enter Try.func18, Try.ntmps18
      go_wp2
      go_ret
      exact ⟨ret_bool (by simp [endB, c1, c2, int_beq]), (Below.refl _ _).alloc (by simp) _⟩
    · go_enter Try.func18, Try.ntmps18
      go_wp2
      go_ret
      exact ⟨ret_bool (by simp [endB]; omega), (Below.refl _ _).alloc (by simp) _⟩
  · go_enter Try.func18, Try.ntmps18
    go_wp2
    go_ret
    exact ⟨ret_bool (by simp [endB]; omega), (Below.refl _ _).alloc (by simp) _⟩

set_option maxHeartbeats 400000 in
theorem rholds_any (s h at_ e : Int) (b1 : -2305843009213693952 ≤ e) (b2 : e ≤ 2305843009213693952) (b3 : -2305843009213693952 ≤ s) (b4 : s ≤ 2305843009213693952) (w : World) :
    Calls Try.prog 19 #[.agg #[.int .i64 s, .int .i64 h], .int .i64 at_, .int .i64 e] w fun r w' => r = .returned (.bool (heldB s at_ e)) ∧ Below w.heap.size w w' := by
  by_cases c1 : at_ < e
  · go_enter Try.func19, Try.ntmps19
    go_wp2
    go_ret
    exact ⟨ret_bool (by simp [heldB, c1]), (Below.refl _ _).alloc (by simp) _⟩
  · go_enter Try.func19, Try.ntmps19
    go_wp2
    go_ret
    exact ⟨ret_bool (by simp [heldB]; omega), (Below.refl _ _).alloc (by simp) _⟩

theorem endsFrom_get (h T : Int) : ∀ (n : Nat) (x : Int) (i : Nat) (hi : i < (endsFrom h T n x).length), (endsFrom h T n x)[i] = x + i * h ∧ x + i * h ≤ T
  | 0, x, i, hi => by simp [endsFrom] at hi
  | n + 1, x, i, hi => by
    by_cases c : x ≤ T
    · simp only [endsFrom, c, if_true] at hi ⊢
      cases i with
      | zero => simp [c]
      | succ i =>
        have := endsFrom_get h T n (x + h) i (by simpa using hi)
        rw [List.getElem_cons_succ]
        have e : x + ((i + 1 : Nat) : Int) * h = x + h + i * h := by
          have : ((i + 1 : Nat) : Int) = (i : Int) + 1 := by omega
          rw [this, Int.add_mul, Int.one_mul]; omega
        rw [e]; exact this
    · simp [endsFrom, c] at hi

theorem endsFrom_end (h T : Int) : ∀ (n : Nat) (x : Int), (endsFrom h T n x).length = n ∨ T < x + (endsFrom h T n x).length * h
  | 0, x => by simp [endsFrom]
  | n + 1, x => by
    by_cases c : x ≤ T
    · simp only [endsFrom, c, if_true, List.length_cons]
      rcases endsFrom_end h T n (x + h) with e | e
      · left; omega
      · right
        have : (((endsFrom h T n (x + h)).length + 1 : Nat) : Int) = ((endsFrom h T n (x + h)).length : Int) + 1 := by omega
        rw [this, Int.add_mul, Int.one_mul]; omega
    · right; simp [endsFrom, c]; omega

/-- All that the statement WindowHolds asks of the ends of a tick. -/
structure HoldsFacts (s h at_ : Int) (l : List Int) : Prop where
  len : l.length ≤ 4096
  empty : decide ((l.length : Int) = 0) = decide (at_ % h < h - s)
  bd : ∀ i (hi : i < l.length), 1 ≤ l[i] ∧ l[i] ≤ 2199023255552
  isEnd : ∀ i (hi : i < l.length), endB h l[i] = true
  held : ∀ i (hi : i < l.length), heldB s at_ l[i] = true
  step : ∀ i (hi : i + 1 < l.length), l[i + 1] = l[i] + h
  first : ∀ (h0 : 0 < l.length), heldB s at_ (l[0] - h) = false
  last : ∀ (h0 : 0 < l.length), heldB s at_ (l[l.length - 1] + h) = false

theorem holdsL_facts (s h at_ : Int) (hm : mayB s h 1 = true) (h0 : 0 ≤ at_) (h1 : at_ ≤ 1099511627776) : HoldsFacts s h at_ (holdsL s h at_) := by
  have hb := may_bd hm
  have e : holdsL s h at_ = endsFrom h (at_ + s) 4096 ((at_ / h + 1) * h) := by
    unfold holdsL endsL
    rw [if_pos ⟨h0, h1, hm⟩, if_pos ⟨hm, by omega⟩]
    congr 1
    · omega
    · have : max at_ 0 = at_ := by omega
      rw [this]
  rw [e]
  have ex : (at_ / h + 1) * h = at_ - at_ % h + h := by
    have := Int.mul_ediv_add_emod at_ h
    rw [Int.add_mul, Int.one_mul, Int.mul_comm]; omega
  have m0 := Int.emod_nonneg at_ (by omega : h ≠ 0)
  have m1 := Int.emod_lt_of_pos at_ (by omega : 0 < h)
  have m2 : at_ % h ≤ at_ := by
    have a := Int.mul_ediv_add_emod at_ h
    have b := Int.mul_nonneg (by omega : 0 ≤ h) (Int.ediv_nonneg h0 (by omega : 0 ≤ h))
    omega
  have g := endsFrom_get h (at_ + s) 4096 ((at_ / h + 1) * h)
  have en := endsFrom_end h (at_ + s) 4096 ((at_ / h + 1) * h)
  have ln := endsFrom_len h (at_ + s) 4096 ((at_ / h + 1) * h)
  have hmod : ∀ i : Nat, ((at_ / h + 1) * h + i * h) % h = 0 := fun i => by rw [← Int.add_mul, Int.mul_emod_left]
  have hlow : ∀ i : Nat, (at_ / h + 1) * h ≤ (at_ / h + 1) * h + i * h := fun i => by
    have := Int.mul_nonneg (by omega : 0 ≤ (i : Int)) (by omega : 0 ≤ h); omega
  generalize hl : endsFrom h (at_ + s) 4096 ((at_ / h + 1) * h) = l at *
  refine ⟨ln, ?_, ?_, ?_, ?_, ?_, ?_, ?_⟩
  · rw [decide_eq_decide]
    constructor
    · intro hz
      have : l.length = 0 := by omega
      rcases en with e1 | e1
      · omega
      · rw [this] at e1; simp at e1; omega
    · intro hlt
      by_cases hz : l.length = 0
      · omega
      · have := (g 0 (by omega)).2
        simp at this
        omega
  · intro i hi
    have a := g i hi
    have b := hlow i
    omega
  · intro i hi
    have a := g i hi
    have b := hlow i
    simp only [endB, a.1, Bool.and_eq_true, decide_eq_true_eq]
    exact ⟨⟨by omega, by omega⟩, hmod i⟩
  · intro i hi
    have a := g i hi
    have b := hlow i
    simp only [heldB, a.1, Bool.and_eq_true, decide_eq_true_eq]
    omega
  · intro i hi
    rw [(g (i + 1) hi).1, (g i (by omega)).1]
    have : ((i + 1 : Nat) : Int) = (i : Int) + 1 := by omega
    rw [this, Int.add_mul (i : Int) 1 h, Int.one_mul]; omega
  · intro hz
    have := (g 0 hz).1
    simp at this
    simp only [heldB, this, Bool.and_eq_false_iff, decide_eq_false_iff_not]
    left; omega
  · intro hz
    have a := (g (l.length - 1) (by omega)).1
    have e2 : ((l.length - 1 : Nat) : Int) * h + h = (l.length : Int) * h := by
      have : ((l.length - 1 : Nat) : Int) = (l.length : Int) - 1 := by omega
      rw [this, Int.sub_mul, Int.one_mul]; omega
    simp only [heldB, a, Bool.and_eq_false_iff, decide_eq_false_iff_not]
    right
    rcases en with e1 | e1
    · have e3 : (l.length : Int) * h = 4096 * h := by rw [show (l.length : Int) = 4096 by omega]
      omega
    · omega

end Go.Proofs.Ytcaglkefhbbnbaa
