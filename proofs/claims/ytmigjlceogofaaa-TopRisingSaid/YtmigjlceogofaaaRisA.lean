/- Rises: their order, plainly; rising.Ratio. -/
import Derived.Test.YtmigjlceogofaaaRatB
import Derived.Test.YtmigjlceogofaaaCmpI
import Derived.Test.YtmigjlceogofaaaCmpS
import Derived.Test.YtmigjlceogofaaaCmpO
import Derived.Test.YtmigjlceogofaaaKitU
namespace Go.Proofs.Ytmigjlceogofaaa
open Go.ChangeShapes Go.WideShapes Go.ChangeAt Go.RowKit Go.Shelf Go.Lib Go.Sort Go.Proofs
set_option linter.unusedVariables false
set_option linter.unusedSimpArgs false

structure RiseV where
  key : ByteArray
  new : Int
  old : Int
theorem RiseV.same {a b : RiseV} (h : a.key = b.key ∧ a.new = b.new ∧ a.old = b.old) : a = b := by
  obtain ⟨k, n, o⟩ := a
  obtain ⟨k', n', o'⟩ := b
  obtain ⟨h1, h2, h3⟩ := h
  simp at h1 h2 h3
  subst h1 h2 h3
  rfl
instance : DecidableEq RiseV := fun a b => if h : a.key = b.key ∧ a.new = b.new ∧ a.old = b.old then isTrue (RiseV.same h) else isFalse (fun e => h (by subst e; exact ⟨rfl, rfl, rfl⟩))
def riseEnc (r : RiseV) : List Value := [.string r.key, .int .i64 r.new, .int .i64 r.old]
def RiseOk (r : RiseV) : Prop := 1 ≤ r.new ∧ r.new ≤ 1099511627776 ∧ 0 ≤ r.old ∧ r.old ≤ 1099511627776
abbrev OkRise := { r : RiseV // RiseOk r }
instance : Inhabited OkRise := ⟨⟨⟨ByteArray.empty, 1, 0⟩, by unfold RiseOk; simp⟩⟩

theorem cmpInt_cases (a b : Int) : (a < b ∧ cmpInt a b = -1) ∨ (a = b ∧ cmpInt a b = 0) ∨ (b < a ∧ cmpInt a b = 1) := by
  unfold cmpInt
  by_cases h1 : a < b
  · left; exact ⟨h1, by rw [if_pos h1]⟩
  · right
    by_cases h2 : b < a
    · right; exact ⟨h2, by rw [if_neg h1, if_pos h2]⟩
    · left; exact ⟨by omega, by rw [if_neg h1, if_neg h2]⟩
theorem cmpStr_cases (a b : ByteArray) : (sLt a b = true ∧ cmpStr a b = -1) ∨ (a = b ∧ cmpStr a b = 0) ∨ (sLt b a = true ∧ cmpStr a b = 1) := by
  unfold cmpStr
  by_cases h1 : sLt a b = true
  · left; exact ⟨h1, by rw [if_pos h1]⟩
  · right
    by_cases h2 : sLt b a = true
    · right; exact ⟨h2, by rw [if_neg h1, if_pos h2]⟩
    · left; exact ⟨sLt_total (by simpa using h1) (by simpa using h2), by rw [if_neg h1, if_neg h2]⟩
theorem cmpStr_self (a : ByteArray) : cmpStr a a = 0 := by
  unfold cmpStr
  rw [sLt_irrefl]
  rfl

/-- By the fraction, the greater one first; then by the new number, the greater one first; then by the key. -/
def riseCmp (x y : RiseV) : Int := orV [cmpInt (y.new * (x.old + 1)) (x.new * (y.old + 1)), cmpInt y.new x.new, cmpStr x.key y.key]
def riseLt (x y : RiseV) : Bool := decide (riseCmp x y < 0)

theorem riseLt_iff (x y : RiseV) : riseLt x y = true ↔ (y.new * (x.old + 1) < x.new * (y.old + 1) ∨ (y.new * (x.old + 1) = x.new * (y.old + 1) ∧ (y.new < x.new ∨ (y.new = x.new ∧ sLt x.key y.key = true)))) := by
  unfold riseLt riseCmp
  rw [decide_eq_true_eq]
  rcases cmpInt_cases (y.new * (x.old + 1)) (x.new * (y.old + 1)) with ⟨h1, e1⟩ | ⟨h1, e1⟩ | ⟨h1, e1⟩
  · simp only [orV, e1]
    simp [h1]
  · rcases cmpInt_cases y.new x.new with ⟨h2, e2⟩ | ⟨h2, e2⟩ | ⟨h2, e2⟩
    · simp only [orV, e1, e2]
      simp [h1, h2]
    · rcases cmpStr_cases x.key y.key with ⟨h3, e3⟩ | ⟨h3, e3⟩ | ⟨h3, e3⟩
      · simp only [orV, e1, e2, e3]
        exact ⟨fun _ => .inr ⟨h1, .inr ⟨h2, h3⟩⟩, fun _ => by simp⟩
      · simp only [orV, e1, e2, e3]
        rw [h1, h2, h3, sLt_irrefl]
        simp
      · simp only [orV, e1, e2, e3]
        rw [h1, h2, sLt_asymm h3]
        simp
    · simp only [orV, e1, e2]
      have : ¬ y.new < x.new := by omega
      have h4 : ¬ y.new = x.new := by omega
      simp [h1, this, h4]
  · simp only [orV, e1]
    have : ¬ y.new * (x.old + 1) < x.new * (y.old + 1) := by omega
    have h4 : ¬ y.new * (x.old + 1) = x.new * (y.old + 1) := by omega
    simp [this, h4]

theorem frac_trans {nx dx ny dy nz dz : Int} (hx : 1 ≤ dx) (hy : 1 ≤ dy) (hz : 1 ≤ dz) (h1 : ny * dx ≤ nx * dy) (h2 : nz * dy ≤ ny * dz) : nz * dx ≤ nx * dz ∧ ((ny * dx < nx * dy ∨ nz * dy < ny * dz) → nz * dx < nx * dz) := by
  have a1 : ny * dx * dz ≤ nx * dy * dz := Int.mul_le_mul_of_nonneg_right h1 (by omega)
  have a2 : nz * dy * dx ≤ ny * dz * dx := Int.mul_le_mul_of_nonneg_right h2 (by omega)
  have e1 : ny * dx * dz = ny * dz * dx := by grind
  have e2 : nz * dy * dx = nz * dx * dy := by grind
  have e3 : nx * dy * dz = nx * dz * dy := by grind
  rw [e1, e3] at a1
  rw [e2] at a2
  refine ⟨Int.le_of_mul_le_mul_right (Int.le_trans a2 a1) (by omega), ?_⟩
  rintro (h | h)
  · have b1 : ny * dx * dz < nx * dy * dz := Int.mul_lt_mul_of_pos_right h (by omega)
    rw [e1, e3] at b1
    exact Int.lt_of_mul_lt_mul_right (Int.lt_of_le_of_lt a2 b1) (by omega)
  · have b1 : nz * dy * dx < ny * dz * dx := Int.mul_lt_mul_of_pos_right h (by omega)
    rw [e2] at b1
    exact Int.lt_of_mul_lt_mul_right (Int.lt_of_lt_of_le b1 a1) (by omega)

theorem riseLt_irr (x : RiseV) : riseLt x x = false := by
  rw [← Bool.not_eq_true, riseLt_iff, sLt_irrefl]
  simp
theorem riseLt_tr {x y z : RiseV} (hx : 0 ≤ x.old) (hy : 0 ≤ y.old) (hz : 0 ≤ z.old) (h1 : riseLt x y = true) (h2 : riseLt y z = true) : riseLt x z = true := by
  rw [riseLt_iff] at *
  have a1 : y.new * (x.old + 1) ≤ x.new * (y.old + 1) := by omega
  have a2 : z.new * (y.old + 1) ≤ y.new * (z.old + 1) := by omega
  obtain ⟨b1, b2⟩ := frac_trans (by omega) (by omega) (by omega) a1 a2
  by_cases hlt : z.new * (x.old + 1) < x.new * (z.old + 1)
  · exact .inl hlt
  · right
    have n1 : ¬ y.new * (x.old + 1) < x.new * (y.old + 1) := fun h => hlt (b2 (.inl h))
    have n2 : ¬ z.new * (y.old + 1) < y.new * (z.old + 1) := fun h => hlt (b2 (.inr h))
    refine ⟨by omega, ?_⟩
    rcases h1 with h1 | ⟨_, h1⟩
    · exact absurd h1 n1
    · rcases h2 with h2 | ⟨_, h2⟩
      · exact absurd h2 n2
      · rcases h1 with h1 | ⟨h1, k1⟩
        · left; omega
        · rcases h2 with h2 | ⟨h2, k2⟩
          · left; omega
          · right; exact ⟨by omega, sLt_trans k1 k2⟩
theorem riseLt_tot {x y : RiseV} (hx : 1 ≤ x.new) (h1 : riseLt x y = false) (h2 : riseLt y x = false) : x = y := by
  rw [← Bool.not_eq_true, riseLt_iff] at h1 h2
  have e1 : y.new * (x.old + 1) = x.new * (y.old + 1) := by
    rcases Int.lt_trichotomy (y.new * (x.old + 1)) (x.new * (y.old + 1)) with h | h | h
    · exact absurd (.inl h) h1
    · exact h
    · exact absurd (.inl h) h2
  have e2 : y.new = x.new := by
    rcases Int.lt_trichotomy y.new x.new with h | h | h
    · exact absurd (.inr ⟨e1, .inl h⟩) h1
    · exact h
    · exact absurd (.inr ⟨e1.symm, .inl h⟩) h2
  have e3 : x.key = y.key := sLt_total (Bool.eq_false_iff.2 (fun h => h1 (.inr ⟨e1, .inr ⟨e2, h⟩⟩))) (Bool.eq_false_iff.2 (fun h => h2 (.inr ⟨e1.symm, .inr ⟨e2.symm, h⟩⟩)))
  rw [e2] at e1
  have e4 := Int.eq_of_mul_eq_mul_left (by omega : x.new ≠ 0) e1
  obtain ⟨k, n, o⟩ := x
  obtain ⟨k', n', o'⟩ := y
  simp at e2 e3 e4
  subst e2 e3
  have : o = o' := by omega
  rw [this]

def okCmp (x y : OkRise) : Int := riseCmp x.1 y.1
theorem okLt (x y : OkRise) : ltOf okCmp x y = riseLt x.1 y.1 := rfl
theorem okLt_irr (x : OkRise) : ltOf okCmp x x = false := riseLt_irr _
theorem okLt_tr (x y z : OkRise) (h1 : ltOf okCmp x y = true) (h2 : ltOf okCmp y z = true) : ltOf okCmp x z = true := riseLt_tr x.2.2.2.1 y.2.2.2.1 z.2.2.2.1 h1 h2
theorem okLt_tot (x y : OkRise) (h1 : ltOf okCmp x y = false) (h2 : ltOf okCmp y x = false) : x = y := Subtype.ext (riseLt_tot x.2.1 h1 h2)

/-- A rise's fraction. -/
def ratNum (n o : Int) : Int := if n < 0 ∨ o < 0 ∨ o = 9223372036854775807 then 0 else n
def ratDen (n o : Int) : Int := if n < 0 ∨ o < 0 ∨ o = 9223372036854775807 then 1 else o + 1

theorem heap_two (w : World) (a b : Obj) : ((w.alloc a).alloc b).heap[w.heap.size + 1]? = some b := by
  have := heap_alloc_new (w.alloc a) b
  rwa [World.size_alloc] at this

set_option maxHeartbeats 1000000 in
theorem ratio_any (k : ByteArray) (n o : Int) (o1 : o ≤ 9223372036854775807) (w : World) : Calls Try.prog 38 #[.agg #[.string k, .int .i64 n, .int .i64 o]] w fun e w' => e = .returned (.agg #[.int .i64 (ratNum n o), .int .i64 (ratDen n o)]) ∧ Grew w w' := by
  unfold ratNum ratDen
  by_cases h1 : n < 0
  · rw [if_pos (.inl h1), if_pos (.inl h1)]
    go_enter Try.func38, Try.ntmps38
    go_wp2
    refine bodyPost_ret (results_cell_row rfl _ _ _ _ _ _ _ rfl (heap_two _ _ _) Try.underlying74 rfl (by kernel_rfl)) rfl ?_
    exact ⟨rfl, ((Grew.refl _).alloc _).alloc _⟩
  · by_cases h2 : o < 0
    · rw [if_pos (.inr (.inl h2)), if_pos (.inr (.inl h2))]
      go_enter Try.func38, Try.ntmps38
      go_wp2
      refine bodyPost_ret (results_cell_row rfl _ _ _ _ _ _ _ rfl (heap_two _ _ _) Try.underlying74 rfl (by kernel_rfl)) rfl ?_
      exact ⟨rfl, ((Grew.refl _).alloc _).alloc _⟩
    · by_cases h3 : o = 9223372036854775807
      · rw [if_pos (.inr (.inr h3)), if_pos (.inr (.inr h3))]
        subst h3
        go_enter Try.func38, Try.ntmps38
        go_wp2
        refine bodyPost_ret (results_cell_row rfl _ _ _ _ _ _ _ rfl (heap_two _ _ _) Try.underlying74 rfl (by kernel_rfl)) rfl ?_
        exact ⟨rfl, ((Grew.refl _).alloc _).alloc _⟩
      · rw [if_neg (by omega), if_neg (by omega)]
        have h3' : (o == 9223372036854775807) = false := by simp [h3]
        have h4 : o ≤ 9223372036854775806 := by omega
        clear h3
        go_enter Try.func38, Try.ntmps38
        go_wp2
        refine bodyPost_ret (results_cell_row rfl _ _ _ _ _ _ _ rfl (heap_two _ _ _) Try.underlying74 rfl (by kernel_rfl)) rfl ?_
        exact ⟨rfl, ((Grew.refl _).alloc _).alloc _⟩
theorem ratNum_ok {n o : Int} (h : 0 ≤ n) (h2 : 0 ≤ o) (h3 : o ≤ 1099511627776) : ratNum n o = n := if_neg (by omega)
theorem ratDen_ok {n o : Int} (h : 0 ≤ n) (h2 : 0 ≤ o) (h3 : o ≤ 1099511627776) : ratDen n o = o + 1 := if_neg (by omega)
end Go.Proofs.Ytmigjlceogofaaa
