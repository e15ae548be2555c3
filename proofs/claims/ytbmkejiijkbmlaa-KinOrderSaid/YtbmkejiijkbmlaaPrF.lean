/- kin: likeness; the order of what is near; contracts of kin.Likeness, kin.first$1, the sort. -/
import Derived.Test.YtbmkejiijkbmlaaPrE
import Derived.Test.YtbmkejiijkbmlaaRatB
import Derived.Test.YtbmkejiijkbmlaaCmpS
import Derived.Test.YtbmkejiijkbmlaaCmpO
import Derived.Test.YtbmkejiijkbmlaaKitU
import Derived.Test.YtbmkejiijkbmlaaKitX
import Derived.Test.YtbmkejiijkbmlaaKitP
namespace Go.Proofs.Ytbmkejiijkbmlaa
open Go.ChangeShapes Go.WideShapes Go.ChangeAt Go.RowKit Go.Shelf Go.Lib Go.Sort Go.Proofs
set_option linter.unusedVariables false
set_option linter.unusedSimpArgs false

def likeNum (L : List (List ByteArray)) (a b : ByteArray) : Int := if cnt1 L a = 0 ∨ cnt1 L b = 0 then 0 else if a = b then 1 else cnt2 L a b * cnt2 L a b
def likeDen (L : List (List ByteArray)) (a b : ByteArray) : Int := if cnt1 L a = 0 ∨ cnt1 L b = 0 then 1 else if a = b then 1 else cnt1 L a * cnt1 L b
theorem mul_bdK {x y N : Int} (hx : 0 ≤ x) (hx2 : x ≤ N) (hy : 0 ≤ y) (hy2 : y ≤ N) (hN : N ≤ 100000) : 0 ≤ x * y ∧ x * y ≤ 10000000000 := by
  refine ⟨Int.mul_nonneg hx hy, ?_⟩
  have h1 : x * y ≤ N * N := Int.mul_le_mul hx2 hy2 hy (by omega)
  have h2 : N * N ≤ 100000 * 100000 := Int.mul_le_mul hN hN (by omega) (by omega)
  omega
theorem likeNum_bd (L : List (List ByteArray)) (a b : ByteArray) (hL : (L.length : Int) ≤ 100000) : 0 ≤ likeNum L a b ∧ likeNum L a b ≤ 10000000000 := by
  have h := cnt2_le L a b
  have := mul_bdK h.1 h.2 h.1 h.2 hL
  unfold likeNum
  split
  · omega
  · split <;> omega
theorem likeDen_bd (L : List (List ByteArray)) (a b : ByteArray) (hL : (L.length : Int) ≤ 100000) : 1 ≤ likeDen L a b ∧ likeDen L a b ≤ 10000000000 := by
  have h := cnt1_le L a
  have h' := cnt1_le L b
  have h2 := mul_bdK h.1 h.2 h'.1 h'.2 hL
  unfold likeDen
  split
  · omega
  · rename_i h0
    split
    · omega
    · have : 0 < cnt1 L a * cnt1 L b := Int.mul_pos (by omega) (by omega)
      omega

set_option maxHeartbeats 2000000 in
theorem like_any (pb : Nat) (F : Nat → Prop) (L : List (List ByteArray)) (a b : ByteArray) (w : World) (h : PRd w pb F L) (hoka : a.size ≤ maxLen) (hokb : b.size ≤ maxLen) (hL : (L.length : Int) ≤ 100000) :
    Calls Try.prog 11 #[.pointer (some ⟨pb, 0, none⟩), .string a, .string b] w fun e w' => e = .returned (.agg #[.int .i64 (likeNum L a b), .int .i64 (likeDen L a b)]) ∧ Below w.heap.size w w' := by
  have q1 := fun W (hb : Below w.heap.size w W) => single_get pb F L a W ((PRd.own pb L).below h hb) hoka
  have q2 := fun W (hb : Below w.heap.size w W) => single_get pb F L b W ((PRd.own pb L).below h hb) hokb
  have q3 := fun W (hb : Below w.heap.size w W) => count_get pb F L a b W ((PRd.own pb L).below h hb) hoka hokb
  have hx := cnt1_le L a
  have hy := cnt1_le L b
  have hn := cnt2_le L a b
  have m1 := mul_bdK hn.1 hn.2 hn.1 hn.2 hL
  have m2 := mul_bdK hx.1 hx.2 hy.1 hy.2 hL
  unfold likeNum likeDen
  generalize cnt1 L a = x at *
  generalize cnt1 L b = y at *
  generalize cnt2 L a b = n at *
  have Q1 := Lib.hid q1
  have Q2 := Lib.hid q2
  have Q3 := Lib.hid q3
  obtain ⟨W1, hW1⟩ : ∃ W1, W1 = w.alloc (.cells #[.int .i64 0, .int .i64 0] 28) := ⟨_, rfl⟩
  have hb1 : Below w.heap.size w W1 := by rw [hW1]; exact (Below.refl _ w).alloc (Nat.le_refl _) _
  clear q1 q2 q3 h
  by_cases hx0 : x = 0
  · subst hx0
    have e0 : ((0 : Int) == 0) = true := rfl
    rw [if_pos (.inl rfl), if_pos (.inl rfl)]
    go_enter Try.func11, Try.ntmps11
    go_wp2_with fail
    refine (Q1.out _ ((Below.refl _ w).alloc (Nat.le_refl _) _)).mono ?_
    rintro e w2 ⟨rfl, rfl⟩
    go_wp2_with fail
    refine (Q2.out _ ((Below.refl _ w).alloc (Nat.le_refl _) _)).mono ?_
    rintro e w2 ⟨rfl, rfl⟩
    go_wp2
    refine bodyPost_ret (results_cell_row rfl _ _ _ _ _ _ _ rfl (heap_alloc_new _ _) Try.underlying28 rfl (by kernel_rfl)) rfl ?_
    exact ⟨rfl, (Below.refl _ w).alloc (Nat.le_refl _) _⟩
  by_cases hy0 : y = 0
  · subst hy0
    have e0 : ((0 : Int) == 0) = true := rfl
    have e1 : (x == 0) = false := by simp [hx0]
    rw [if_pos (.inr rfl), if_pos (.inr rfl)]
    go_enter Try.func11, Try.ntmps11
    go_wp2_with fail
    refine (Q1.out _ ((Below.refl _ w).alloc (Nat.le_refl _) _)).mono ?_
    rintro e w2 ⟨rfl, rfl⟩
    go_wp2_with fail
    refine (Q2.out _ ((Below.refl _ w).alloc (Nat.le_refl _) _)).mono ?_
    rintro e w2 ⟨rfl, rfl⟩
    go_wp2
    refine bodyPost_ret (results_cell_row rfl _ _ _ _ _ _ _ rfl (heap_alloc_new _ _) Try.underlying28 rfl (by kernel_rfl)) rfl ?_
    exact ⟨rfl, (Below.refl _ w).alloc (Nat.le_refl _) _⟩
  have hxy : ¬ (x = 0 ∨ y = 0) := by omega
  by_cases hab : a = b
  · rw [if_neg hxy, if_neg hxy, if_pos hab, if_pos hab]
    subst hab
    have e1 : (x == 0) = false := by simp [hx0]
    have e2 : (y == 0) = false := by simp [hy0]
    have e3 : (a.toList == a.toList) = true := by simp
    go_enter Try.func11, Try.ntmps11
    go_wp2_with fail
    refine (Q1.out _ ((Below.refl _ w).alloc (Nat.le_refl _) _)).mono ?_
    rintro e w2 ⟨rfl, rfl⟩
    go_wp2_with fail
    refine (Q2.out _ ((Below.refl _ w).alloc (Nat.le_refl _) _)).mono ?_
    rintro e w2 ⟨rfl, rfl⟩
    go_wp2
    refine bodyPost_ret (results_cell_row rfl _ _ _ _ _ _ _ rfl (heap_alloc_new _ _) Try.underlying28 rfl (by kernel_rfl)) rfl ?_
    exact ⟨rfl, (Below.refl _ w).alloc (Nat.le_refl _) _⟩
  · have e1 : (x == 0) = false := by simp [hx0]
    have e2 : (y == 0) = false := by simp [hy0]
    have e3 : (a.toList == b.toList) = false := by rw [str_beq]; simp [hab]
    have k1 : wrap64 (n * n) = n * n := by unfold wrap64; omega
    have k2 : wrap64 (x * y) = x * y := by unfold wrap64; omega
    rw [if_neg hxy, if_neg hxy, if_neg hab, if_neg hab]
    go_enter Try.func11, Try.ntmps11
    go_wp2_with fail
    refine (Q1.out _ ((Below.refl _ w).alloc (Nat.le_refl _) _)).mono ?_
    rintro e w2 ⟨rfl, rfl⟩
    go_wp2_with fail
    refine (Q2.out _ ((Below.refl _ w).alloc (Nat.le_refl _) _)).mono ?_
    rintro e w2 ⟨rfl, rfl⟩
    go_wp2_with fail
    refine (Q3.out _ ((Below.refl _ w).alloc (Nat.le_refl _) _)).mono ?_
    rintro e w2 ⟨rfl, rfl⟩
    go_wp2
    refine bodyPost_ret (results_cell_row rfl _ _ _ _ _ _ _ rfl (heap_alloc_new _ _) Try.underlying28 rfl (by kernel_rfl)) rfl ?_
    exact ⟨rfl, (Below.refl _ w).alloc (Nat.le_refl _) _⟩

structure NearV where
  item : ByteArray
  num : Int
  den : Int
theorem NearV.same {a b : NearV} (h : a.item = b.item ∧ a.num = b.num ∧ a.den = b.den) : a = b := by
  obtain ⟨k, n, o⟩ := a
  obtain ⟨k', n', o'⟩ := b
  obtain ⟨h1, h2, h3⟩ := h
  simp at h1 h2 h3
  subst h1 h2 h3
  rfl
instance : DecidableEq NearV := fun a b => if h : a.item = b.item ∧ a.num = b.num ∧ a.den = b.den then isTrue (NearV.same h) else isFalse (fun e => h (by subst e; exact ⟨rfl, rfl, rfl⟩))
def nearEnc (r : NearV) : List Value := [.string r.item, .int .i64 r.num, .int .i64 r.den]
def NearOk (r : NearV) : Prop := 0 ≤ r.num ∧ r.num ≤ 10000000000 ∧ 1 ≤ r.den ∧ r.den ≤ 10000000000

theorem cmpInt_casesK (a b : Int) : (a < b ∧ cmpInt a b = -1) ∨ (a = b ∧ cmpInt a b = 0) ∨ (b < a ∧ cmpInt a b = 1) := by
  unfold cmpInt
  by_cases h1 : a < b
  · left; exact ⟨h1, by rw [if_pos h1]⟩
  · right
    by_cases h2 : b < a
    · right; exact ⟨h2, by rw [if_neg h1, if_pos h2]⟩
    · left; exact ⟨by omega, by rw [if_neg h1, if_neg h2]⟩
theorem cmpStr_casesK (a b : ByteArray) : (sLt a b = true ∧ cmpStr a b = -1) ∨ (a = b ∧ cmpStr a b = 0) ∨ (sLt b a = true ∧ cmpStr a b = 1) := by
  unfold cmpStr
  by_cases h1 : sLt a b = true
  · left; exact ⟨h1, by rw [if_pos h1]⟩
  · right
    by_cases h2 : sLt b a = true
    · right; exact ⟨h2, by rw [if_neg h1, if_pos h2]⟩
    · left; exact ⟨sLt_total (by simpa using h1) (by simpa using h2), by rw [if_neg h1, if_neg h2]⟩

/-- By the fraction, the greater one first; then by the thing. -/
def nearCmp (x y : NearV) : Int := orV [cmpInt (y.num * x.den) (x.num * y.den), cmpStr x.item y.item]
def nearLt (x y : NearV) : Bool := decide (nearCmp x y < 0)
theorem nearLt_iff (x y : NearV) : nearLt x y = true ↔ (y.num * x.den < x.num * y.den ∨ (y.num * x.den = x.num * y.den ∧ sLt x.item y.item = true)) := by
  unfold nearLt nearCmp
  rw [decide_eq_true_eq]
  rcases cmpInt_casesK (y.num * x.den) (x.num * y.den) with ⟨h1, e1⟩ | ⟨h1, e1⟩ | ⟨h1, e1⟩
  · simp only [orV, e1]
    simp [h1]
  · rcases cmpStr_casesK x.item y.item with ⟨h3, e3⟩ | ⟨h3, e3⟩ | ⟨h3, e3⟩
    · simp only [orV, e1, e3]
      exact ⟨fun _ => .inr ⟨h1, h3⟩, fun _ => by simp⟩
    · simp only [orV, e1, e3]
      rw [h1, h3, sLt_irrefl]
      simp
    · simp only [orV, e1, e3]
      rw [h1, sLt_asymm h3]
      simp
  · simp only [orV, e1]
    have : ¬ y.num * x.den < x.num * y.den := by omega
    have h4 : ¬ y.num * x.den = x.num * y.den := by omega
    simp [this, h4]

theorem frac_transK {nx dx ny dy nz dz : Int} (hx : 1 ≤ dx) (hy : 1 ≤ dy) (hz : 1 ≤ dz) (h1 : ny * dx ≤ nx * dy) (h2 : nz * dy ≤ ny * dz) : nz * dx ≤ nx * dz ∧ ((ny * dx < nx * dy ∨ nz * dy < ny * dz) → nz * dx < nx * dz) := by
  have a1 : ny * dx * dz ≤ nx * dy * dz := Int.mul_le_mul_of_nonneg_right h1 (by omega)
  have a2 : nz * dy * dx ≤ ny * dz * dx := Int.mul_le_mul_of_nonneg_right h2 (by omega)
  have e1 : ny * dx * dz = ny * dz * dx := by grind
  have e2 : nz * dy * dx = nz * dx * dy := by grind
  have e3 : nx * dy * dz = nx * dz * dy := by grind
  rw [e1, e3] at a1
  rw [e2] at a2
  refine ⟨Int.le_of_mul_le_mul_right (Int.le_trans a2 a1) (by omega), ?_⟩
  rintro (h | h)
  · have b1 : ny * dx * dz < nx * dy * dz := Int.mul_lt_mul_of_pos_right h (by omega)
    rw [e1, e3] at b1
    exact Int.lt_of_mul_lt_mul_right (Int.lt_of_le_of_lt a2 b1) (by omega)
  · have b1 : nz * dy * dx < ny * dz * dx := Int.mul_lt_mul_of_pos_right h (by omega)
    rw [e2] at b1
    exact Int.lt_of_mul_lt_mul_right (Int.lt_of_lt_of_le b1 a1) (by omega)

theorem nearLt_irr (x : NearV) : nearLt x x = false := by
  rw [← Bool.not_eq_true, nearLt_iff, sLt_irrefl]
  simp
theorem nearLt_tr {x y z : NearV} (hx : 1 ≤ x.den) (hy : 1 ≤ y.den) (hz : 1 ≤ z.den) (h1 : nearLt x y = true) (h2 : nearLt y z = true) : nearLt x z = true := by
  rw [nearLt_iff] at *
  have a1 : y.num * x.den ≤ x.num * y.den := by omega
  have a2 : z.num * y.den ≤ y.num * z.den := by omega
  obtain ⟨b1, b2⟩ := frac_transK hx hy hz a1 a2
  by_cases hlt : z.num * x.den < x.num * z.den
  · exact .inl hlt
  · right
    have n1 : ¬ y.num * x.den < x.num * y.den := fun h => hlt (b2 (.inl h))
    have n2 : ¬ z.num * y.den < y.num * z.den := fun h => hlt (b2 (.inr h))
    refine ⟨by omega, ?_⟩
    rcases h1 with h1 | ⟨_, h1⟩
    · exact absurd h1 n1
    · rcases h2 with h2 | ⟨_, h2⟩
      · exact absurd h2 n2
      · exact sLt_trans h1 h2
theorem nearLt_item {x y : NearV} (h1 : nearLt x y = false) (h2 : nearLt y x = false) : x.item = y.item := by
  rw [← Bool.not_eq_true, nearLt_iff] at h1 h2
  have e1 : y.num * x.den = x.num * y.den := by
    rcases Int.lt_trichotomy (y.num * x.den) (x.num * y.den) with h | h | h
    · exact absurd (.inl h) h1
    · exact h
    · exact absurd (.inl h) h2
  exact sLt_total (Bool.eq_false_iff.2 (fun h => h1 (.inr ⟨e1, h⟩))) (Bool.eq_false_iff.2 (fun h => h2 (.inr ⟨e1.symm, h⟩)))

theorem keep6K {W0 W : World} (h : Grew W0 W) {a b : Nat} (ha : a < W0.heap.size) (hb : b < W0.heap.size) {v0 v1 v2 v3 v4 v5 : Option Value} (d0 : W0.cell? ⟨a, 0, none⟩ = v0) (d1 : W0.cell? ⟨a, 1, none⟩ = v1) (d2 : W0.cell? ⟨a, 2, none⟩ = v2) (d3 : W0.cell? ⟨b, 0, none⟩ = v3) (d4 : W0.cell? ⟨b, 1, none⟩ = v4) (d5 : W0.cell? ⟨b, 2, none⟩ = v5) :
    W.cell? ⟨a, 0, none⟩ = v0 ∧ W.cell? ⟨a, 1, none⟩ = v1 ∧ W.cell? ⟨a, 2, none⟩ = v2 ∧ W.cell? ⟨b, 0, none⟩ = v3 ∧ W.cell? ⟨b, 1, none⟩ = v4 ∧ W.cell? ⟨b, 2, none⟩ = v5 :=
  ⟨(h.below.cell (p := ⟨a, 0, none⟩) ha).trans d0, (h.below.cell (p := ⟨a, 1, none⟩) ha).trans d1, (h.below.cell (p := ⟨a, 2, none⟩) ha).trans d2, (h.below.cell (p := ⟨b, 0, none⟩) hb).trans d3, (h.below.cell (p := ⟨b, 1, none⟩) hb).trans d4, (h.below.cell (p := ⟨b, 2, none⟩) hb).trans d5⟩

set_option maxRecDepth 20000 in
set_option maxHeartbeats 2000000 in
theorem ncmp_any (x y : NearV) (hx : NearOk x) (hy : NearOk y) (w : World) :
    Calls Try.prog 44 #[.agg (nearEnc x).toArray, .agg (nearEnc y).toArray] w fun e w' => e = .returned (.int .i64 (nearCmp x y)) ∧ Grew w w' := by
  obtain ⟨kx, nx, ox⟩ := x
  obtain ⟨ky, ny, oy⟩ := y
  unfold nearCmp nearEnc
  simp only [NearOk] at *
  have q3 := fun W => compare_any ny oy nx ox (by omega) (by omega) (by omega) (by omega) (by omega) (by omega) (by omega) (by omega) W
  generalize cmpInt (ny * ox) (nx * oy) = d1 at *
  have q5 := fun W => cmpS_any kx ky W
  generalize cmpStr kx ky = d3 at *
  have q6 := fun b W h => or_any b 0 2 [d1, d3] W (by simp) h
  generalize orV [d1, d3] = r at *
  have Q3 := Lib.hid q3
  have Q5 := Lib.hid q5
  have Q6 := Lib.hid q6
  clear q3 q5 q6 hx hy
  go_enter Try.func44, Try.ntmps44
  go_wp2
  obtain ⟨W0, hW0⟩ : ∃ W0, W0 = (w.alloc (Obj.cells #[Value.string kx, Value.int .i64 nx, Value.int .i64 ox] 45)).alloc (Obj.cells #[Value.string ky, Value.int .i64 ny, Value.int .i64 oy] 45) := ⟨_, rfl⟩
  have d0 : W0.cell? ⟨w.heap.size, 0, none⟩ = some (.string kx) := by rw [hW0]; simp
  have d1' : W0.cell? ⟨w.heap.size, 1, none⟩ = some (.int .i64 nx) := by rw [hW0]; simp
  have d2' : W0.cell? ⟨w.heap.size, 2, none⟩ = some (.int .i64 ox) := by rw [hW0]; simp
  have d3' : W0.cell? ⟨w.heap.size + 1, 0, none⟩ = some (.string ky) := by rw [hW0]; simp
  have d4 : W0.cell? ⟨w.heap.size + 1, 1, none⟩ = some (.int .i64 ny) := by rw [hW0]; simp
  have d5 : W0.cell? ⟨w.heap.size + 1, 2, none⟩ = some (.int .i64 oy) := by rw [hW0]; simp
  have hz0 : w.heap.size < W0.heap.size := by rw [hW0]; simp; omega
  have hz1 : w.heap.size + 1 < W0.heap.size := by rw [hW0]; simp
  have HG : Hid (Grew w W0) := Lib.hid (by rw [hW0]; exact ((Grew.refl _).alloc _).alloc _)
  rw [← hW0]
  clear hW0
  have hKe : Grew W0 W0.drew := (Grew.refl _).drew
  refine heldStart 12 (S := fun W => W.cell? ⟨w.heap.size, 0, none⟩ = some (.string kx) ∧ W.cell? ⟨w.heap.size, 1, none⟩ = some (.int .i64 nx) ∧ W.cell? ⟨w.heap.size, 2, none⟩ = some (.int .i64 ox) ∧ W.cell? ⟨w.heap.size + 1, 0, none⟩ = some (.string ky) ∧ W.cell? ⟨w.heap.size + 1, 1, none⟩ = some (.int .i64 ny) ∧ W.cell? ⟨w.heap.size + 1, 2, none⟩ = some (.int .i64 oy)) (by kernel_rfl) ?_ (fun hHeld => ?_)
  · exact keep6K (by first | exact hKe | exact hKe.alloc _) hz0 hz1 d0 d1' d2' d3' d4 d5
  refine heldTake 0 (v := ?_) (by simp only [List.getElem?_toArray, List.getElem?_cons_succ, List.getElem?_cons_zero]; rfl) (by kernel_rfl) (by intro _ _ _ h; exact h) (by rfl) (by assumption) ?_ ?_
  rotate_left
  · intro W hSw; (try dsimp only at hSw); go_simp; try with_reducible rfl
  simp only [Act.put, List.setIfInBounds_toArray, List.set_cons_zero, List.set_cons_succ]
  refine heldTake 1 (v := ?_) (by simp only [List.getElem?_toArray, List.getElem?_cons_succ, List.getElem?_cons_zero]; rfl) (by kernel_rfl) (by intro _ _ _ h; exact h) (by rfl) (by assumption) ?_ ?_
  rotate_left
  · intro W hSw; (try dsimp only at hSw); go_simp; try with_reducible rfl
  simp only [Act.put, List.setIfInBounds_toArray, List.set_cons_zero, List.set_cons_succ]
  refine heldTake 2 (v := ?_) (by simp only [List.getElem?_toArray, List.getElem?_cons_succ, List.getElem?_cons_zero]; rfl) (by kernel_rfl) (by intro _ _ _ h; exact h) (by rfl) (by assumption) ?_ ?_
  rotate_left
  · intro W hSw; (try dsimp only at hSw); go_simp; try with_reducible rfl
  simp only [Act.put, List.setIfInBounds_toArray, List.set_cons_zero, List.set_cons_succ]
  refine heldTake 3 (v := ?_) (by simp only [List.getElem?_toArray, List.getElem?_cons_succ, List.getElem?_cons_zero]; rfl) (by kernel_rfl) (by intro _ _ _ h; exact h) (by rfl) (by assumption) ?_ ?_
  rotate_left
  · intro W hSw; (try dsimp only at hSw); go_simp; try with_reducible rfl
  simp only [Act.put, List.setIfInBounds_toArray, List.set_cons_zero, List.set_cons_succ]
  refine heldTake 5 (v := ?_) (by simp only [List.getElem?_toArray, List.getElem?_cons_succ, List.getElem?_cons_zero]; rfl) (by kernel_rfl) (by intro _ _ _ h; exact h) (by rfl) (by assumption) ?_ ?_
  rotate_left
  · intro W hSw; (try dsimp only at hSw); go_simp; try with_reducible rfl
  simp only [Act.put, List.setIfInBounds_toArray, List.set_cons_zero, List.set_cons_succ]
  refine heldTake 6 (v := ?_) (by simp only [List.getElem?_toArray, List.getElem?_cons_succ, List.getElem?_cons_zero]; rfl) (by kernel_rfl) (by intro _ _ _ h; exact h) (by rfl) (by assumption) ?_ ?_
  rotate_left
  · intro W hSw; (try dsimp only at hSw); go_simp; try with_reducible rfl
  simp only [Act.put, List.setIfInBounds_toArray, List.set_cons_zero, List.set_cons_succ]
  refine heldTake 7 (v := ?_) (by simp only [List.getElem?_toArray, List.getElem?_cons_succ, List.getElem?_cons_zero]; rfl) (by kernel_rfl) (by intro _ _ _ h; exact h) (by rfl) (by assumption) ?_ ?_
  rotate_left
  · intro W hSw; (try dsimp only at hSw); go_simp; try with_reducible rfl
  simp only [Act.put, List.setIfInBounds_toArray, List.set_cons_zero, List.set_cons_succ]
  refine heldTake 8 (v := ?_) (by simp only [List.getElem?_toArray, List.getElem?_cons_succ, List.getElem?_cons_zero]; rfl) (by kernel_rfl) (by intro _ _ _ h; exact h) (by rfl) (by assumption) ?_ ?_
  rotate_left
  · intro W hSw; (try dsimp only at hSw); go_simp; try with_reducible rfl
  simp only [Act.put, List.setIfInBounds_toArray, List.set_cons_zero, List.set_cons_succ]
  refine heldCall 4 (by simp only [List.getElem?_toArray, List.getElem?_cons_succ, List.getElem?_cons_zero]; rfl) (by kernel_rfl) (fun K hK => ?_)
  go_simp
  refine (Q3.out _).mono ?_
  rintro e w3 ⟨rfl, hg⟩
  have hK0 := hKe.trans hg
  clear hKe hg
  have hKe := hK0
  clear hK0
  go_wp2_with fail
  refine hK.out _ _ ?_ (fun hHeld => ?_)
  · exact keep6K (by first | exact hKe | exact hKe.alloc _) hz0 hz1 d0 d1' d2' d3' d4 d5
  clear hK K
  (try simp only [Act.put, List.setIfInBounds_toArray, List.set_cons_zero, List.set_cons_succ])
  refine heldCall 9 (by simp only [List.getElem?_toArray, List.getElem?_cons_succ, List.getElem?_cons_zero]; rfl) (by kernel_rfl) (fun K hK => ?_)
  go_simp
  refine (Q5.out _).mono ?_
  rintro e w5 ⟨rfl, rfl⟩
  go_wp2_with fail
  refine hK.out _ _ ?_ (fun hHeld => ?_)
  · exact keep6K (by first | exact hKe | exact hKe.alloc _) hz0 hz1 d0 d1' d2' d3' d4 d5
  clear hK K
  (try simp only [Act.put, List.setIfInBounds_toArray, List.set_cons_zero, List.set_cons_succ])
  refine heldCall 10 (by simp only [List.getElem?_toArray, List.getElem?_cons_succ, List.getElem?_cons_zero]; rfl) (by kernel_rfl) (fun K hK => ?_)
  go_simp
  refine hK.out _ _ ?_ (fun hHeld => ?_)
  · exact keep6K (by first | exact hKe | exact hKe.alloc _) hz0 hz1 d0 d1' d2' d3' d4 d5
  clear hK K
  (try simp only [Act.put, List.setIfInBounds_toArray, List.set_cons_zero, List.set_cons_succ])
  refine heldCall 11 (by simp only [List.getElem?_toArray, List.getElem?_cons_succ, List.getElem?_cons_zero]; rfl) (by kernel_rfl) (fun K hK => ?_)
  go_simp
  refine (Q6.out _ _ (fun j hj => ?_)).mono ?_
  · match j, hj with
    | 0, _ => go_simp
    | 1, _ => go_simp
  rintro e w6 ⟨rfl, rfl⟩
  go_wp2_with fail
  refine hK.out _ _ ?_ (fun hHeld => ?_)
  · exact keep6K (by first | exact hKe | exact hKe.alloc _) hz0 hz1 d0 d1' d2' d3' d4 d5
  clear hK K
  (try simp only [Act.put, List.setIfInBounds_toArray, List.set_cons_zero, List.set_cons_succ])
  refine heldTake 12 (v := ?_) (by simp only [List.getElem?_toArray, List.getElem?_cons_succ, List.getElem?_cons_zero]; rfl) (by kernel_rfl) (by intro _ _ _ h; exact h) (by rfl) (by assumption) ?_ ?_
  rotate_left
  · intro W hSw; (try dsimp only at hSw); go_simp; try with_reducible rfl
  simp only [Act.put, List.setIfInBounds_toArray, List.set_cons_zero, List.set_cons_succ]
  refine heldDone (by kernel_rfl) ?_ _
  go_wp2
  go_ret
  exact ⟨rfl, HG.out.trans (by first | exact hKe | exact hKe.alloc _)⟩
end Go.Proofs.Ytbmkejiijkbmlaa
