/- Contracts of ratio.May and ratio.Compare, at fractions that may be. -/
import Derived.Test.YtaollcpoibgblaaDoorRatA
import Derived.Test.YtaollcpoibgblaaDoorKitQ
namespace Go.Proofs.YtaollcpoibgblaaDoor
open Go.ChangeShapes Go.WideShapes Go.ChangeAt Go.RowKit
set_option linter.unusedVariables false
set_option linter.unusedSimpArgs false

set_option maxHeartbeats 400000 in
theorem rmayR_any (n d : Int) (w : World) : Calls Tryd.prog 13 #[.agg #[.int .i64 n, .int .i64 d]] w fun e w' => e = .returned (.bool (decide (0 ≤ n) && decide (1 ≤ d))) ∧ Grew w w' := by
  by_cases h1 : 0 ≤ n
  · go_enter Tryd.func13, Tryd.ntmps13
    go_wp2
    go_ret
    refine ⟨?_, ?_⟩
    · simp [h1]
    · exact (Grew.refl _).alloc _
  · go_enter Tryd.func13, Tryd.ntmps13
    go_wp2
    go_ret
    refine ⟨?_, ?_⟩
    · have h2 : decide (0 ≤ n) = false := by simp; omega
      rw [h2]
      rfl
    · exact (Grew.refl _).alloc _

theorem prodV_eq {a b : Int} (ha : 0 ≤ a) (hb : 1 ≤ b) : prodV a b = a * b := by
  unfold prodV
  by_cases h : a ≤ 0
  · have : a = 0 := by omega
    subst this
    simp
  · rw [if_neg (by omega)]
theorem split_cmp (x y : Int) : cmpInt x y = if x / 18446744073709551616 < y / 18446744073709551616 ∨ (x / 18446744073709551616 = y / 18446744073709551616 ∧ x % 18446744073709551616 < y % 18446744073709551616) then -1 else if x / 18446744073709551616 = y / 18446744073709551616 ∧ x % 18446744073709551616 = y % 18446744073709551616 then 0 else 1 := by
  unfold cmpInt
  by_cases h1 : x < y
  · rw [if_pos h1, if_pos (by omega)]
  · rw [if_neg h1]
    by_cases h2 : y < x
    · rw [if_pos h2, if_neg (by omega), if_neg (by omega)]
    · rw [if_neg h2, if_neg (by omega), if_pos (by omega)]

theorem grew_cell2 {w w1 : World} {x y : Array Value} {t : TypeId} (h : Grew ((w.alloc (.cells x t)).alloc (.cells y t)) w1) (j : Nat) :
    w1.cell? ⟨w.heap.size, j, none⟩ = x[j]? ∧ w1.cell? ⟨w.heap.size + 1, j, none⟩ = y[j]? := by
  have hb := h.below
  refine ⟨(hb.cell (p := ⟨w.heap.size, j, none⟩) (by simp; omega)).trans (by simp), (hb.cell (p := ⟨w.heap.size + 1, j, none⟩) (by simp)).trans (by simp)⟩

set_option maxRecDepth 20000 in
set_option maxHeartbeats 1000000 in
theorem compare_any (n d m f : Int) (n0 : 0 ≤ n) (n1 : n ≤ 9223372036854775807) (d0 : 1 ≤ d) (d1 : d ≤ 9223372036854775807) (m0 : 0 ≤ m) (m1 : m ≤ 9223372036854775807) (f0 : 1 ≤ f) (f1 : f ≤ 9223372036854775807) (w : World) :
    Calls Tryd.prog 14 #[.agg #[.int .i64 n, .int .i64 d], .agg #[.int .i64 m, .int .i64 f]] w fun e w' => e = .returned (.int .i64 (cmpInt (n * f) (m * d))) ∧ Grew w w' := by
  have q1 := fun W => rmayR_any n d W
  have q2 := fun W => rmayR_any m f W
  have q3 := fun W => product_any n f n1 f1 W
  have q4 := fun W => product_any m d m1 d1 W
  rw [prodV_eq n0 f0] at q3
  rw [prodV_eq m0 d0] at q4
  have es := split_cmp (n * f) (m * d)
  rw [decide_eq_true n0, decide_eq_true d0] at q1
  rw [decide_eq_true m0, decide_eq_true f0] at q2
  have b1 : 0 ≤ n * f % 18446744073709551616 := by omega
  have b3 : 0 ≤ m * d % 18446744073709551616 := by omega
  generalize cmpInt (n * f) (m * d) = r at *
  generalize n * f / 18446744073709551616 = xh at *
  generalize n * f % 18446744073709551616 = xl at *
  generalize m * d / 18446744073709551616 = yh at *
  generalize m * d % 18446744073709551616 = yl at *
  have Q1 := Lib.hid q1
  have Q2 := Lib.hid q2
  have Q3 := Lib.hid q3
  have Q4 := Lib.hid q4
  have ES := Lib.hid es
  clear q1 q2 q3 q4 es
  go_enter Tryd.func14, Tryd.ntmps14
  go_wp2_with fail
  refine (Q1.out _).mono ?_
  rintro e w1 ⟨rfl, hg1⟩
  have k0 := (grew_cell2 hg1 0).1
  have k1 := (grew_cell2 hg1 1).1
  have k2 := (grew_cell2 hg1 0).2
  have k3 := (grew_cell2 hg1 1).2
  simp at k0 k1 k2 k3
  go_wp2_with fail
  refine (Q2.out _).mono ?_
  rintro e w2 ⟨rfl, hg2⟩
  have hg := hg1.trans hg2
  clear k0 k1 k2 k3 hg1 hg2
  have k0 := (grew_cell2 hg 0).1
  have k1 := (grew_cell2 hg 1).1
  have k2 := (grew_cell2 hg 0).2
  have k3 := (grew_cell2 hg 1).2
  simp at k0 k1 k2 k3
  have HG : Hid (Grew w w2) := Lib.hid ((((Grew.refl w).alloc _).alloc _).trans hg)
  clear hg
  go_wp2_with fail
  refine (Q3.out _).mono ?_
  rintro e w3 ⟨rfl, rfl⟩
  go_wp2_with fail
  refine (Q4.out _).mono ?_
  rintro e w3 ⟨rfl, rfl⟩
  by_cases g1 : xh < yh
  · have e := ES.out
    rw [if_pos (.inl g1)] at e
    have E := Lib.hid e
    clear e ES
    go_wp2
    go_ret
    exact ⟨ret_int E.out.symm, HG.out⟩
  · by_cases g2 : xh = yh
    · have g2' : (xh == yh) = true := by simp [g2]
      by_cases g3 : xl < yl
      · have e := ES.out
        rw [if_pos (.inr ⟨g2, g3⟩)] at e
        have E := Lib.hid e
        clear e ES g2
        go_wp2
        go_ret
        exact ⟨ret_int E.out.symm, HG.out⟩
      · have e := ES.out
        rw [if_neg (by omega)] at e
        by_cases g4 : xl = yl
        · have g4' : (xl == yl) = true := by simp [g4]
          rw [if_pos ⟨g2, g4⟩] at e
          have E := Lib.hid e
          clear e ES g2 g4
          go_wp2
          go_ret
          exact ⟨ret_int E.out.symm, HG.out⟩
        · have g4' : (xl == yl) = false := by simp [g4]
          rw [if_neg (fun h => g4 h.2)] at e
          have E := Lib.hid e
          clear e ES g2 g4
          go_wp2
          go_ret
          exact ⟨ret_int E.out.symm, HG.out⟩
    · have g2' : (xh == yh) = false := by simp [g2]
      have e := ES.out
      rw [if_neg (by omega), if_neg (fun h => g2 h.1)] at e
      have E := Lib.hid e
      clear e ES g2
      go_wp2
      go_ret
      exact ⟨ret_int E.out.symm, HG.out⟩
end Go.Proofs.YtaollcpoibgblaaDoor
