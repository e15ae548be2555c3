/- The walk of DrawBelow. -/
import Derived.Test.YtpbaokhlhhpiiaaDrawH
namespace Go.Proofs.Ytpbaokhlhhpiiaa
open Go.ChangeShapes Go.WideShapes Go.ChangeAt Go.RowKit
set_option linter.unusedVariables false
set_option linter.unusedSimpArgs false

theorem belowV_mono {h g n : Int} (hg : h ≤ g) : belowV h n ≤ belowV g n := by
  unfold belowV two64
  split
  · exact Int.le_refl _
  · exact Int.ediv_le_ediv (by omega) (Int.mul_le_mul_of_nonneg_right hg (by omega))
theorem belowV_two {h n : Int} (hn : 1 ≤ n) : belowV h (2 * n) = 2 * belowV h n ∨ belowV h (2 * n) = 2 * belowV h n + 1 := by
  unfold belowV two64
  rw [if_neg (by omega), if_neg (by omega), Int.mul_left_comm]
  generalize h * n = x
  omega

set_option maxHeartbeats 1000000 in
theorem drawBelow_walk (h g n : Int) (w : World) (h0 : 0 ≤ h) (h1 : h ≤ 18446744073709551615) (g0 : 0 ≤ g) (g1 : g ≤ 18446744073709551615) (hn : n ≤ 9223372036854775807) :
    Calls Try.prog 4 #[.int .u64 h, .int .u64 g, .int .i64 n] w fun e w' => e = .returned (.bool true) ∧ Below w.heap.size w w' := by
  have b1 := belowV_bd h n h0 h1
  have b2 := belowV_bd g n g0 g1
  have m1 : h ≤ g → belowV h n ≤ belowV g n := belowV_mono
  have m2 : g ≤ h → belowV g n ≤ belowV h n := belowV_mono
  have q1 := fun W => below_any h n W h0 h1 hn
  have q2 := fun W => below_any g n W g0 g1 hn
  have q3 := fun W => rbelow_any h n W h0 h1 hn
  have hc : 1 ≤ n → n ≤ 1152921504606846976 → ∃ v, (v = 2 * belowV h n ∨ v = 2 * belowV h n + 1) ∧ ∀ W, Calls Try.prog 12 #[.int .u64 h, .int .i64 (2 * n)] W fun e w' => e = .returned (.int .i64 v) ∧ W = w' :=
    fun a1 a2 => ⟨_, belowV_two a1, fun W => below_any h (2 * n) W h0 h1 (by omega)⟩
  generalize belowV h n = a at *
  generalize belowV g n = b at *
  have Q1 := Lib.hid q1
  have Q2 := Lib.hid q2
  have Q3 := Lib.hid q3
  have HC := Lib.hid hc
  have M1 := Lib.hid m1
  have M2 := Lib.hid m2
  have B1 := Lib.hid b1
  clear q1 q2 q3 hc m1 m2 b1 b2
  have hcase : (h < g ∧ a ≤ b) ∨ (g < h ∧ b ≤ a) ∨ (h = g ∧ a = b) := by
    have := M1.out
    have := M2.out
    omega
  have hcn : n < 1 ∨ 1152921504606846976 < n ∨ (1 ≤ n ∧ n ≤ 1152921504606846976) := by omega
  rcases hcase with ⟨k1, k2⟩ | ⟨k1, k2⟩ | ⟨rfl, rfl⟩
  all_goals
    rcases hcn with k3 | k3 | ⟨k3, k4⟩
    · go_enter Try.func4, Try.ntmps4
      go_wp2_with fail
      refine (lives_any _).mono ?_
      rintro e w1 ⟨rfl, hb1⟩
      go_wp2_with fail
      refine (Q1.out _).mono ?_
      rintro e w2 ⟨rfl, rfl⟩
      go_wp2_with fail
      refine (Q2.out _).mono ?_
      rintro e w2 ⟨rfl, rfl⟩
      go_wp2_with fail
      refine (Q3.out _).mono ?_
      rintro e w2 ⟨rfl, rfl⟩
      go_wp2
      go_ret
      exact ⟨rfl, hb1⟩
    · go_enter Try.func4, Try.ntmps4
      go_wp2_with fail
      refine (lives_any _).mono ?_
      rintro e w1 ⟨rfl, hb1⟩
      go_wp2_with fail
      refine (Q1.out _).mono ?_
      rintro e w2 ⟨rfl, rfl⟩
      go_wp2_with fail
      refine (Q2.out _).mono ?_
      rintro e w2 ⟨rfl, rfl⟩
      go_wp2_with fail
      refine (Q3.out _).mono ?_
      rintro e w2 ⟨rfl, rfl⟩
      go_wp2
      go_ret
      exact ⟨rfl, hb1⟩
    · obtain ⟨v, hv, qc⟩ := HC.out k3 k4
      have QC := Lib.hid qc
      have hbd := B1.out.2.1 k3
      have hbd0 := B1.out.1
      clear qc
      have hv2 : v = 2 * a ∨ (v ≠ 2 * a ∧ v = 2 * a + 1) := by omega
      clear hv
      rcases hv2 with rfl | ⟨hv1, rfl⟩
      · go_enter Try.func4, Try.ntmps4
        go_wp2_with fail
        refine (lives_any _).mono ?_
        rintro e w1 ⟨rfl, hb1⟩
        go_wp2_with fail
        refine (Q1.out _).mono ?_
        rintro e w2 ⟨rfl, rfl⟩
        go_wp2_with fail
        refine (Q2.out _).mono ?_
        rintro e w2 ⟨rfl, rfl⟩
        go_wp2_with fail
        refine (Q3.out _).mono ?_
        rintro e w2 ⟨rfl, rfl⟩
        go_wp2_with fail
        refine (QC.out _).mono ?_
        rintro e w2 ⟨rfl, rfl⟩
        go_wp2
        go_ret
        exact ⟨rfl, hb1⟩
      · have hvb : ((2 * a + 1 : Int) == 2 * a) = false := by rw [beq_eq_false_iff_ne]; exact hv1
        clear hv1
        go_enter Try.func4, Try.ntmps4
        go_wp2_with fail
        refine (lives_any _).mono ?_
        rintro e w1 ⟨rfl, hb1⟩
        go_wp2_with fail
        refine (Q1.out _).mono ?_
        rintro e w2 ⟨rfl, rfl⟩
        go_wp2_with fail
        refine (Q2.out _).mono ?_
        rintro e w2 ⟨rfl, rfl⟩
        go_wp2_with fail
        refine (Q3.out _).mono ?_
        rintro e w2 ⟨rfl, rfl⟩
        go_wp2_with fail
        refine (QC.out _).mono ?_
        rintro e w2 ⟨rfl, rfl⟩
        go_wp2
        go_ret
        exact ⟨rfl, hb1⟩
end Go.Proofs.Ytpbaokhlhhpiiaa
