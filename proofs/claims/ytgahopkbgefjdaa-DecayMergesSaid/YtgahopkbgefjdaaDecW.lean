/- The weight in plain words; the reference's weight; the walk of DecayWeight. -/
import Derived.Test.YtgahopkbgefjdaaDecE
namespace Go.Proofs.Ytgahopkbgefjdaa
open Go.ChangeShapes Go.WideShapes Go.ChangeAt Go.RowKit
set_option linter.unusedVariables false
set_option linter.unusedSimpArgs false

def halv (v a h : Int) : Int := v / 2 ^ (a / h).toNat

theorem halv_small {v a h : Int} (h0 : 0 ≤ a) (h1 : a < h) : halv v a h = v := by
  unfold halv
  rw [Int.ediv_eq_zero_of_lt h0 h1]
  simp
theorem halv_zero (a h : Int) : halv 0 a h = 0 := by unfold halv; simp
theorem halv_add (v a h : Int) (h0 : 0 ≤ a) (h1 : 1 ≤ h) : halv v (a + h) h = halv (v / 2) a h := by
  unfold halv
  have e : (a + h) / h = a / h + 1 := by rw [Int.add_ediv_of_dvd_right (Int.dvd_refl h), Int.ediv_self (by omega)]
  have hq : 0 ≤ a / h := Int.ediv_nonneg h0 (by omega)
  rw [e, show (a / h + 1).toNat = (a / h).toNat + 1 by omega, Int.pow_succ', Int.ediv_ediv_of_nonneg (by omega)]
theorem halv_add' (v a h : Int) (h0 : 0 ≤ a) (h1 : 1 ≤ h) : halv v (a + h) h = halv v a h / 2 := by
  unfold halv
  have e : (a + h) / h = a / h + 1 := by rw [Int.add_ediv_of_dvd_right (Int.dvd_refl h), Int.ediv_self (by omega)]
  have hq : 0 ≤ a / h := Int.ediv_nonneg h0 (by omega)
  rw [e, show (a / h + 1).toNat = (a / h).toNat + 1 by omega, Int.pow_succ, Int.ediv_ediv_of_nonneg (by exact Int.le_of_lt (Int.pow_pos (by omega)))]
theorem halv_step {v a h : Int} (h1 : 1 ≤ h) (ha : h ≤ a) : halv v a h = halv (v / 2) (a - h) h := by
  have := halv_add v (a - h) h (by omega) h1
  rw [show a - h + h = a by omega] at this
  exact this
theorem halv_mono {v a b h : Int} (hv : 0 ≤ v) (h1 : 1 ≤ h) (h0 : 0 ≤ a) (hab : a ≤ b) : halv v b h ≤ halv v a h := by
  unfold halv
  have hq : 0 ≤ a / h := Int.ediv_nonneg h0 (by omega)
  have hqq : a / h ≤ b / h := Int.ediv_le_ediv (by omega) hab
  have e : (2 : Int) ^ (b / h).toNat = 2 ^ (a / h).toNat * 2 ^ ((b / h).toNat - (a / h).toNat) := by rw [← Int.pow_add]; congr 1; omega
  rw [e, ← Int.ediv_ediv_of_nonneg (by exact Int.le_of_lt (Int.pow_pos (by omega)))]
  exact Int.ediv_le_self _ (Int.ediv_nonneg hv (by exact Int.le_of_lt (Int.pow_pos (by omega))))

theorem wtV_halv (age half : Int) (h : 0 ≤ age) : wtV age half = halv 1048576 age (max half 1) := by
  unfold wtV halv
  rw [if_neg (by omega)]
  split
  · rename_i h2
    generalize age / max half 1 = q at *
    refine (Int.ediv_eq_zero_of_lt (by omega) ?_).symm
    have e : (2 : Int) ^ q.toNat = 2 ^ 21 * 2 ^ (q.toNat - 21) := by rw [← Int.pow_add]; congr 1; omega
    rw [e]
    have : (1 : Int) ≤ 2 ^ (q.toNat - 21) := Int.pow_pos (by omega)
    omega
  · rfl

set_option maxRecDepth 20000 in
set_option maxHeartbeats 1000000 in
theorem rweight_pos (age half : Int) (w : World) (h1 : 1 ≤ half) (h2 : half ≤ 9223372036854775807) (h0 : 0 ≤ age) (hage : age ≤ 9223372036854775807) :
    Calls Try.prog 11 #[.int .i64 age, .int .i64 half] w fun e w' => e = .returned (.int .i64 (halv 1048576 age half)) ∧ w = w' := by
  have hTT : ∃ T, halv 1048576 age half = T := ⟨_, rfl⟩
  obtain ⟨T, hT⟩ := hTT
  rw [hT]
  have HT := Lib.hid hT
  clear hT
  go_enter Try.func11, Try.ntmps11
  go_wp2
  go_loopg [0, 5] 1048576 (fun rest a v wr => ∃ (x y : Int), a = .int .i64 x ∧ v = .int .i64 y ∧ 0 ≤ x ∧ x ≤ 9223372036854775807 ∧ 0 ≤ y ∧ y ≤ 1048576 ∧ Hid (halv y x half = T) ∧ Hid ((rest : Int) = y) ∧ w = wr)
  case atStart => exact ⟨age, 1048576, rfl, rfl, h0, hage, by omega, by omega, HT, Lib.hid rfl, rfl⟩
  case round =>
    obtain ⟨x, y, rfl, rfl, x0, x1, y0, y1, HV, HR, rfl⟩ := hrel
    by_cases hx : half ≤ x
    · by_cases hy : 0 < y
      · have HV2 : Hid (halv (y / 2) (x - half) half = T) := Lib.hid (by rw [← halv_step h1 hx]; exact HV.out)
        go_wp2
        go_roundg (y / 2).toNat
        case measure => have := HR.out; omega
        case rel => exact ⟨x - half, y / 2, rfl, rfl, by omega, by omega, by omega, by omega, HV2, Lib.hid (by omega), rfl⟩
      · obtain rfl : y = 0 := by omega
        have HV2 : Hid (0 = T) := Lib.hid (by rw [← HV.out, halv_zero])
        clear HV
        go_wp2
        go_ret
        exact ⟨ret_int HV2.out, rfl⟩
    · have HV2 : Hid (y = T) := Lib.hid (by rw [← HV.out, halv_small x0 (by omega)])
      clear HV
      have hxd : decide (half ≤ x) = false := by simpa using hx
      go_wp2
      go_ret
      exact ⟨ret_int HV2.out, rfl⟩

set_option maxRecDepth 20000 in
set_option maxHeartbeats 1000000 in
theorem rweight_neg (age half : Int) (w : World) (h1 : half < 1) (h0 : 0 ≤ age) (hage : age ≤ 9223372036854775807) :
    Calls Try.prog 11 #[.int .i64 age, .int .i64 half] w fun e w' => e = .returned (.int .i64 (halv 1048576 age 1)) ∧ w = w' := by
  have hTT : ∃ T, halv 1048576 age 1 = T := ⟨_, rfl⟩
  obtain ⟨T, hT⟩ := hTT
  rw [hT]
  have HT := Lib.hid hT
  clear hT
  go_enter Try.func11, Try.ntmps11
  go_wp2
  go_loopg [0, 5] 1048576 (fun rest a v wr => ∃ (x y : Int), a = .int .i64 x ∧ v = .int .i64 y ∧ 0 ≤ x ∧ x ≤ 9223372036854775807 ∧ 0 ≤ y ∧ y ≤ 1048576 ∧ Hid (halv y x 1 = T) ∧ Hid ((rest : Int) = y) ∧ w = wr)
  case atStart => exact ⟨age, 1048576, rfl, rfl, h0, hage, by omega, by omega, HT, Lib.hid rfl, rfl⟩
  case round =>
    obtain ⟨x, y, rfl, rfl, x0, x1, y0, y1, HV, HR, rfl⟩ := hrel
    by_cases hx : 1 ≤ x
    · by_cases hy : 0 < y
      · have HV2 : Hid (halv (y / 2) (x - 1) 1 = T) := Lib.hid (by rw [← halv_step (Int.le_refl _) hx]; exact HV.out)
        go_wp2
        go_roundg (y / 2).toNat
        case measure => have := HR.out; omega
        case rel => exact ⟨x - 1, y / 2, rfl, rfl, by omega, by omega, by omega, by omega, HV2, Lib.hid (by omega), rfl⟩
      · obtain rfl : y = 0 := by omega
        have HV2 : Hid (0 = T) := Lib.hid (by rw [← HV.out, halv_zero])
        clear HV
        go_wp2
        go_ret
        exact ⟨ret_int HV2.out, rfl⟩
    · have HV2 : Hid (y = T) := Lib.hid (by rw [← HV.out, halv_small x0 (by omega)])
      clear HV
      have hxd : decide (1 ≤ x) = false := by simpa using hx
      go_wp2
      go_ret
      exact ⟨ret_int HV2.out, rfl⟩

set_option maxHeartbeats 400000 in
theorem rweight_any (age half : Int) (w : World) (h2 : half ≤ 9223372036854775807) (hage : age ≤ 9223372036854775807) :
    Calls Try.prog 11 #[.int .i64 age, .int .i64 half] w fun e w' => e = .returned (.int .i64 (wtV age half)) ∧ w = w' := by
  by_cases h0 : age < 0
  · have e : wtV age half = 0 := by unfold wtV; rw [if_pos h0]
    rw [e]
    clear e
    by_cases h1 : half < 1
    all_goals
      go_enter Try.func11, Try.ntmps11
      go_wp2
      go_ret
      exact ⟨rfl, rfl⟩
  · rw [wtV_halv _ _ (by omega)]
    by_cases h1 : half < 1
    · have e : max half 1 = 1 := by omega
      rw [e]
      exact rweight_neg age half w h1 (by omega) hage
    · have e : max half 1 = half := by omega
      rw [e]
      exact rweight_pos age half w (by omega) h2 (by omega) hage
set_option maxHeartbeats 1000000 in
theorem decayWeight_walk (age half : Int) (w : World) (ha0 : -9223372036854775808 ≤ age) (ha1 : age ≤ 9223372036854775807) (hh0 : -9223372036854775808 ≤ half) (hh1 : half ≤ 9223372036854775807) :
    Calls Try.prog 3 #[.int .i64 age, .int .i64 half] w fun e w' => e = .returned (.bool true) ∧ Below w.heap.size w w' := by
  have hbd := wtV_bd age half
  by_cases h0 : age < 0
  · have e : wtV age half = 0 := by unfold wtV; rw [if_pos h0]
    have E := Lib.hid e
    clear e hbd
    go_enter Try.func3, Try.ntmps3
    go_wp2_with fail
    refine (lives_any _).mono ?_
    rintro e w1 ⟨rfl, hb⟩
    go_wp2_with fail
    refine (dweight_any age half _ ha1).mono ?_
    rintro e w2 ⟨rfl, rfl⟩
    rw [E.out]
    go_wp2_with fail
    refine (rweight_any age half _ hh1 ha1).mono ?_
    rintro e w2 ⟨rfl, rfl⟩
    rw [E.out]
    go_wp2
    go_ret
    exact ⟨rfl, hb⟩
  · by_cases h1 : age ≤ 1152921504606846976 ∧ half ≤ 1152921504606846976
    · obtain ⟨h1, h2⟩ := h1
      have e1 : wtV (age + max half 1) (max half 1) = wtV age half / 2 := by
        rw [wtV_halv _ _ (by omega), wtV_halv _ _ (by omega), show max (max half 1) 1 = max half 1 by omega, halv_add' _ _ _ (by omega) (by omega)]
      have e2 : wtV (age + 1) (max half 1) ≤ wtV age half := by
        rw [wtV_halv _ _ (by omega), wtV_halv _ _ (by omega), show max (max half 1) 1 = max half 1 by omega]
        exact halv_mono (by omega) (by omega) (by omega) (by omega)
      have q1 := dweight_any age half
      have q2 := rweight_any age half
      have q3 := dweight_any (age + max half 1) (max half 1)
      have q4 := dweight_any (age + 1) (max half 1)
      rw [e1] at q3
      generalize wtV age half = v at *
      generalize wtV (age + 1) (max half 1) = v1 at *
      have Q1 := Lib.hid q1
      have Q2 := Lib.hid q2
      have Q3 := Lib.hid q3
      have Q4 := Lib.hid q4
      clear q1 q2 q3 q4 e1
      by_cases hh : half < 1
      · have em : max half 1 = 1 := by omega
        rw [em] at Q3 Q4
        clear em
        go_enter Try.func3, Try.ntmps3
        go_wp2_with fail
        refine (lives_any _).mono ?_
        rintro e w1 ⟨rfl, hb⟩
        go_wp2_with fail
        refine (Q1.out _ ha1).mono ?_
        rintro e w2 ⟨rfl, rfl⟩
        go_wp2_with fail
        refine (Q2.out _ hh1 ha1).mono ?_
        rintro e w2 ⟨rfl, rfl⟩
        go_wp2_with fail
        refine (Q3.out _ (by omega)).mono ?_
        rintro e w2 ⟨rfl, rfl⟩
        go_wp2_with fail
        refine (Q4.out _ (by omega)).mono ?_
        rintro e w2 ⟨rfl, rfl⟩
        go_wp2
        go_ret
        exact ⟨rfl, hb⟩
      · have em : max half 1 = half := by omega
        rw [em] at Q3 Q4
        clear em
        go_enter Try.func3, Try.ntmps3
        go_wp2_with fail
        refine (lives_any _).mono ?_
        rintro e w1 ⟨rfl, hb⟩
        go_wp2_with fail
        refine (Q1.out _ ha1).mono ?_
        rintro e w2 ⟨rfl, rfl⟩
        go_wp2_with fail
        refine (Q2.out _ hh1 ha1).mono ?_
        rintro e w2 ⟨rfl, rfl⟩
        go_wp2_with fail
        refine (Q3.out _ (by omega)).mono ?_
        rintro e w2 ⟨rfl, rfl⟩
        go_wp2_with fail
        refine (Q4.out _ (by omega)).mono ?_
        rintro e w2 ⟨rfl, rfl⟩
        go_wp2
        go_ret
        exact ⟨rfl, hb⟩
    · have q1 := dweight_any age half
      have q2 := rweight_any age half
      generalize wtV age half = v at *
      have Q1 := Lib.hid q1
      have Q2 := Lib.hid q2
      clear q1 q2
      by_cases h2 : age ≤ 1152921504606846976
      all_goals
        go_enter Try.func3, Try.ntmps3
        go_wp2_with fail
        refine (lives_any _).mono ?_
        rintro e w1 ⟨rfl, hb⟩
        go_wp2_with fail
        refine (Q1.out _ ha1).mono ?_
        rintro e w2 ⟨rfl, rfl⟩
        go_wp2_with fail
        refine (Q2.out _ hh1 ha1).mono ?_
        rintro e w2 ⟨rfl, rfl⟩
        go_wp2
        go_ret
        exact ⟨rfl, hb⟩
end Go.Proofs.Ytgahopkbgefjdaa
