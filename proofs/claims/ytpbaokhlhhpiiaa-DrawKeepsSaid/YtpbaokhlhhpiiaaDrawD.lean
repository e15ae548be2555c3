/- Contracts of both Below. -/
import Derived.Test.YtpbaokhlhhpiiaaDrawC
namespace Go.Proofs.Ytpbaokhlhhpiiaa
open Go.ChangeShapes Go.WideShapes Go.ChangeAt Go.RowKit
set_option linter.unusedVariables false
set_option linter.unusedSimpArgs false

def two64 : Int := 18446744073709551616
def belowV (h n : Int) : Int := if n < 1 then 0 else h * n / two64

theorem belowV_bd (h n : Int) (h0 : 0 ≤ h) (h1 : h ≤ 18446744073709551615) : 0 ≤ belowV h n ∧ (1 ≤ n → belowV h n < n) ∧ (n < 1 → belowV h n = 0) := by
  unfold belowV two64
  split
  · omega
  · have hm : 0 ≤ h * n := Int.mul_nonneg h0 (by omega)
    have hm2 : h * n ≤ 18446744073709551615 * n := Int.mul_le_mul_of_nonneg_right h1 (by omega)
    refine ⟨Int.ediv_nonneg hm (by omega), fun _ => ?_, fun h => by omega⟩
    omega

theorem mul_hi (x y : Nat) (hx : x < 18446744073709551616) (hy : y < 9223372036854775808) (hy1 : 1 ≤ y) : ((x * y / 18446744073709551616 : Nat) : Int) = belowV x y ∧ x * y / 18446744073709551616 ≤ 9223372036854775807 := by
  have := belowV_bd (x : Int) (y : Int) (by omega) (by omega)
  have e : ((x * y / 18446744073709551616 : Nat) : Int) = belowV x y := by
    unfold belowV two64
    rw [if_neg (by omega)]
    rw [Int.natCast_ediv, Int.natCast_mul]
    rfl
  refine ⟨e, ?_⟩
  have h2 := this.2.1 (by omega)
  rw [← e] at h2
  omega

set_option maxHeartbeats 1000000 in
theorem below_any (h n : Int) (w : World) (h0 : 0 ≤ h) (h1 : h ≤ 18446744073709551615) (hn : n ≤ 9223372036854775807) :
    Calls Try.prog 12 #[.int .u64 h, .int .i64 n] w fun e w' => e = .returned (.int .i64 (belowV h n)) ∧ w = w' := by
  by_cases hn1 : n < 1
  · have e : belowV h n = 0 := by unfold belowV; rw [if_pos hn1]
    rw [e]
    clear e
    go_enter Try.func12, Try.ntmps12
    go_wp2
    go_ret
    exact ⟨rfl, rfl⟩
  · obtain ⟨x, rfl⟩ := Int.eq_ofNat_of_zero_le h0
    obtain ⟨y, rfl⟩ := Int.eq_ofNat_of_zero_le (show 0 ≤ n by omega)
    have hcon := fun W => Any.bits_Mul64 Try.mul64 x y (by omega) (by omega) W
    change ∀ W, Calls Try.prog 24 _ _ _ at hcon
    obtain ⟨e, hq⟩ := mul_hi x y (by omega) (by omega) (by omega)
    rw [← e]
    generalize x * y / 18446744073709551616 = q at *
    generalize x * y % 18446744073709551616 = r at *
    have HC := Lib.hid hcon
    clear hcon e
    go_enter Try.func12, Try.ntmps12
    go_wp2_with fail
    refine (HC.out _).mono ?_
    rintro e w' ⟨rfl, rfl⟩
    go_wp2
    go_ret
    exact ⟨rfl, rfl⟩

theorem rbelow_math (H L a b : Int) (hH : 0 ≤ H) (hL : 0 ≤ L) (hL2 : L < 4294967296) (ha : 0 ≤ a) (hb : 0 ≤ b) (hb2 : b < 4294967296) :
    (H * 4294967296 + L) * (a * 4294967296 + b) / 18446744073709551616 = H * a + H * b / 4294967296 + L * a / 4294967296 + (L * b / 4294967296 + H * b % 4294967296 + L * a % 4294967296) / 4294967296 := by
  have e : (H * 4294967296 + L) * (a * 4294967296 + b) = H * a * 18446744073709551616 + (H * b) * 4294967296 + (L * a) * 4294967296 + L * b := by
    rw [Int.add_mul, Int.mul_add, Int.mul_add]
    have e1 : H * 4294967296 * (a * 4294967296) = H * a * 18446744073709551616 := by
      rw [Int.mul_assoc, Int.mul_left_comm 4294967296, ← Int.mul_assoc, ← Int.mul_assoc, Int.mul_assoc (H * a)]; rfl
    have e2 : H * 4294967296 * b = H * b * 4294967296 := by rw [Int.mul_assoc, Int.mul_comm 4294967296, ← Int.mul_assoc]
    have e3 : L * (a * 4294967296) = L * a * 4294967296 := by rw [← Int.mul_assoc]
    rw [e1, e2, e3]
    omega
  rw [e]
  have q1 : 0 ≤ H * b := Int.mul_nonneg hH hb
  have q2 : 0 ≤ L * a := Int.mul_nonneg hL ha
  have q3 : 0 ≤ L * b := Int.mul_nonneg hL hb
  generalize H * a = p at *
  generalize H * b = q at *
  generalize L * a = r at *
  generalize L * b = s at *
  omega

set_option maxRecDepth 20000 in
set_option maxHeartbeats 1000000 in
theorem rbelow_any (h n : Int) (w : World) (h0 : 0 ≤ h) (h1 : h ≤ 18446744073709551615) (hn : n ≤ 9223372036854775807) :
    Calls Try.prog 14 #[.int .u64 h, .int .i64 n] w fun e w' => e = .returned (.int .i64 (belowV h n)) ∧ w = w' := by
  by_cases hn1 : n < 1
  · have e : belowV h n = 0 := by unfold belowV; rw [if_pos hn1]
    rw [e]
    clear e
    go_enter Try.func14, Try.ntmps14
    go_wp2
    go_ret
    exact ⟨rfl, rfl⟩
  · have hm := rbelow_math (h / 4294967296) (h % 4294967296) (n / 4294967296) (n % 4294967296) (by omega) (by omega) (by omega) (by omega) (by omega) (by omega)
    rw [show h / 4294967296 * 4294967296 + h % 4294967296 = h by omega, show n / 4294967296 * 4294967296 + n % 4294967296 = n by omega] at hm
    have hbd := (belowV_bd h n h0 h1).2.1 (by omega)
    have hbd0 := (belowV_bd h n h0 h1).1
    have hv : belowV h n = h * n / 18446744073709551616 := by unfold belowV two64; rw [if_neg hn1]
    rw [hm] at hv
    rw [hv] at hbd hbd0 ⊢
    clear hm hv
    have hH : 0 ≤ h / 4294967296 ∧ h / 4294967296 ≤ 4294967295 := by omega
    have hL : 0 ≤ h % 4294967296 ∧ h % 4294967296 ≤ 4294967295 := by omega
    have ha : 0 ≤ n / 4294967296 ∧ n / 4294967296 ≤ 2147483647 := by omega
    have hb : 0 ≤ n % 4294967296 ∧ n % 4294967296 ≤ 4294967295 := by omega
    generalize hHe : h / 4294967296 = H at *
    generalize hLe : h % 4294967296 = L at *
    generalize hae : n / 4294967296 = a at *
    generalize hbe : n % 4294967296 = b at *
    obtain ⟨hH1, hH2⟩ := hH
    obtain ⟨hL1, hL2⟩ := hL
    obtain ⟨ha1, ha2⟩ := ha
    obtain ⟨hb1, hb2⟩ := hb
    have m1 : 0 ≤ L * b ∧ L * b ≤ 18446744065119617025 := ⟨Int.mul_nonneg hL1 hb1, by have := Int.mul_le_mul hL2 hb2 hb1 (show (0 : Int) ≤ 4294967295 by omega); omega⟩
    have m2 : 0 ≤ H * b ∧ H * b ≤ 18446744065119617025 := ⟨Int.mul_nonneg hH1 hb1, by have := Int.mul_le_mul hH2 hb2 hb1 (show (0 : Int) ≤ 4294967295 by omega); omega⟩
    have m3 : 0 ≤ L * a ∧ L * a ≤ 18446744065119617025 := ⟨Int.mul_nonneg hL1 ha1, by have := Int.mul_le_mul hL2 ha2 ha1 (show (0 : Int) ≤ 4294967295 by omega); omega⟩
    have m4 : 0 ≤ H * a ∧ H * a ≤ 9223372030412324865 := ⟨Int.mul_nonneg hH1 ha1, by have := Int.mul_le_mul hH2 ha2 ha1 (show (0 : Int) ≤ 4294967295 by omega); omega⟩
    obtain ⟨m1a, m1b⟩ := m1
    obtain ⟨m2a, m2b⟩ := m2
    obtain ⟨m3a, m3b⟩ := m3
    obtain ⟨m4a, m4b⟩ := m4
    go_enter Try.func14, Try.ntmps14
    go_wp2
    go_ret
    exact ⟨rfl, rfl⟩
end Go.Proofs.Ytpbaokhlhhpiiaa
