/- Contract of ratio.Product: the product of two numbers, in two words. -/
import Derived.Test.YtaollcpoibgblaaDoorKitC
import Derived.Test.YtaollcpoibgblaaDoorKitV
import Derived.Test.YtaollcpoibgblaaDoorProg
namespace Go.Proofs.YtaollcpoibgblaaDoor
open Go.ChangeShapes Go.WideShapes Go.ChangeAt Go.RowKit
set_option linter.unusedVariables false
set_option linter.unusedSimpArgs false

theorem prod_parts (a b : Int) : a * b = (a / 4294967296 * (b / 4294967296)) * 18446744073709551616 + (a / 4294967296 * (b % 4294967296) + a % 4294967296 * (b / 4294967296)) * 4294967296 + a % 4294967296 * (b % 4294967296) := by
  have ea := Int.mul_ediv_add_emod a 4294967296
  have eb := Int.mul_ediv_add_emod b 4294967296
  generalize a / 4294967296 = p at *
  generalize a % 4294967296 = q at *
  generalize b / 4294967296 = r at *
  generalize b % 4294967296 = s at *
  rw [← ea, ← eb]
  grind

theorem mul_bd {x y A B : Int} (hx : 0 ≤ x) (hx2 : x ≤ A) (hy : 0 ≤ y) (hy2 : y ≤ B) : 0 ≤ x * y ∧ x * y ≤ A * B :=
  ⟨Int.mul_nonneg hx hy, Int.le_trans (Int.mul_le_mul_of_nonneg_left hy2 hx) (Int.mul_le_mul_of_nonneg_right hx2 (Int.le_trans hy hy2))⟩
theorem mask32 (a : Int) (h : 0 ≤ a) (h2 : a ≤ 9223372036854775807) : bits .and .u64 a 4294967295 = a % 4294967296 :=
  bits_mask .u64 64 (by decide) (fun n h0 h1 => IntWalk.u64_in n ⟨h0, by omega⟩) 32 (by decide) a h (by omega)

theorem index2_0 (m1 m2 : Int) (w : World) : (Instr.index 86 (.agg #[.int .u64 m1, .int .u64 m2]) (.int .i64 0)).run Tryd.prog w = .ok (.int .u64 m1) w := by kernel_rfl
theorem index2_1 (m1 m2 : Int) (w : World) : (Instr.index 86 (.agg #[.int .u64 m1, .int .u64 m2]) (.int .i64 1)).run Tryd.prog w = .ok (.int .u64 m2) w := by kernel_rfl

set_option maxRecDepth 20000 in
set_option maxHeartbeats 1000000 in
theorem product_pos (a b : Int) (a1 : 1 ≤ a) (a2 : a ≤ 9223372036854775807) (b1 : 1 ≤ b) (b2 : b ≤ 9223372036854775807) (w : World) :
    Calls Tryd.prog 22 #[.int .i64 a, .int .i64 b] w fun e w' => e = .returned (.tuple #[.int .u64 (a * b / 18446744073709551616), .int .u64 (a * b % 18446744073709551616)]) ∧ w = w' := by
  have hp := prod_parts a b
  have hA := mask32 a (by omega) a2
  have hB := mask32 b (by omega) b2
  have p1 := mul_bd (x := a / 4294967296) (y := b / 4294967296) (A := 2147483647) (B := 2147483647) (by omega) (by omega) (by omega) (by omega)
  have p2 := mul_bd (x := a % 4294967296) (y := b % 4294967296) (A := 4294967295) (B := 4294967295) (by omega) (by omega) (by omega) (by omega)
  have p3 := mul_bd (x := a / 4294967296) (y := b % 4294967296) (A := 2147483647) (B := 4294967295) (by omega) (by omega) (by omega) (by omega)
  have p4 := mul_bd (x := a % 4294967296) (y := b / 4294967296) (A := 4294967295) (B := 2147483647) (by omega) (by omega) (by omega) (by omega)
  have HP := Lib.hid hp
  clear hp
  go_enter Tryd.func22, Tryd.ntmps22
  go_wp2
  generalize a / 4294967296 * (b / 4294967296) = h0 at *
  generalize a % 4294967296 * (b % 4294967296) = l0 at *
  generalize a / 4294967296 * (b % 4294967296) = m1 at *
  generalize a % 4294967296 * (b / 4294967296) = m2 at *
  obtain ⟨l1, hl1⟩ : ∃ x, x = (l0 + m1 * 4294967296) % 18446744073709551616 := ⟨_, rfl⟩
  obtain ⟨h1, hh1⟩ : ∃ x, x = h0 + (l0 + m1 * 4294967296) / 18446744073709551616 := ⟨_, rfl⟩
  obtain ⟨l2, hl2⟩ : ∃ x, x = (l1 + m2 * 4294967296) % 18446744073709551616 := ⟨_, rfl⟩
  obtain ⟨h2, hh2⟩ : ∃ x, x = h1 + (l1 + m2 * 4294967296) / 18446744073709551616 := ⟨_, rfl⟩
  have HL1 := Lib.hid hl1
  have HH1 := Lib.hid hh1
  have HL2 := Lib.hid hl2
  have HH2 := Lib.hid hh2
  have b1 : 0 ≤ l1 ∧ l1 ≤ 18446744073709551615 := by omega
  have b2 : 0 ≤ h1 ∧ h1 ≤ 4611686020574871553 := by omega
  have b3 : 0 ≤ l2 ∧ l2 ≤ 18446744073709551615 := by omega
  have b4 : 0 ≤ h2 ∧ h2 ≤ 4611686022722355200 := by omega
  clear hl1 hh1 hl2 hh2
  go_loopg [4, 5, 46] 2 (fun rest h l i wr => ((rest = 2 ∧ i = .int .i64 0 ∧ h = .int .u64 h0 ∧ l = .int .u64 l0) ∨ (rest = 1 ∧ i = .int .i64 1 ∧ h = .int .u64 h1 ∧ l = .int .u64 l1) ∨ (rest = 0 ∧ i = .int .i64 2 ∧ h = .int .u64 h2 ∧ l = .int .u64 l2)) ∧ w = wr)
  case atStart => exact ⟨.inl ⟨rfl, rfl, rfl, rfl⟩, rfl⟩
  case round =>
    have i0 := index2_0 m1 m2
    have i1 := index2_1 m1 m2
    obtain ⟨⟨rfl, rfl, rfl, rfl⟩ | ⟨rfl, rfl, rfl, rfl⟩ | ⟨rfl, rfl, rfl, rfl⟩, rfl⟩ := hrel
    · have hw1 : IntKind.u64.wrap (l0 + IntKind.u64.wrap (m1 * 4294967296)) = l1 := by rw [IntKind.wrap_u64, IntKind.wrap_u64, HL1.out]; omega
      go_wp2
      · rename_i hle
        go_roundg 1
        case measure => omega
        case rel =>
          refine ⟨.inr (.inl ⟨rfl, rfl, ?_, rfl⟩), rfl⟩
          have e1 := HL1.out
          have e2 := HH1.out
          have : h0 + m1 / 4294967296 + 1 = h1 := by omega
          rw [this]
      · rename_i hlt
        go_roundg 1
        case measure => omega
        case rel =>
          refine ⟨.inr (.inl ⟨rfl, rfl, ?_, rfl⟩), rfl⟩
          have e1 := HL1.out
          have e2 := HH1.out
          have : h0 + m1 / 4294967296 = h1 := by omega
          rw [this]
    · have hw1 : IntKind.u64.wrap (l1 + IntKind.u64.wrap (m2 * 4294967296)) = l2 := by rw [IntKind.wrap_u64, IntKind.wrap_u64, HL2.out]; omega
      go_wp2
      · rename_i hle
        go_roundg 0
        case measure => omega
        case rel =>
          refine ⟨.inr (.inr ⟨rfl, rfl, ?_, rfl⟩), rfl⟩
          have e1 := HL2.out
          have e2 := HH2.out
          have : h1 + m2 / 4294967296 + 1 = h2 := by omega
          rw [this]
      · rename_i hlt
        go_roundg 0
        case measure => omega
        case rel =>
          refine ⟨.inr (.inr ⟨rfl, rfl, ?_, rfl⟩), rfl⟩
          have e1 := HL2.out
          have e2 := HH2.out
          have : h1 + m2 / 4294967296 = h2 := by omega
          rw [this]
    · go_wp2
      refine bodyPost_ret (results_tmp2 rfl _ _ _) rfl ?_
      have e1 := HL1.out
      have e2 := HH1.out
      have e3 := HL2.out
      have e4 := HH2.out
      have e5 := HP.out
      refine ⟨?_, rfl⟩
      have d1 : a * b / 18446744073709551616 = h2 := by omega
      have d2 : a * b % 18446744073709551616 = l2 := by omega
      rw [d1, d2]
      rfl

/-- The product of two numbers, of which one below 1 counts as 0. -/
def prodV (a b : Int) : Int := if a ≤ 0 ∨ b ≤ 0 then 0 else a * b
set_option maxRecDepth 20000 in
set_option maxHeartbeats 1000000 in
theorem product_any (a b : Int) (a2 : a ≤ 9223372036854775807) (b2 : b ≤ 9223372036854775807) (w : World) :
    Calls Tryd.prog 22 #[.int .i64 a, .int .i64 b] w fun e w' => e = .returned (.tuple #[.int .u64 (prodV a b / 18446744073709551616), .int .u64 (prodV a b % 18446744073709551616)]) ∧ w = w' := by
  unfold prodV
  by_cases h1 : a ≤ 0
  · rw [if_pos (.inl h1)]
    go_enter Tryd.func22, Tryd.ntmps22
    go_wp2
    refine bodyPost_ret (results_tmp2 rfl _ _ _) rfl ?_
    exact ⟨rfl, rfl⟩
  · by_cases h2 : b ≤ 0
    · rw [if_pos (.inr h2)]
      go_enter Tryd.func22, Tryd.ntmps22
      go_wp2
      refine bodyPost_ret (results_tmp2 rfl _ _ _) rfl ?_
      exact ⟨rfl, rfl⟩
    · rw [if_neg (by omega)]
      exact product_pos a b (by omega) a2 (by omega) b2 w
end Go.Proofs.YtaollcpoibgblaaDoor
