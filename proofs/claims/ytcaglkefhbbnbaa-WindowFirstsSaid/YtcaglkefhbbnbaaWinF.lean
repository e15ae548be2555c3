/- Contract of the comparison of two rows of numbers (layer 10's statements). -/
import Derived.Test.YtcaglkefhbbnbaaWinE
namespace Go.Proofs.Ytcaglkefhbbnbaa
open Go.ChangeShapes Go.WideShapes Go.ChangeAt Go.RowKit
set_option linter.unusedVariables false

theorem take_succ_ne {α : Type} [DecidableEq α] {xs ys : List α} {k : Nat} (hx : k < xs.length) (hy : k < ys.length) (hne : xs[k] ≠ ys[k]) : xs ≠ ys := by
  rintro rfl
  exact hne rfl

theorem take_succ_eq {α : Type} {xs ys : List α} {k : Nat} (hx : k < xs.length) (hy : k < ys.length) (ht : xs.take k = ys.take k) (he : xs[k] = ys[k]) : xs.take (k + 1) = ys.take (k + 1) := by
  rw [List.take_succ_eq_append_getElem hx, List.take_succ_eq_append_getElem hy, ht, he]

set_option maxHeartbeats 400000 in
theorem same_any (A B : Option Addr) (xs ys : List Int) (c d : Nat) (w : World) (hx : Reads w w.heap.size 1 A xs.length (xs.map (Value.int .i64))) (hy : Reads w w.heap.size 1 B ys.length (ys.map (Value.int .i64))) 
    (hlx : xs.length ≤ 1000000) :
    Calls Try.prog 13 #[.slice A xs.length c, .slice B ys.length d] w fun e w' => e = .returned (.bool (decide (xs = ys))) ∧ Below w.heap.size w w' := by
  by_cases hl : xs.length = ys.length
  · have hl2 : ((xs.length : Int) != (ys.length : Int)) = false := by simp [hl]
    have HL := Lib.hid hl
    clear hl
    go_enter Try.func13, Try.ntmps13
    go_wp2_with fail
    go_loopg [13] xs.length (fun r i wr => ∃ k : Nat, i = .int .i64 k ∧ Hid (k + r = xs.length) ∧ Hid (xs.take k = ys.take k) ∧ Below w.heap.size w wr)
    case atStart => exact ⟨0, rfl, Lib.hid (by simp), Lib.hid (by simp), Below.refl _ _⟩
    case round =>
      obtain ⟨k, rfl, HK, HT, hb⟩ := hrel
      by_cases hk : (k : Int) < xs.length
      · have hkx : k < xs.length := by omega
        have hky : k < ys.length := by have := HL.out; omega
        have hky' : (k : Int) < ys.length := by omega
        obtain ⟨bx, ox, rfl, _, hcx⟩ := (hx.below hb).one hkx
        obtain ⟨by_, oy, rfl, _, hcy⟩ := (hy.below hb).one hky
        by_cases he : xs[k] = ys[k]
        · have he2 : (xs[k] != ys[k]) = false := by simp [he]
          have HE := Lib.hid he
          clear he
          go_wp2_with fail
          go_quiet (fail)
          go_wp2
          go_roundg (gk - 1)
          case measure => have := HK.out; omega
          case rel => exact ⟨k + 1, by go_num, Lib.hid (by have := HK.out; omega), Lib.hid (take_succ_eq hkx hky HT.out HE.out), below_drewN hb _⟩
        · have he2 : (xs[k] != ys[k]) = true := by simp [he]
          go_wp2_with fail
          go_quiet (fail)
          go_wp2
          go_ret
          exact ⟨ret_bool (by simp; exact take_succ_ne hkx hky he), below_drewN hb _⟩
      · go_wp2
        go_ret
        refine ⟨ret_bool ?_, hb⟩
        have := HK.out
        have ht := HT.out
        rw [List.take_of_length_le (by omega), List.take_of_length_le (by have := HL.out; omega)] at ht
        simp [ht]
  · have hl2 : ((xs.length : Int) != (ys.length : Int)) = true := by simp; omega
    go_enter Try.func13, Try.ntmps13
    go_wp2
    go_ret
    exact ⟨ret_bool (by simp; intro h; exact hl (by rw [h])), Below.refl _ _⟩

end Go.Proofs.Ytcaglkefhbbnbaa
