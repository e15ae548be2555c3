/- Contracts of the statements' example of decay, of the reference's weight. -/
import Derived.Test.YtgahopkbgefjdaaDecD
namespace Go.Proofs.Ytgahopkbgefjdaa
open Go.ChangeShapes Go.WideShapes Go.ChangeAt Go.RowKit
set_option linter.unusedVariables false
set_option linter.unusedSimpArgs false

def keyA : ByteArray := ⟨#[97]⟩
theorem cntV_lives (now : Int) (h0 : 0 ≤ now) : cntV (halfOf 10) ([] ++ [⟨keyA, 0, 8⟩]) keyA now = 8 * wtV now 10 := by
  have e : halfOf 10 = 10 := rfl
  unfold cntV
  rw [if_neg (by omega), e]
  simp [histSum, histN]

set_option maxRecDepth 20000 in
set_option maxHeartbeats 1000000 in
theorem lives_any (w : World) : Calls Try.prog 9 #[] w fun e w' => e = .returned (.bool true) ∧ Below w.heap.size w w' := by
  have e9 : cntV (halfOf 10) ([] ++ [⟨keyA, 0, 8⟩]) keyA 9 = 8388608 := by rw [cntV_lives _ (by omega)]; decide +kernel
  have e10 : cntV (halfOf 10) ([] ++ [⟨keyA, 0, 8⟩]) keyA 10 = 4194304 := by rw [cntV_lives _ (by omega)]; decide +kernel
  have e210 : cntV (halfOf 10) ([] ++ [⟨keyA, 0, 8⟩]) keyA 210 = 0 := by rw [cntV_lives _ (by omega)]; decide +kernel
  have hb : daddB keyA 0 8 0 = true := by decide +kernel
  have E9 := Lib.hid e9
  have E10 := Lib.hid e10
  have E210 := Lib.hid e210
  have HB := Lib.hid hb
  clear e9 e10 e210 hb
  go_enter Try.func9, Try.ntmps9
  go_wp2_with fail
  refine (dnew_any 10 _).mono ?_
  rintro e w1 ⟨cb, F, rfl, hO, hF, hb1⟩
  go_wp2_with fail
  refine (dadd_any cb F _ _ _ keyA 0 8 _ hO).mono ?_
  rintro e w2 ⟨rfl, F2, hO2, hk2, hF2⟩
  rw [HB.out] at hO2 ⊢
  rw [if_pos rfl, if_pos rfl] at hO2
  have hb2 : Below w.heap.size w w2 := hb1.trans (hk2.toBelow hb1.size hF)
  clear hO hk2 hb1 hF2 hF HB
  go_wp2_with fail
  refine (dat_any cb F2 _ _ _ keyA 9 _ hO2 (by decide +kernel) (by omega)).mono ?_
  rintro e w3 ⟨rfl, hb3⟩
  rw [E9.out]
  have hO3 := hO2.below hb3
  have hb3' : Below w.heap.size w w3 := hb2.trans (hb3.mono hb2.size)
  clear hO2 hb3 hb2
  go_wp2_with fail
  refine (dat_any cb F2 _ _ _ keyA 10 _ hO3 (by decide +kernel) (by omega)).mono ?_
  rintro e w4 ⟨rfl, hb4⟩
  rw [E10.out]
  have hO4 := hO3.below hb4
  have hb4' : Below w.heap.size w w4 := hb3'.trans (hb4.mono hb3'.size)
  clear hO3 hb4 hb3'
  go_wp2_with fail
  refine (dat_any cb F2 _ _ _ keyA 210 _ hO4 (by decide +kernel) (by omega)).mono ?_
  rintro e w5 ⟨rfl, hb5⟩
  rw [E210.out]
  have hb5' : Below w.heap.size w w5 := hb4'.trans (hb5.mono hb4'.size)
  clear hO4 hb5 hb4'
  go_wp2
  go_ret
  exact ⟨rfl, hb5'⟩
end Go.Proofs.Ytgahopkbgefjdaa
