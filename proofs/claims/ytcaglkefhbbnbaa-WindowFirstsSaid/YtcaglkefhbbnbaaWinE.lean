/- Contracts of window.Holds, of the comparison of two rows of numbers, and of the example that each statement of layer 10 asks first. -/
import Derived.Test.YtcaglkefhbbnbaaWinD
namespace Go.Proofs.Ytcaglkefhbbnbaa
open Go.ChangeShapes Go.WideShapes Go.ChangeAt Go.RowKit
set_option linter.unusedVariables false

def holdsL (s h at_ : Int) : List Int := if 0 ≤ at_ ∧ at_ ≤ 1099511627776 ∧ mayB s h 1 = true then endsL s h at_ (at_ + s) else []

theorem may_bd {s h wd : Int} (hm : mayB s h wd = true) : 1 ≤ s ∧ s ≤ 1099511627776 ∧ 1 ≤ h ∧ h ≤ 1099511627776 ∧ s ≤ 4096 * h ∧ 1 ≤ wd := by
  simp [mayB] at hm
  have a := fits_bd hm.1.1.2
  have b := fits_bd hm.1.2
  omega

set_option maxHeartbeats 400000 in
theorem holds_any (s h at_ : Int) (w : World) :
    Calls Try.prog 17 #[.agg #[.int .i64 s, .int .i64 h], .int .i64 at_] w fun e w' => ∃ A c, e = .returned (.slice A (holdsL s h at_).length c) ∧
      w'.ownsRow w.heap.size 3 1 (.slice A (holdsL s h at_).length c) (holdsL s h at_).length ((holdsL s h at_).map (Value.int .i64)) ∧ Below w.heap.size w w' := by
  by_cases h1 : 0 ≤ at_
  · by_cases h2 : at_ ≤ 1099511627776
    · by_cases hm : mayB s h 1 = true
      · have hs := may_bd hm
        have e : holdsL s h at_ = endsL s h at_ (at_ + s) := by unfold holdsL; rw [if_pos ⟨h1, h2, hm⟩]
        rw [e]
        clear e
        go_enter Try.func17, Try.ntmps17
        go_wp2_with (go_at_call 11; refine (may_any _ _ _ (by omega) _).mono ?_; rintro e w1 ⟨rfl, hb1⟩; obtain ⟨hc1, hf1⟩ := bcell hb1)
        refine (ends_any _ _ _ _ _).mono ?_
        rintro e w2 ⟨A, c, rfl, hown, hb2⟩
        have hsz := hb1.size
        go_wp2
        go_ret
        exact ⟨A, c, rfl, own_base hown (by simp at hsz; omega), (((Below.refl _ _).alloc (Nat.le_refl _) _).trans (hb1.mono (by simp))).trans (hb2.mono (by simp at hsz; omega))⟩
      · have hm' : mayB s h 1 = false := by simpa using hm
        have e : holdsL s h at_ = [] := by unfold holdsL; rw [if_neg (fun x => hm x.2.2)]
        rw [e]
        clear e
        go_enter Try.func17, Try.ntmps17
        go_wp2_with (go_at_call 11; refine (may_any _ _ _ (by omega) _).mono ?_; rintro e w1 ⟨rfl, hb1⟩)
        go_ret
        exact ⟨none, 0, rfl, World.ownsRow_nil _ _ _ _, ((Below.refl _ _).alloc (Nat.le_refl _) _).trans (hb1.mono (by simp))⟩
    · have e : holdsL s h at_ = [] := by unfold holdsL; rw [if_neg (fun x => h2 x.2.1)]
      rw [e]
      clear e
      go_enter Try.func17, Try.ntmps17
      go_wp2
      go_ret
      exact ⟨none, 0, rfl, World.ownsRow_nil _ _ _ _, ((Below.refl _ _).alloc (Nat.le_refl _) _)⟩
  · have e : holdsL s h at_ = [] := by unfold holdsL; rw [if_neg (fun x => h1 x.1)]
    rw [e]
    clear e
    go_enter Try.func17, Try.ntmps17
    go_wp2
    go_ret
    exact ⟨none, 0, rfl, World.ownsRow_nil _ _ _ _, ((Below.refl _ _).alloc (Nat.le_refl _) _)⟩

theorem awake_list1 : holdsL 20 10 12 = [20, 30] := by decide +kernel
theorem awake_list2 : holdsL 10 30 12 = [] := by decide +kernel

set_option maxHeartbeats 400000 in
theorem awake_any (w : World) : Calls Try.prog 16 #[] w fun e w' => e = .returned (.bool true) ∧ Below w.heap.size w w' := by
  have c1 := fun w => holds_any 20 10 12 w
  have c2 := fun w => holds_any 10 30 12 w
  rw [awake_list1] at c1
  rw [awake_list2] at c2
  have C1 := Lib.hid c1
  have C2 := Lib.hid c2
  clear c1 c2
  go_enter Try.func16, Try.ntmps16
  go_wp2_with fail
  refine (C1.out _).mono ?_
  rintro e w1 ⟨A, c, rfl, hown, hb1⟩
  obtain ⟨g, cap, hv, _, hlt⟩ := hown.form (by decide)
  have hA : A = some ⟨g, 0, none⟩ := by injection hv
  subst hA
  have k0 : w1.cell? ⟨g, 0, none⟩ = some (.int .i64 20) := by have := hown.cells (g := g) rfl 0 (.int .i64 20) rfl; simpa [Addr.add] using this
  have k1 : w1.cell? ⟨g, 1, none⟩ = some (.int .i64 30) := by have := hown.cells (g := g) rfl 1 (.int .i64 30) rfl; simpa [Addr.add] using this
  clear hown hv
  go_wp2_with fail
  refine (C2.out _).mono ?_
  rintro e w2 ⟨A, c, rfl, hown, hb2⟩
  go_wp2
  go_ret
  exact ⟨rfl, hb1.trans (hb2.mono hb1.size)⟩

end Go.Proofs.Ytcaglkefhbbnbaa
