/- Contracts of window.May, window.Ends, window.Holds and of the reference's May, Ends; and of the comparison of two rows of numbers. No conditions but that the integers fit their kind. -/
import Derived.Test.YtcaglkefhbbnbaaKitA
import Derived.Test.YtcaglkefhbbnbaaProg
namespace Go.Proofs.Ytcaglkefhbbnbaa
open Go.ChangeShapes Go.WideShapes Go.ChangeAt Go.RowKit

def fitsB (n width : Int) : Bool := decide (1 ≤ n) && decide (n ≤ 1099511627776) && decide (n % width = 0)
def mayB (s h wd : Int) : Bool := decide (1 ≤ wd) && fitsB s wd && fitsB h wd && decide (s ≤ 4096 * h)

theorem fits_bd {n width : Int} (h : fitsB n width = true) : 1 ≤ n ∧ n ≤ 1099511627776 := by
  simp [fitsB] at h; omega

theorem int_info : (Try.prog.info? 3).map (fun i => (i.zero, i.size, i.bytes)) = some (some (.int .i64 0), 1, 8) := by kernel_rfl

set_option maxHeartbeats 400000 in
theorem may1_any (n width : Int) (hw : 1 ≤ width) (hw2 : width ≤ 9223372036854775807) (b : Nat) (w : World) (hc : w.cell? ⟨b, 0, none⟩ = some (.int .i64 width)) :
    Calls Try.prog 32 #[.int .i64 n, .pointer (some ⟨b, 0, none⟩)] w fun e w' => e = .returned (.bool (fitsB n width)) ∧ w = w' := by
  by_cases h1 : 1 ≤ n
  · by_cases h2 : n ≤ 1099511627776
    · go_enter Try.func32, Try.ntmps32
      go_wp2
      go_ret
      refine ⟨?_, rfl⟩
      simp [fitsB, h1, h2, int_beq]
    · go_enter Try.func32, Try.ntmps32
      go_wp2
      go_ret
      simp [fitsB]; omega
  · go_enter Try.func32, Try.ntmps32
    go_wp2
    go_ret
    simp [fitsB]; omega

set_option maxHeartbeats 400000 in
theorem may_any (s h wd : Int) (hwd : wd ≤ 9223372036854775807) (w : World) :
    Calls Try.prog 11 #[.agg #[.int .i64 s, .int .i64 h], .int .i64 wd] w fun e w' => e = .returned (.bool (mayB s h wd)) ∧ Below w.heap.size w w' := by
  by_cases h1 : 1 ≤ wd
  · by_cases hs : fitsB s wd = true
    · have := fits_bd hs
      by_cases hh : fitsB h wd = true
      · have := fits_bd hh
        go_enter Try.func11, Try.ntmps11
        go_wp2_with (go_at_call 32; refine (may1_any _ _ h1 hwd _ _ (by go_simp)).mono ?_; rintro e w' ⟨rfl, rfl⟩)
        go_ret
        exact ⟨ret_bool (by simp [mayB, hs, hh, h1]), ((Below.refl _ _).alloc (by simp) _).alloc (by simp) _⟩
      · have hh : fitsB h wd = false := by simpa using hh
        go_enter Try.func11, Try.ntmps11
        go_wp2_with (go_at_call 32; refine (may1_any _ _ h1 hwd _ _ (by go_simp)).mono ?_; rintro e w' ⟨rfl, rfl⟩)
        go_ret
        exact ⟨ret_bool (by simp [mayB, hh]), ((Below.refl _ _).alloc (by simp) _).alloc (by simp) _⟩
    · have hs : fitsB s wd = false := by simpa using hs
      go_enter Try.func11, Try.ntmps11
      go_wp2_with (go_at_call 32; refine (may1_any _ _ h1 hwd _ _ (by go_simp)).mono ?_; rintro e w' ⟨rfl, rfl⟩)
      go_ret
      exact ⟨ret_bool (by simp [mayB, hs]), ((Below.refl _ _).alloc (by simp) _).alloc (by simp) _⟩
  · go_enter Try.func11, Try.ntmps11
    go_wp2
    go_ret
    exact ⟨ret_bool (by simp [mayB]; omega), ((Below.refl _ _).alloc (by simp) _).alloc (by simp) _⟩

end Go.Proofs.Ytcaglkefhbbnbaa
