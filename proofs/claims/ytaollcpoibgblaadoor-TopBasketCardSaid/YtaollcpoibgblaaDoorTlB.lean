/- Contract of tale.numbered: a letter and a digit. -/
import Derived.Test.YtaollcpoibgblaaDoorKitA
import Derived.Test.YtaollcpoibgblaaDoorProg
namespace Go.Proofs.YtaollcpoibgblaaDoor
open Go.ChangeShapes Go.WideShapes Go.ChangeAt Go.RowKit
set_option linter.unusedVariables false
set_option linter.unusedSimpArgs false

/-- A digit, as a text; a letter and a digit. -/
def dig (n : Int) : ByteArray := ⟨#[(48 + n.toNat).toUInt8]⟩
def nm (c : UInt8) (n : Int) : ByteArray := ⟨#[c, (48 + n.toNat).toUInt8]⟩
theorem nm_size (c : UInt8) (n : Int) : (nm c n).size = 2 := rfl
theorem nm_app (c : UInt8) (n : Int) : (⟨#[c]⟩ : ByteArray) ++ dig n = nm c n := rfl

set_option maxRecDepth 20000 in
set_option maxHeartbeats 1000000 in
theorem small_any (n : Int) (w : World) (h0 : 0 ≤ n) (h9 : n ≤ 9) : Calls Tryd.prog 62 #[.int .i64 n] w fun e w' => e = .returned (.string (dig n)) ∧ w = w' := by
  have hn : n = 0 ∨ n = 1 ∨ n = 2 ∨ n = 3 ∨ n = 4 ∨ n = 5 ∨ n = 6 ∨ n = 7 ∨ n = 8 ∨ n = 9 := by omega
  clear h0 h9
  go_enter Tryd.func62, Tryd.ntmps62
  rcases hn with rfl | rfl | rfl | rfl | rfl | rfl | rfl | rfl | rfl | rfl
  all_goals
    go_wp2
    go_ret
    exact ⟨rfl, rfl⟩

set_option maxRecDepth 20000 in
set_option maxHeartbeats 1000000 in
theorem fmt10_any (n : Int) (w : World) (h0 : 0 ≤ n) (h9 : n ≤ 9) : Calls Tryd.prog 55 #[.int .i64 n, .int .i64 10] w fun e w' => e = .returned (.string (dig n)) ∧ w = w' := by
  have Q := Lib.hid (small_any n w h0 h9)
  go_enter Tryd.func55, Tryd.ntmps55
  go_wp2_with fail
  refine Q.out.mono ?_
  rintro e w1 ⟨rfl, rfl⟩
  go_wp2
  go_ret
  exact ⟨rfl, rfl⟩
set_option maxRecDepth 20000 in
set_option maxHeartbeats 1000000 in
theorem itoa1_any (n : Int) (w : World) (h0 : 0 ≤ n) (h9 : n ≤ 9) : Calls Tryd.prog 46 #[.int .i64 n] w fun e w' => e = .returned (.string (dig n)) ∧ w = w' := by
  have Q := Lib.hid (fmt10_any n w h0 h9)
  go_enter Tryd.func46, Tryd.ntmps46
  go_wp2_with fail
  refine Q.out.mono ?_
  rintro e w1 ⟨rfl, rfl⟩
  go_wp2
  go_ret
  exact ⟨rfl, rfl⟩
set_option maxRecDepth 20000 in
set_option maxHeartbeats 1000000 in
theorem itoa_any (n : Int) (w : World) (h0 : 0 ≤ n) (h9 : n ≤ 9) : Calls Tryd.prog 32 #[.int .i64 n] w fun e w' => e = .returned (.string (dig n)) ∧ w = w' := by
  have Q := Lib.hid (itoa1_any n w h0 h9)
  go_enter Tryd.func32, Tryd.ntmps32
  go_wp2_with fail
  refine Q.out.mono ?_
  rintro e w1 ⟨rfl, rfl⟩
  go_wp2
  go_ret
  exact ⟨rfl, rfl⟩
set_option maxRecDepth 20000 in
set_option maxHeartbeats 1000000 in
theorem numbered_any (c : UInt8) (n : Int) (w : World) (h0 : 0 ≤ n) (h9 : n ≤ 9) : Calls Tryd.prog 25 #[.string ⟨#[c]⟩, .int .i64 n] w fun e w' => e = .returned (.string (nm c n)) ∧ w = w' := by
  have Q := Lib.hid (itoa_any n w h0 h9)
  obtain ⟨a, ha⟩ : ∃ a : ByteArray, a = ⟨#[c]⟩ := ⟨_, rfl⟩
  obtain ⟨d, hd⟩ : ∃ d, d = dig n := ⟨_, rfl⟩
  have he : a ++ d = nm c n := by rw [ha, hd]; rfl
  have hs : ¬ 9223372036854775807 < a.size + d.size := by rw [ha, hd]; show ¬ 9223372036854775807 < 1 + 1; omega
  rw [← ha, ← he]
  rw [← hd] at Q
  have HE := Lib.hid he
  clear he ha hd
  go_enter Tryd.func25, Tryd.ntmps25
  go_wp2_with fail
  refine Q.out.mono ?_
  rintro e w1 ⟨rfl, rfl⟩
  go_wp2
  go_ret
  exact ⟨rfl, rfl⟩
theorem numbered_q (c : UInt8) (n : Int) (h0 : 0 ≤ n) (h9 : n ≤ 9) (w : World) : Calls Tryd.prog 25 #[.string ⟨#[c]⟩, .int .i64 n] w fun e w' => e = .returned (.string (nm c n)) ∧ w' = w :=
  (numbered_any c n w h0 h9).mono fun e w' h => ⟨h.1, h.2.symm⟩
end Go.Proofs.YtaollcpoibgblaaDoor
