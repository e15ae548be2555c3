/- Contract of sort.Search: the closure may draw and lay blocks. -/
import Derived.Test.YthbijemihaekiaaGreatDoorKitR
import Derived.Test.YthbijemihaekiaaGreatDoorKitL
import Derived.Test.YthbijemihaekiaaGreatDoorKitM
namespace Go.Proofs.YthbijemihaekiaaGreatDoor
open Go.ChangeShapes Go.WideShapes Go.ChangeAt Go.RowKit
set_option linter.unusedVariables false
set_option linter.unusedSimpArgs false

set_option maxHeartbeats 4000000 in
set_option maxRecDepth 1000000 in
theorem search_any (g : Nat) (cb : Array Value) (n : Nat) (p : Nat → Bool) (w : World) (eg : ∀ args w, (callFunc g args).run Tryz.prog w = .ok (.enter g args) w) (hsz : n < 4611686018427387904)
    (hf : ∀ W, Below w.heap.size w W → ∀ i : Nat, i < n → Calls Tryz.prog g (#[.int .i64 i] ++ cb) W fun e w' => e = .returned (.bool (p i)) ∧ Below W.heap.size W w')
    (k : Nat) (hk : k ≤ n) (h1 : ∀ t, t < k → p t = false) (h2 : ∀ t, k ≤ t → t < n → p t = true) :
    Calls Tryz.prog 31 #[.int .i64 n, .func (.func g) #[] cb] w fun e w' => e = .returned (.int .i64 k) ∧ Below w.heap.size w w' := by
  have HF := Lib.hid hf
  have M := Lib.hid (And.intro h1 h2)
  clear hf h1 h2
  go_enter Tryz.func31, Tryz.ntmps31
  go_wp2
  go_loopg [5, 6] n (fun kx s5 s6 wr => ∃ (lo hi : Nat), s5 = .int .i64 lo ∧ s6 = .int .i64 hi ∧ lo ≤ k ∧ k ≤ hi ∧ hi ≤ n ∧ hi - lo ≤ kx ∧ Hid (Below w.heap.size w wr))
  case atStart => exact ⟨0, n, rfl, rfl, Nat.zero_le _, hk, Nat.le_refl _, by omega, Lib.hid (Below.refl _ _)⟩
  case round =>
    obtain ⟨lo, hi, rfl, rfl, hlk, hkh, hin, hg, HB⟩ := hrel
    by_cases hlt : lo < hi
    · have hc := HF.out wr HB.out ((lo + hi) / 2) (by omega)
      rw [show (((lo + hi) / 2 : Nat) : Int) = ((lo : Int) + (hi : Int)) / 2 by omega] at hc
      cases hp : p ((lo + hi) / 2) <;> rw [hp] at hc
      · have hm : (lo + hi) / 2 < k := by
          rcases Nat.lt_or_ge ((lo + hi) / 2) k with h | h
          · exact h
          · rw [M.out.2 _ h (by omega)] at hp; cases hp
        have HC := Lib.hid hc
        clear hp hc
        go_wp2_with fail
        refine Calls.mono HC.out ?_
        rintro e w' ⟨rfl, hbw⟩
        go_wp2_with fail
        go_roundg (hi - ((lo + hi) / 2 + 1))
        case measure => omega
        case rel => exact ⟨(lo + hi) / 2 + 1, hi, by rw [show ((lo : Int) + (hi : Int)) / 2 + 1 = (((lo + hi) / 2 + 1 : Nat) : Int) by omega], rfl, by omega, by omega, hin, Nat.le_refl _, Lib.hid (HB.out.trans (hbw.mono HB.out.size))⟩
      · have hm : k ≤ (lo + hi) / 2 := by
          rcases Nat.lt_or_ge ((lo + hi) / 2) k with h | h
          · rw [M.out.1 _ h] at hp; cases hp
          · exact h
        have HC := Lib.hid hc
        clear hp hc
        go_wp2_with fail
        refine Calls.mono HC.out ?_
        rintro e w' ⟨rfl, hbw⟩
        go_wp2_with fail
        go_roundg ((lo + hi) / 2 - lo)
        case measure => omega
        case rel => exact ⟨lo, (lo + hi) / 2, rfl, by rw [show ((lo : Int) + (hi : Int)) / 2 = (((lo + hi) / 2 : Nat) : Int) by omega], by omega, by omega, by omega, Nat.le_refl _, Lib.hid (HB.out.trans (hbw.mono HB.out.size))⟩
    · obtain rfl : lo = k := by omega
      go_wp2
      go_ret
      exact ⟨rfl, HB.out⟩
end Go.Proofs.YthbijemihaekiaaGreatDoor
