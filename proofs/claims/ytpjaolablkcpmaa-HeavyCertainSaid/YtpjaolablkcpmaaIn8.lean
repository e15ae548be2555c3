/- Contract of a search for a text in a row: 'cicerone/ciceroneref08.In'. -/
import Derived.Test.YtpjaolablkcpmaaKitZ
import Derived.Test.YtpjaolablkcpmaaProg
namespace Go.Proofs.Ytpjaolablkcpmaa
open Go.ChangeShapes Go.WideShapes Go.ChangeAt Go.RowKit
set_option linter.unusedVariables false
set_option linter.unusedSimpArgs false

set_option maxHeartbeats 1000000 in
theorem in8_any (A : Option Addr) (B c : Nat) (l : List ByteArray) (x : ByteArray) (w : World) (h : StrsAt w B A l) (hl : (l.length : Int) ≤ 9223372036854775807) :
    Calls Try.prog 24 #[.slice A l.length c, .string x] w fun e w' => e = .returned (.bool (memB x l)) ∧ w = w' := by
  go_enter Try.func24, Try.ntmps24
  go_wp2
  go_loopg [5] l.length (fun rest i wr => ∃ k : Nat, i = .int .i64 k ∧ Hid (k + rest = l.length) ∧ Hid (∀ j (hj : j < l.length), j < k → l[j] ≠ x) ∧ w = wr)
  case atStart => exact ⟨0, rfl, Lib.hid (by simp), Lib.hid (by intro j _ h; omega), rfl⟩
  case round =>
    obtain ⟨k, rfl, HK, HA, rfl⟩ := hrel
    by_cases hk : (k : Int) < (l.length : Int)
    · have hkl : k < l.length := by omega
      obtain ⟨b, o, rfl, hb, hcell, hs⟩ := h.one hkl
      by_cases he : l[k] = x
      · have hfin : memB x l = true := memB_iff.2 (by rw [← he]; simp)
        have HF := Lib.hid hfin
        have heq : (l[k].toList == x.toList) = true := by rw [he]; simp
        clear hfin he
        generalize l[k] = y at *
        go_wp2
        go_ret
        exact ⟨ret_bool HF.out.symm, rfl⟩
      · have HE := Lib.hid he
        have heq : (l[k].toList == x.toList) = false := by rw [str_beq]; simp [he]
        have HA' : Hid (∀ j (hj : j < l.length), j < k + 1 → l[j] ≠ x) := Lib.hid (fun j hj hjk => by
          by_cases e : j = k
          · subst e; exact HE.out
          · exact HA.out j hj (by omega))
        clear he
        generalize l[k] = y at *
        go_wp2
        go_roundg (gk - 1)
        case measure => have := HK.out; omega
        case rel => exact ⟨k + 1, by go_num, Lib.hid (by have := HK.out; omega), HA', rfl⟩
    · go_wp2
      go_ret
      refine ⟨ret_bool ?_, rfl⟩
      have : ¬ x ∈ l := fun hm => by
        obtain ⟨j, hj, e⟩ := List.getElem_of_mem hm
        exact HA.out j hj (by omega) e
      exact (memB_not.2 this).symm
end Go.Proofs.Ytpjaolablkcpmaa
