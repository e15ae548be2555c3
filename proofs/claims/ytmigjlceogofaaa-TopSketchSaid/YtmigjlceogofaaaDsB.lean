/- Contract of distinct.Hash; the hash in plain words; New. -/
import Derived.Test.YtmigjlceogofaaaCmpS
import Derived.Test.YtmigjlceogofaaaCmpO
import Derived.Test.YtmigjlceogofaaaKitZ
import Derived.Test.YtmigjlceogofaaaDsA
namespace Go.Proofs.Ytmigjlceogofaaa
open Go.ChangeShapes Go.WideShapes Go.ChangeAt Go.RowKit
set_option linter.unusedVariables false
set_option linter.unusedSimpArgs false

def dStep (h b : Int) : Int := IntKind.u64.wrap (bits BinOp.xor IntKind.u64 h b * 1099511628211)
def dBytes (h : Int) (s : List UInt8) : Int := s.foldl (fun h c => dStep h (IntKind.u64.wrap c.toNat)) h
def dSh (x : Int) : Int := bits BinOp.xor IntKind.u64 x (x / 8589934592)
def dFin (x : Int) : Int := dSh (IntKind.u64.wrap (dSh (IntKind.u64.wrap (dSh x * 18397679294719823053)) * 14181476777654086739))
def hashD (s : ByteArray) : Int := dFin (dBytes 14695981039346656037 s.data.toList)

theorem wrap_bdD (n : Int) : 0 ≤ IntKind.u64.wrap n ∧ IntKind.u64.wrap n ≤ 18446744073709551615 := by
  rw [IntKind.wrap_u64]; omega
theorem xor_bdD (a b : Int) : 0 ≤ bits BinOp.xor IntKind.u64 a b ∧ bits BinOp.xor IntKind.u64 a b ≤ 18446744073709551615 := by
  unfold bits
  exact wrap_bdD _
theorem hashD_bd (s : ByteArray) : 0 ≤ hashD s ∧ hashD s ≤ 18446744073709551615 := xor_bdD _ _
theorem dBytes_snoc (h : Int) (l : List UInt8) (c : UInt8) : dBytes h (l ++ [c]) = dStep (dBytes h l) (IntKind.u64.wrap c.toNat) := by simp [dBytes]
theorem take_snocD (s : ByteArray) (k : Nat) (h : k < s.size) : s.data.toList.take (k + 1) = s.data.toList.take k ++ [s[k]] := by
  rw [List.take_succ_eq_append_getElem (by simpa using h)]; rfl

set_option maxHeartbeats 1000000 in
theorem hashD_any (s : ByteArray) (w : World) (hl : (s.size : Int) ≤ 9223372036854775807) :
    Calls Try.prog 66 #[.string s] w fun e w' => e = .returned (.int .u64 (hashD s)) ∧ w = w' := by
  obtain ⟨T, hT⟩ : ∃ T, hashD s = T := ⟨_, rfl⟩
  rw [hT]
  have HT := Lib.hid hT
  clear hT
  go_enter Try.func66, Try.ntmps66
  go_wp2
  go_loopg [3, 4, 7] s.size (fun rest h j i wr => ∃ (m : Nat) (y : Int), i = .int .i64 m ∧ h = .int .u64 y ∧ 0 ≤ y ∧ y ≤ 18446744073709551615 ∧ Hid (y = dBytes 14695981039346656037 (s.data.toList.take m)) ∧ Hid (m + rest = s.size) ∧ w = wr)
  case atStart => exact ⟨0, _, rfl, rfl, by omega, by omega, Lib.hid (by simp [dBytes]), Lib.hid (by simp), rfl⟩
  case round =>
    obtain ⟨m, y, rfl, rfl, y0, y1, HY, HM, rfl⟩ := hrel
    by_cases hm : (m : Int) < (s.size : Int)
    · have hml : m < s.size := by omega
      have HY2 : Hid (dStep y (IntKind.u64.wrap s[m].toNat) = dBytes 14695981039346656037 (s.data.toList.take (m + 1))) := Lib.hid (by rw [take_snocD s m hml, dBytes_snoc, ← HY.out])
      go_wp2
      go_roundg (gk - 1)
      case measure => have := HM.out; omega
      case rel => exact ⟨m + 1, _, by go_num, rfl, (wrap_bdD _).1, (wrap_bdD _).2, HY2, Lib.hid (by have := HM.out; omega), rfl⟩
    · have HF : Hid (dFin y = T) := Lib.hid (by
        have := HY.out
        rw [List.take_of_length_le (by simp; omega)] at this
        rw [this]; exact HT.out)
      go_wp2
      go_ret
      exact ⟨by rw [← HF.out]; rfl, rfl⟩

end Go.Proofs.Ytmigjlceogofaaa
