/- Contract of draw.Hash; the hash in plain words. -/
import Derived.Test.YtpbaokhlhhpiiaaCmpS
import Derived.Test.YtpbaokhlhhpiiaaCmpU
import Derived.Test.YtpbaokhlhhpiiaaCmpO
import Derived.Test.YtpbaokhlhhpiiaaKitZ
namespace Go.Proofs.Ytpbaokhlhhpiiaa
open Go.ChangeShapes Go.WideShapes Go.ChangeAt Go.RowKit
set_option linter.unusedVariables false
set_option linter.unusedSimpArgs false

def hStep (h b : Int) : Int := IntKind.u64.wrap (bits BinOp.xor IntKind.u64 h b * 1099511628211)
def hBytes (h : Int) (s : List UInt8) : Int := s.foldl (fun h c => hStep h (IntKind.u64.wrap c.toNat)) h
def hWord (h : Int) (s : ByteArray) : Int := hStep (hBytes h s.data.toList) 256
def hFin (x : Int) : Int :=
  (bits BinOp.xor IntKind.u64
              (IntKind.u64.wrap
                (bits BinOp.xor IntKind.u64
                    (IntKind.u64.wrap (bits BinOp.xor IntKind.u64 x (x / 2147483648) * 9202087104158670213))
                    (IntKind.u64.wrap (bits BinOp.xor IntKind.u64 x (x / 2147483648) * 9202087104158670213) /
                      134217728) *
                  9356908073163150413))
              (IntKind.u64.wrap
                  (bits BinOp.xor IntKind.u64
                      (IntKind.u64.wrap (bits BinOp.xor IntKind.u64 x (x / 2147483648) * 9202087104158670213))
                      (IntKind.u64.wrap (bits BinOp.xor IntKind.u64 x (x / 2147483648) * 9202087104158670213) /
                        134217728) *
                    9356908073163150413) /
                8589934592))
def hWords (h : Int) (ws : List ByteArray) : Int := ws.foldl hWord h
def hashV (seed : Int) (ws : List ByteArray) : Int := hFin (hWords (IntKind.u64.wrap (seed + 11400714819323198485)) ws)

theorem wrap_bd (n : Int) : 0 ≤ IntKind.u64.wrap n ∧ IntKind.u64.wrap n ≤ 18446744073709551615 := by
  rw [IntKind.wrap_u64]; omega
theorem hStep_bd (h b : Int) : 0 ≤ hStep h b ∧ hStep h b ≤ 18446744073709551615 := wrap_bd _
theorem xor_bd (a b : Int) : 0 ≤ bits BinOp.xor IntKind.u64 a b ∧ bits BinOp.xor IntKind.u64 a b ≤ 18446744073709551615 := by
  unfold bits
  exact wrap_bd _
theorem hashV_bd (seed : Int) (ws : List ByteArray) : 0 ≤ hashV seed ws ∧ hashV seed ws ≤ 18446744073709551615 := xor_bd _ _
theorem hBytes_snoc (h : Int) (l : List UInt8) (c : UInt8) : hBytes h (l ++ [c]) = hStep (hBytes h l) (IntKind.u64.wrap c.toNat) := by simp [hBytes]
theorem hWords_snoc (h : Int) (l : List ByteArray) (s : ByteArray) : hWords h (l ++ [s]) = hWord (hWords h l) s := by simp [hWords]
theorem take_snoc (s : ByteArray) (k : Nat) (h : k < s.size) : s.data.toList.take (k + 1) = s.data.toList.take k ++ [s[k]] := by
  rw [List.take_succ_eq_append_getElem (by simpa using h)]; rfl

set_option maxHeartbeats 1000000 in
theorem hash_any (seed : Int) (A : Option Addr) (B c : Nat) (ws : List ByteArray) (w : World) (hr : StrsAt w B A ws) (hl : (ws.length : Int) ≤ 9223372036854775807) :
    Calls Try.prog 11 #[.int .u64 seed, .slice A ws.length c] w fun e w' => e = .returned (.int .u64 (hashV seed ws)) ∧ w = w' := by
  obtain ⟨T, hT⟩ : ∃ T, hashV seed ws = T := ⟨_, rfl⟩
  rw [hT]
  have HT := Lib.hid hT
  clear hT
  go_enter Try.func11, Try.ntmps11
  go_wp2
  go_loopg [5, 13] ws.length (fun rest h i wr => ∃ (k : Nat) (x : Int), i = .int .i64 k ∧ h = .int .u64 x ∧ 0 ≤ x ∧ x ≤ 18446744073709551615 ∧ Hid (x = hWords (IntKind.u64.wrap (seed + 11400714819323198485)) (ws.take k)) ∧ Hid (k + rest = ws.length) ∧ w = wr)
  case atStart => exact ⟨0, _, rfl, rfl, (wrap_bd _).1, (wrap_bd _).2, Lib.hid rfl, Lib.hid (by simp), rfl⟩
  case round =>
    obtain ⟨k, x, rfl, rfl, x0, x1, HX, HK, rfl⟩ := hrel
    by_cases hk : (k : Int) < (ws.length : Int)
    · have hkl : k < ws.length := by omega
      obtain ⟨b, o, rfl, hb, hcell, hs⟩ := hr.one hkl
      have HN : Hid (hWords (IntKind.u64.wrap (seed + 11400714819323198485)) (ws.take (k + 1)) = hWord x ws[k]) := Lib.hid (by rw [List.take_succ_eq_append_getElem hkl, hWords_snoc, ← HX.out])
      generalize ws[k] = s at *
      go_wp2
      go_loopg [5, 8, 19] s.size (fun rest h j i wr => ∃ (m : Nat) (y : Int), i = .int .i64 m ∧ h = .int .u64 y ∧ 0 ≤ y ∧ y ≤ 18446744073709551615 ∧ Hid (y = hBytes x (s.data.toList.take m)) ∧ Hid (m + rest = s.size) ∧ w = wr)
      case atStart => exact ⟨0, x, rfl, rfl, x0, x1, Lib.hid rfl, Lib.hid (by simp), rfl⟩
      case round =>
        obtain ⟨m, y, rfl, rfl, y0, y1, HY, HM, rfl⟩ := hrel
        by_cases hm : (m : Int) < (s.size : Int)
        · have hml : m < s.size := by omega
          have HY2 : Hid (hStep y (IntKind.u64.wrap s[m].toNat) = hBytes x (s.data.toList.take (m + 1))) := Lib.hid (by rw [take_snoc s m hml, hBytes_snoc, ← HY.out])
          go_wp2
          go_roundg (gk - 1)
          case measure => have := HM.out; omega
          case rel => exact ⟨m + 1, _, by go_num, rfl, (wrap_bd _).1, (wrap_bd _).2, HY2, Lib.hid (by have := HM.out; omega), rfl⟩
        · have HY2 : Hid (hStep y 256 = hWord x s) := Lib.hid (by
            have := HY.out
            rw [List.take_of_length_le (by simp; omega)] at this
            rw [this]; rfl)
          go_wp2
          go_roundg (ws.length - k - 1)
          case measure => have := HK.out; omega
          case rel => exact ⟨k + 1, _, by go_num, rfl, (wrap_bd _).1, (wrap_bd _).2, Lib.hid (by rw [HN.out]; exact HY2.out), Lib.hid (by omega), rfl⟩
    · have HF : Hid (hFin x = T) := Lib.hid (by rw [HX.out, List.take_of_length_le (by omega)]; exact HT.out)
      go_wp2
      go_ret
      exact ⟨by rw [← HF.out]; rfl, rfl⟩
end Go.Proofs.Ytpbaokhlhhpiiaa
