/- Contracts of the reference's Hash, the statements' big, both Below. -/
import Derived.Test.YtpbaokhlhhpiiaaDrawB
import Derived.Test.YtpbaokhlhhpiiaaLay
namespace Go.Proofs.Ytpbaokhlhhpiiaa
open Go.ChangeShapes Go.WideShapes Go.ChangeAt Go.RowKit
set_option linter.unusedVariables false
set_option linter.unusedSimpArgs false

def bigB (l : List ByteArray) (most : Int) : Bool := decide (most < (l.length : Int)) || l.any (fun s => decide (100 < (s.size : Int)))
theorem bigB_no {l : List ByteArray} {most : Int} (h : bigB l most = false) : (l.length : Int) ≤ most ∧ ∀ s ∈ l, (s.size : Int) ≤ 100 := by
  simp [bigB] at h
  exact ⟨by omega, fun a ha => by have := h.2 a ha; omega⟩

set_option maxRecDepth 20000 in
set_option maxHeartbeats 1000000 in
theorem big_any (A : Option Addr) (B c : Nat) (l : List ByteArray) (most : Int) (w : World) (h : StrsAt w B A l) (hl : (l.length : Int) ≤ 9223372036854775807) :
    Calls Try.prog 10 #[.slice A l.length c, .int .i64 most] w fun e w' => e = .returned (.bool (bigB l most)) ∧ w = w' := by
  by_cases hm : most < (l.length : Int)
  · have e : bigB l most = true := by simp [bigB, hm]
    have E := Lib.hid e
    clear e
    go_enter Try.func10, Try.ntmps10
    go_wp2
    go_ret
    exact ⟨ret_bool E.out.symm, rfl⟩
  · go_enter Try.func10, Try.ntmps10
    go_wp2_with fail
    go_loopg [5] l.length (fun rest i wr => ∃ k : Nat, i = .int .i64 k ∧ Hid (k + rest = l.length) ∧ Hid (∀ j (hj : j < l.length), j < k → ¬ (100 < (l[j].size : Int))) ∧ w = wr)
    case atStart => exact ⟨0, rfl, Lib.hid (by simp), Lib.hid (by intro j _ h; omega), rfl⟩
    case round =>
      obtain ⟨k, rfl, HK, HA, rfl⟩ := hrel
      by_cases hk : (k : Int) < (l.length : Int)
      · have hkl : k < l.length := by omega
        obtain ⟨b, o, rfl, hbl, c0, hss⟩ := h.one hkl
        by_cases hs : 100 < (l[k].size : Int)
        · have hfin : bigB l most = true := by
            simp only [bigB, Bool.or_eq_true, List.any_eq_true, decide_eq_true_eq]
            exact .inr ⟨l[k], List.getElem_mem hkl, hs⟩
          have HF := Lib.hid hfin
          clear hfin
          generalize l[k] = x at *
          go_wp2
          go_ret
          exact ⟨ret_bool HF.out.symm, rfl⟩
        · have HS := Lib.hid hs
          have hs' : (l[k].size : Int) ≤ 100 := by omega
          clear hs
          have HA' : Hid (∀ j (hj : j < l.length), j < k + 1 → ¬ (100 < (l[j].size : Int))) := Lib.hid (fun j hj hjk => by
            by_cases e : j = k
            · subst e; exact HS.out
            · exact HA.out j hj (by omega))
          generalize l[k] = x at *
          go_wp2
          go_roundg (gk - 1)
          case measure => have := HK.out; omega
          case rel => exact ⟨k + 1, by go_num, Lib.hid (by have := HK.out; omega), HA', rfl⟩
      · go_wp2
        go_ret
        refine ⟨ret_bool ?_, rfl⟩
        have : l.any (fun s => decide (100 < (s.size : Int))) = false := by
          rw [List.any_eq_false]
          intro a ha
          obtain ⟨j, hj, rfl⟩ := List.getElem_of_mem ha
          simpa using HA.out j hj (by omega)
        simp [bigB, this]; omega

set_option maxHeartbeats 1000000 in
theorem rhash_any (seed : Int) (A : Option Addr) (B c : Nat) (ws : List ByteArray) (w : World) (hr : StrsAt w B A ws) (hl : (ws.length : Int) ≤ 9223372036854775807) (hs8 : ∀ s ∈ ws, (s.size : Int) ≤ 1000000) :
    Calls Try.prog 13 #[.int .u64 seed, .slice A ws.length c] w fun e w' => e = .returned (.int .u64 (hashV seed ws)) ∧ w = w' := by
  obtain ⟨T, hT⟩ : ∃ T, hashV seed ws = T := ⟨_, rfl⟩
  rw [hT]
  have HT := Lib.hid hT
  have HS8 := Lib.hid hs8
  clear hT hs8
  go_enter Try.func13, Try.ntmps13
  go_wp2
  go_loopg [5, 6] ws.length (fun rest h i wr => ∃ (k : Nat) (x : Int), i = .int .i64 k ∧ h = .int .u64 x ∧ 0 ≤ x ∧ x ≤ 18446744073709551615 ∧ Hid (x = hWords (IntKind.u64.wrap (seed + 11400714819323198485)) (ws.take k)) ∧ Hid (k + rest = ws.length) ∧ w = wr)
  case atStart => exact ⟨0, _, rfl, rfl, (wrap_bd _).1, (wrap_bd _).2, Lib.hid rfl, Lib.hid (by simp), rfl⟩
  case round =>
    obtain ⟨k, x, rfl, rfl, x0, x1, HX, HK, rfl⟩ := hrel
    by_cases hk : (k : Int) < (ws.length : Int)
    · have hkl : k < ws.length := by omega
      obtain ⟨b, o, rfl, hb, hcell, _⟩ := hr.one hkl
      have hs := HS8.out _ (List.getElem_mem hkl)
      have HN : Hid (hWords (IntKind.u64.wrap (seed + 11400714819323198485)) (ws.take (k + 1)) = hWord x ws[k]) := Lib.hid (by rw [List.take_succ_eq_append_getElem hkl, hWords_snoc, ← HX.out])
      generalize ws[k] = s at *
      go_wp2
      go_loopg [5, 7] (s.size + 1) (fun rest h i wr => ∃ (m : Nat) (y : Int), i = .int .i64 m ∧ h = .int .u64 y ∧ 0 ≤ y ∧ y ≤ 18446744073709551615 ∧ Hid ((m ≤ s.size ∧ y = hBytes x (s.data.toList.take m)) ∨ (m = s.size + 1 ∧ y = hWord x s)) ∧ Hid (m + rest = s.size + 1) ∧ w = wr)
      case atStart => exact ⟨0, x, rfl, rfl, x0, x1, Lib.hid (.inl ⟨Nat.zero_le _, rfl⟩), Lib.hid (by simp), rfl⟩
      case round =>
        obtain ⟨m, y, rfl, rfl, y0, y1, HY, HM, rfl⟩ := hrel
        by_cases hm : (m : Int) ≤ (s.size : Int)
        · have hy : y = hBytes x (s.data.toList.take m) := by
            rcases HY.out with h | h
            · exact h.2
            · omega
          by_cases hm2 : (m : Int) < (s.size : Int)
          · have hml : m < s.size := by omega
            have HY2 : Hid (hStep y (IntKind.u64.wrap s[m].toNat) = hBytes x (s.data.toList.take (m + 1))) := Lib.hid (by rw [take_snoc s m hml, hBytes_snoc, ← hy])
            clear hy HY
            go_wp2
            go_roundg (gk - 1)
            case measure => have := HM.out; omega
            case rel => exact ⟨m + 1, _, by go_num, rfl, (wrap_bd _).1, (wrap_bd _).2, Lib.hid (.inl ⟨by omega, HY2.out⟩), Lib.hid (by have := HM.out; omega), rfl⟩
          · have HY2 : Hid (hStep y 256 = hWord x s) := Lib.hid (by
              rw [List.take_of_length_le (by simp; omega)] at hy
              rw [hy]; rfl)
            clear hy HY
            go_wp2
            go_roundg (gk - 1)
            case measure => have := HM.out; omega
            case rel => exact ⟨m + 1, _, by go_num, rfl, (wrap_bd _).1, (wrap_bd _).2, Lib.hid (.inr ⟨by omega, HY2.out⟩), Lib.hid (by have := HM.out; omega), rfl⟩
        · have HY2 : Hid (y = hWord x s) := Lib.hid (by
            rcases HY.out with h | h
            · omega
            · exact h.2)
          clear HY
          go_wp2
          go_roundg (ws.length - k - 1)
          case measure => have := HK.out; omega
          case rel => exact ⟨k + 1, _, by go_num, rfl, y0, y1, Lib.hid (by rw [HN.out]; exact HY2.out), Lib.hid (by omega), rfl⟩
    · have HF : Hid (hFin x = T) := Lib.hid (by rw [HX.out, List.take_of_length_le (by omega)]; exact HT.out)
      go_wp2
      go_ret
      exact ⟨by rw [← HF.out]; rfl, rfl⟩
end Go.Proofs.Ytpbaokhlhhpiiaa
