/- Contract of cmp.Or at ints: the first that isn't 0. -/
import Derived.Test.YtmigjlceogofaaaKitQ
import Derived.Test.YtmigjlceogofaaaKitV
import Derived.Test.YtmigjlceogofaaaProg
namespace Go.Proofs.Ytmigjlceogofaaa
open Go.ChangeShapes Go.WideShapes Go.ChangeAt Go.RowKit
set_option linter.unusedVariables false
set_option linter.unusedSimpArgs false

def orV : List Int → Int
  | [] => 0
  | a :: l => if a = 0 then orV l else a

theorem orV_drop (l : List Int) (k : Nat) (h : ∀ j (hj : j < l.length), j < k → l[j] = 0) : orV l = orV (l.drop k) := by
  induction l generalizing k with
  | nil => simp
  | cons a l ih =>
    cases k with
    | zero => rfl
    | succ k =>
      have h0 : a = 0 := h 0 (by simp) (by omega)
      simp only [orV, h0, if_true, List.drop_succ_cons]
      exact ih k (fun j hj hjk => h (j + 1) (by simpa using hj) (by omega))

set_option maxHeartbeats 400000 in
theorem or_any (b o c : Nat) (l : List Int) (w : World) (hl : (l.length : Int) ≤ 1000000) (hc : ∀ j (hj : j < l.length), w.cell? ⟨b, o + j, none⟩ = some (.int .i64 l[j])) :
    Calls Try.prog 76 #[.slice (some ⟨b, o, none⟩) l.length c] w fun e w' => e = .returned (.int .i64 (orV l)) ∧ w = w' := by
  have HC := Lib.hid hc
  clear hc
  go_enter Try.func76, Try.ntmps76
  go_wp2
  go_loopg [8] l.length (fun rest i wr => ∃ k : Nat, i = .int .i64 k ∧ Hid (k + rest = l.length) ∧ Hid (∀ j (hj : j < l.length), j < k → l[j] = 0) ∧ w = wr)
  case atStart => exact ⟨0, rfl, Lib.hid (by simp), Lib.hid (by intro j _ h; omega), rfl⟩
  case round =>
    obtain ⟨k, rfl, HK, HA, rfl⟩ := hrel
    by_cases hk : (k : Int) < (l.length : Int)
    · have hkl : k < l.length := by omega
      have hcell := HC.out k hkl
      by_cases hz : l[k] = 0
      · have HZ := Lib.hid hz
        rw [hz] at hcell
        clear hz
        have HA' : Hid (∀ j (hj : j < l.length), j < k + 1 → l[j] = 0) := Lib.hid (fun j hj hjk => by
          by_cases e : j = k
          · subst e; exact HZ.out
          · exact HA.out j hj (by omega))
        go_wp2
        go_roundg (gk - 1)
        case measure => have := HK.out; omega
        case rel => exact ⟨k + 1, by go_num, Lib.hid (by have := HK.out; omega), HA', rfl⟩
      · have e : orV l = l[k] := by
          rw [orV_drop l k HA.out, List.drop_eq_getElem_cons hkl]
          simp [orV, hz]
        have E := Lib.hid e
        have hz' : (l[k] != 0) = true := by simp [hz]
        clear e hz
        generalize l[k] = x at *
        go_wp2
        go_ret
        exact ⟨ret_int E.out.symm, rfl⟩
    · go_wp2
      go_ret
      refine ⟨ret_int ?_, rfl⟩
      rw [orV_drop l k HA.out, List.drop_of_length_le (by omega)]
      rfl
end Go.Proofs.Ytmigjlceogofaaa
