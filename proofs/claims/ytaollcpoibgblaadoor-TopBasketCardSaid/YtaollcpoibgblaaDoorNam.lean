/- Contract of event.Name. -/
import Derived.Test.YtaollcpoibgblaaDoorKitA
import Derived.Test.YtaollcpoibgblaaDoorProg
namespace Go.Proofs.YtaollcpoibgblaaDoor
open Go.ChangeShapes Go.WideShapes Go.ChangeAt Go.RowKit
set_option linter.unusedVariables false
set_option linter.unusedSimpArgs false

/-- What a name's letter may be. -/
def nmC (c : Int) : Prop := (97 ≤ c ∧ c ≤ 122) ∨ (48 ≤ c ∧ c ≤ 57) ∨ c = 45
instance (c : Int) : Decidable (nmC c) := by unfold nmC; infer_instance
def nameB (s : ByteArray) : Bool := decide (1 ≤ (s.size : Int)) && decide ((s.size : Int) ≤ 24) && s.data.toList.all (fun c => decide (nmC (c.toNat : Int)))
theorem nameB_false {s : ByteArray} {k : Nat} (hk : k < s.size) (h : ¬ nmC ((s[k]).toNat : Int)) : nameB s = false := by
  unfold nameB
  have : s.data.toList.all (fun c => decide (nmC (c.toNat : Int))) = false := by
    rw [List.all_eq_false]
    exact ⟨s[k], by simp [ByteArray.getElem_eq_getElem_data], by simpa using h⟩
  rw [this, Bool.and_false]
theorem nameB_true {s : ByteArray} (h1 : 1 ≤ (s.size : Int)) (h2 : (s.size : Int) ≤ 24) (h : ∀ k (hk : k < s.size), nmC ((s[k]).toNat : Int)) : nameB s = true := by
  unfold nameB
  simp only [Bool.and_eq_true, decide_eq_true_eq, List.all_eq_true]
  refine ⟨⟨h1, h2⟩, ?_⟩
  intro c hc
  obtain ⟨k, hk, rfl⟩ := List.getElem_of_mem hc
  have := h k (by simpa using hk)
  simpa [ByteArray.getElem_eq_getElem_data] using this

set_option maxRecDepth 20000 in
set_option maxHeartbeats 1000000 in
theorem name_any (s : ByteArray) (w : World) (hs : s.size ≤ maxLen) : Calls Tryd.prog 27 #[.string s] w fun e w' => e = .returned (.bool (nameB s)) ∧ w = w' := by
  by_cases h1 : (s.size : Int) < 1
  · have hf : nameB s = false := by unfold nameB; rw [show decide (1 ≤ (s.size : Int)) = false by simp; omega]; simp
    have HF := Lib.hid hf
    clear hf
    go_enter Tryd.func27, Tryd.ntmps27
    go_wp2
    go_ret
    exact ⟨ret_bool HF.out.symm, rfl⟩
  · by_cases h2 : 24 < (s.size : Int)
    · have hf : nameB s = false := by unfold nameB; rw [show decide ((s.size : Int) ≤ 24) = false by simp; omega]; simp
      have HF := Lib.hid hf
      clear hf
      go_enter Tryd.func27, Tryd.ntmps27
      go_wp2
      go_ret
      exact ⟨ret_bool HF.out.symm, rfl⟩
    · go_enter Tryd.func27, Tryd.ntmps27
      go_wp2_with fail
      go_loopg [15] s.size (fun rest i wr => ∃ k : Nat, i = .int .i64 k ∧ Hid (k + rest = s.size) ∧ Hid (∀ j (hj : j < s.size), j < k → nmC ((s[j]).toNat : Int)) ∧ w = wr)
      case atStart => exact ⟨0, rfl, Lib.hid (by simp), Lib.hid (by intro j _ h; omega), rfl⟩
      case round =>
        obtain ⟨k, rfl, HK, HA, rfl⟩ := hrel
        by_cases hk : (k : Int) < (s.size : Int)
        · have hkl : k < s.size := by omega
          by_cases hc : nmC ((s[k]).toNat : Int)
          · have HA' : Hid (∀ j (hj : j < s.size), j < k + 1 → nmC ((s[j]).toNat : Int)) := Lib.hid (fun j hj hjk => by
              by_cases e : j = k
              · subst e; exact hc
              · exact HA.out j hj (by omega))
            unfold nmC at hc
            rcases hc with ⟨c1, c2⟩ | ⟨c1, c2⟩ | c1
            · go_wp2
              go_roundg (gk - 1)
              case measure => have := HK.out; omega
              case rel => exact ⟨k + 1, by go_num, Lib.hid (by have := HK.out; omega), HA', rfl⟩
            · have c3 : ¬ 97 ≤ ((s[k]).toNat : Int) := by omega
              go_wp2
              go_roundg (gk - 1)
              case measure => have := HK.out; omega
              case rel => exact ⟨k + 1, by go_num, Lib.hid (by have := HK.out; omega), HA', rfl⟩
            · have c3 : ¬ 97 ≤ ((s[k]).toNat : Int) := by omega
              have c4 : ¬ 48 ≤ ((s[k]).toNat : Int) := by omega
              go_wp2
              go_roundg (gk - 1)
              case measure => have := HK.out; omega
              case rel => exact ⟨k + 1, by go_num, Lib.hid (by have := HK.out; omega), HA', rfl⟩
          · have HF := Lib.hid (nameB_false hkl hc)
            unfold nmC at hc
            have n1 : ¬ (97 ≤ ((s[k]).toNat : Int) ∧ ((s[k]).toNat : Int) ≤ 122) := fun h => hc (.inl h)
            have n2 : ¬ (48 ≤ ((s[k]).toNat : Int) ∧ ((s[k]).toNat : Int) ≤ 57) := fun h => hc (.inr (.inl h))
            have n3 : ¬ ((s[k]).toNat : Int) = 45 := fun h => hc (.inr (.inr h))
            have n4 : ¬ (s[k]).toNat = 45 := fun h => n3 (by rw [h]; rfl)
            have n5 : (((s[k]).toNat : Int) == 45) = false := by simpa using n3
            clear hc
            by_cases c1 : 97 ≤ ((s[k]).toNat : Int)
            · have c2 : ¬ ((s[k]).toNat : Int) ≤ 122 := fun h => n1 ⟨c1, h⟩
              have c3 : 48 ≤ ((s[k]).toNat : Int) := by omega
              have c4 : ¬ ((s[k]).toNat : Int) ≤ 57 := by omega
              clear n1 n2
              go_wp2
              go_ret
              exact ⟨ret_bool HF.out.symm, rfl⟩
            · by_cases c3 : 48 ≤ ((s[k]).toNat : Int)
              · have c4 : ¬ ((s[k]).toNat : Int) ≤ 57 := fun h => n2 ⟨c3, h⟩
                clear n1 n2
                go_wp2
                go_ret
                exact ⟨ret_bool HF.out.symm, rfl⟩
              · clear n1 n2
                go_wp2
                go_ret
                exact ⟨ret_bool HF.out.symm, rfl⟩
        · have HF := Lib.hid (nameB_true (by omega) (by omega) (fun j hj => HA.out j hj (by omega)))
          go_wp2
          go_ret
          exact ⟨ret_bool HF.out.symm, rfl⟩
theorem name_a (w : World) : Calls Tryd.prog 27 #[.string ⟨#[97]⟩] w fun e w' => e = .returned (.bool true) ∧ w = w' := by
  have h : nameB ⟨#[97]⟩ = true := by decide
  have := name_any ⟨#[97]⟩ w (by decide)
  rw [h] at this
  exact this
end Go.Proofs.YtaollcpoibgblaaDoor
