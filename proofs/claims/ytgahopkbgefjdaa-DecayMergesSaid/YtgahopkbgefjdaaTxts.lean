/- Contract of the reference's Texts: are two rows of texts one? -/
import Derived.Test.YtgahopkbgefjdaaKitZ
import Derived.Test.YtgahopkbgefjdaaKitQ
import Derived.Test.YtgahopkbgefjdaaProg
namespace Go.Proofs.Ytgahopkbgefjdaa
open Go.ChangeShapes Go.WideShapes Go.ChangeAt Go.RowKit
set_option linter.unusedVariables false
set_option linter.unusedSimpArgs false

theorem lists_ne {l m : List ByteArray} (k : Nat) (h1 : k < l.length) (h2 : k < m.length) (h : l[k] ≠ m[k]) : l ≠ m := fun e => by subst e; exact h rfl
theorem lists_eq {l m : List ByteArray} (hl : l.length = m.length) (h : ∀ j (h1 : j < l.length) (h2 : j < m.length), l[j] = m[j]) : l = m := List.ext_getElem hl (fun j h1 h2 => h j h1 h2)

set_option maxHeartbeats 1000000 in
theorem texts_any (A1 A2 : Option Addr) (B1 B2 c1 c2 : Nat) (l m : List ByteArray) (w : World) (h1 : StrsAt w B1 A1 l) (h2 : StrsAt w B2 A2 m) (b1 : B1 ≤ w.heap.size) (b2 : B2 ≤ w.heap.size) (hl : (l.length : Int) ≤ 9223372036854775807) :
    Calls Try.prog 29 #[.slice A1 l.length c1, .slice A2 m.length c2] w fun e w' => e = .returned (.bool (decide (l = m))) ∧ Grew w w' := by
  by_cases hlen : l.length = m.length
  · have hlb : ((l.length : Int) != (m.length : Int)) = false := by simp [hlen]
    have HL := Lib.hid hlen
    clear hlen
    go_enter Try.func29, Try.ntmps29
    go_wp2
    go_loopg [5] l.length (fun rest i wr => ∃ k : Nat, i = .int .i64 k ∧ Hid (k + rest = l.length) ∧ Hid (∀ j (h1 : j < l.length) (h2 : j < m.length), j < k → l[j] = m[j]) ∧ Grew w wr)
    case atStart => exact ⟨0, rfl, Lib.hid (by simp), Lib.hid (by intro j _ _ h; omega), Grew.refl _⟩
    case round =>
      obtain ⟨k, rfl, HK, HA, hg⟩ := hrel
      by_cases hk : (k : Int) < (l.length : Int)
      · have hkl : k < l.length := by omega
        have hkm : k < m.length := by have := HL.out; omega
        obtain ⟨a1, o1, rfl, q1, d1, s1⟩ := (h1.below (hg.below.mono b1)).one hkl
        obtain ⟨a2, o2, rfl, q2, d2, s2⟩ := (h2.below (hg.below.mono b2)).one hkm
        have hkm' : (k : Int) < (m.length : Int) := by omega
        by_cases he : l[k] = m[k]
        · have HE := Lib.hid he
          rw [he] at d1
          have HA' : Hid (∀ j (h1 : j < l.length) (h2 : j < m.length), j < k + 1 → l[j] = m[j]) := Lib.hid (fun j h1 h2 hjk => by
            by_cases e : j = k
            · subst e; exact HE.out
            · exact HA.out j h1 h2 (by omega))
          clear he
          generalize m[k] = y at *
          clear HE
          go_wp2
          go_quiet (fail)
          go_wp2
          go_roundg (gk - 1)
          case measure => have := HK.out; omega
          case rel => exact ⟨k + 1, by go_num, Lib.hid (by have := HK.out; omega), HA', hg.drewN _⟩
        · have hfin : decide (l = m) = false := by simpa using lists_ne k hkl hkm he
          have HF := Lib.hid hfin
          have hne : (l[k].toList == m[k].toList) = false := by
            rw [str_beq]; simp [he]
          clear he hfin
          generalize l[k] = x at *
          generalize m[k] = y at *
          go_wp2
          go_quiet (fail)
          go_wp2
          go_ret
          exact ⟨ret_bool HF.out.symm, hg.drewN _⟩
      · go_wp2
        go_ret
        refine ⟨ret_bool ?_, hg⟩
        have : l = m := lists_eq HL.out (fun j h1 h2 => HA.out j h1 h2 (by omega))
        simp [this]
  · have hlb : ((l.length : Int) != (m.length : Int)) = true := by simp; omega
    have hne : decide (l = m) = false := by
      have : ¬ l = m := fun e => hlen (by rw [e])
      simpa using this
    have HN := Lib.hid hne
    clear hne hlen
    go_enter Try.func29, Try.ntmps29
    go_wp2
    go_ret
    exact ⟨ret_bool HN.out.symm, Grew.refl _⟩
end Go.Proofs.Ytgahopkbgefjdaa
