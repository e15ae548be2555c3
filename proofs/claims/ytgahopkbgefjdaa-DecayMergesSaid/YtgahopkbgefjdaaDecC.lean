/- Contract of (*decay.Counter).Add: what is taken is added, else nothing happens. -/
import Derived.Test.YtgahopkbgefjdaaDecB
namespace Go.Proofs.Ytgahopkbgefjdaa
open Go.ChangeShapes Go.WideShapes Go.ChangeAt Go.RowKit
set_option linter.unusedVariables false
set_option linter.unusedSimpArgs false

def daddB (key : ByteArray) (at_ n : Int) (cnt : Int) : Bool :=
  decide (1 ≤ (key.size : Int)) && decide ((key.size : Int) ≤ 24) && decide (0 ≤ at_) && decide (at_ ≤ 1099511627776) && decide (0 ≤ n) && decide (n ≤ 1048576) && decide (cnt < 1048576)

theorem DecAt.bump {w : World} {cb bs : Nat} {hf cnt : Int} {S : KeysL} {R : Nat → RowL} (h : DecAt w cb bs hf cnt S R) (x : Int) : DecAt (w.setCell ⟨cb, 1, none⟩ (.int .i64 x)) cb bs hf x S R := by
  have hk : Keeps (fun k => k = cb) w (w.setCell ⟨cb, 1, none⟩ (.int .i64 x)) := (Keeps.refl (fun k => k = cb) w).setCell (p := ⟨cb, 1, none⟩) (.inr rfl) _
  have hne := h.cb_ne
  refine ⟨?_, h.sums.keep hk (Ne.symm hne.1), fun p hp => (h.rows p hp).keep hk (hne.2 p hp), h.ne, h.apart⟩
  have hb := h.blk
  simp [World.setCell, Array.getElem?_modify, hb]

theorem dfrozen_of_blk {w : World} {g : Nat} {t : TypeId} {cs : Array Value} (h : w.heap[g]? = some (.cells cs t (0, 0))) (i : Nat) : w.frozen? ⟨g, i, none⟩ = false := by
  simp [World.frozen?, h]

def DAdd (w : World) (cb : Nat) (F : Nat → Prop) (hf cnt : Int) (hist : List AddD) (a : AddD) (b : Bool) (e : Ending) (w' : World) : Prop :=
  e = .returned (.bool b) ∧ ∃ F', DecObj w' cb F' hf (if b = true then cnt + 1 else cnt) (if b = true then hist ++ [a] else hist) ∧ Keeps F w w' ∧ (∀ k, F' k → F k ∨ w.heap.size ≤ k)

set_option maxRecDepth 20000 in
set_option maxHeartbeats 1000000 in
theorem dadd_yes (cb : Nat) (F : Nat → Prop) (hf cnt : Int) (hist : List AddD) (key : ByteArray) (at_ n : Int) (w : World) (h : DecObj w cb F hf cnt hist)
    (a1 : 1 ≤ (key.size : Int)) (a2 : (key.size : Int) ≤ 24) (a3 : 0 ≤ at_) (a4 : at_ ≤ 1099511627776) (a5 : 0 ≤ n) (a6 : n ≤ 1048576) (a7 : cnt < 1048576) :
    Calls Try.prog 14 #[.pointer (some ⟨cb, 0, none⟩), .string key, .int .i64 at_, .int .i64 n] w (DAdd w cb F hf cnt hist ⟨key, at_, n⟩ true) := by
  obtain ⟨bs, S, R, hP, hI, rfl, hh⟩ := h
  have hc := hI.cnt0
  obtain ⟨c0, c1, c2⟩ := cell_of_dec hP
  have hfz := dfrozen_of_blk hP.blk 1
  have hP1 := hP.bump (cnt + 1)
  have hK1 : Keeps (decFoot cb bs S) w (w.setCell ⟨cb, 1, none⟩ (.int .i64 (cnt + 1))) := (Keeps.refl _ _).setCell (.inr (.inl rfl)) _
  have hsz : (w.setCell ⟨cb, 1, none⟩ (.int .i64 (cnt + 1))).heap.size = w.heap.size := by simp [World.setCell]
  have HP := Lib.hid hP1
  have HZ := Lib.hid hsz
  have HI := Lib.hid hI
  clear hP1 hsz hI
  go_enter Try.func14, Try.ntmps14
  go_wp2_with fail
  refine (dput_any cb bs hf (cnt + 1) S R hist cnt key at_ n _ HP.out HI.out (by unfold maxLen; omega) a3 a4 a5 a6 a7).mono ?_
  rintro e w2 ⟨rfl, S', R', hP2, hI2, hK2, hF2⟩
  have HP2 := Lib.hid hP2
  have HI2 := Lib.hid hI2
  clear hP2 hI2
  go_wp2
  go_ret
  refine ⟨rfl, _, ⟨bs, S', R', by rw [if_pos rfl]; exact HP2.out, by rw [if_pos rfl, if_pos rfl]; exact HI2.out, rfl, hh⟩, hK1.trans hK2 (fun k _ hk => hk), fun k hk => by have := hF2 k hk; rw [HZ.out] at this; exact this⟩

set_option maxRecDepth 20000 in
set_option maxHeartbeats 1000000 in
theorem dadd_any (cb : Nat) (F0 : Nat → Prop) (hf cnt : Int) (hist : List AddD) (key : ByteArray) (at_ n : Int) (w : World) (h : DecObj w cb F0 hf cnt hist) :
    Calls Try.prog 14 #[.pointer (some ⟨cb, 0, none⟩), .string key, .int .i64 at_, .int .i64 n] w (DAdd w cb F0 hf cnt hist ⟨key, at_, n⟩ (daddB key at_ n cnt)) := by
  have hc : w.cell? ⟨cb, 1, none⟩ = some (.int .i64 cnt) := by
    obtain ⟨bs, S, R, hP, _⟩ := h
    exact (cell_of_dec hP).2.1
  by_cases hb : daddB key at_ n cnt = true
  · rw [hb]
    have hb' := hb
    simp only [daddB, Bool.and_eq_true, decide_eq_true_eq] at hb'
    exact dadd_yes cb F0 hf cnt hist key at_ n w h (by omega) (by omega) (by omega) (by omega) (by omega) (by omega) (by omega)
  · have hb2 : daddB key at_ n cnt = false := by simpa using hb
    rw [hb2]
    have fin : ∀ e, e = Ending.returned (.bool false) → DAdd w cb F0 hf cnt hist ⟨key, at_, n⟩ false e w := fun e he => ⟨he, F0, by rw [if_neg (by simp), if_neg (by simp)]; exact h, Keeps.refl _ _, fun k hk => .inl hk⟩
    have FIN := Lib.hid fin
    clear fin hb2
    unfold daddB at hb
    by_cases a1 : 1 ≤ (key.size : Int)
    · by_cases a2 : (key.size : Int) ≤ 24
      · by_cases a3 : 0 ≤ at_
        · by_cases a4 : at_ ≤ 1099511627776
          · by_cases a5 : 0 ≤ n
            · by_cases a6 : n ≤ 1048576
              · by_cases a7 : cnt < 1048576
                · exact absurd (by rw [decide_eq_true a1, decide_eq_true a2, decide_eq_true a3, decide_eq_true a4, decide_eq_true a5, decide_eq_true a6, decide_eq_true a7]; rfl) hb
                · clear hb
                  go_enter Try.func14, Try.ntmps14
                  go_wp2
                  go_ret
                  exact FIN.out _ rfl
              · clear hb
                go_enter Try.func14, Try.ntmps14
                go_wp2
                go_ret
                exact FIN.out _ rfl
            · clear hb
              go_enter Try.func14, Try.ntmps14
              go_wp2
              go_ret
              exact FIN.out _ rfl
          · clear hb
            go_enter Try.func14, Try.ntmps14
            go_wp2
            go_ret
            exact FIN.out _ rfl
        · clear hb
          go_enter Try.func14, Try.ntmps14
          go_wp2
          go_ret
          exact FIN.out _ rfl
      · clear hb
        go_enter Try.func14, Try.ntmps14
        go_wp2
        go_ret
        exact FIN.out _ rfl
    · clear hb
      go_enter Try.func14, Try.ntmps14
      go_wp2
      go_ret
      exact FIN.out _ rfl
end Go.Proofs.Ytgahopkbgefjdaa
