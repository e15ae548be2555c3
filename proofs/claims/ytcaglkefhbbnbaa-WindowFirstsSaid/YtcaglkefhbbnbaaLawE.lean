/- The reference's At at no end; that window.At is the recount, plainly. -/
import Derived.Test.YtcaglkefhbbnbaaLawD
namespace Go.Proofs.Ytcaglkefhbbnbaa
open Go.ChangeShapes Go.WideShapes Go.ChangeAt Go.RowKit
set_option linter.unusedVariables false
set_option linter.unusedSimpArgs false

set_option maxHeartbeats 1000000 in
theorem rat_none (A : Option Addr) (c : Nat) (l : List AddD) (s h wd : Int) (key : ByteArray) (e : Int) (w : World) (hE : isEndB s h wd e = false) :
    Calls Try.prog 23 #[.slice A l.length c, .agg #[.int .i64 s, .int .i64 h], .int .i64 wd, .string key, .int .i64 e] w fun r w' => r = .returned (.int .i64 0) ∧ Below w.heap.size w w' := by
  by_cases hm : mayB s h wd = true
  · have hbd := may_bd hm
    have hn : endB h e = false := by simpa [isEndB, hm] using hE
    clear hE
    go_enter Try.func23, Try.ntmps23
    go_wp2_with (first
      | (go_at_call 12; refine (rmay_any _ _ _ _).mono ?_; rintro e w1 ⟨rfl, hb1⟩; obtain ⟨hc1, hf1⟩ := bcell hb1; have hz1 : w.heap.size < w1.heap.size := (by have := hb1.size; simp at this; omega))
      | (go_at_call 18; refine (rend_any _ _ _ (by omega) (by omega) _).mono ?_; rintro e w2 ⟨rfl, hb2⟩))
    go_ret
    exact ⟨rfl, (((Below.refl _ _).alloc (Nat.le_refl _) _).trans (hb1.mono (by simp))).trans (hb2.mono (by omega))⟩
  · have hm' : mayB s h wd = false := by simpa using hm
    clear hm hE
    go_enter Try.func23, Try.ntmps23
    go_wp2_with (first
      | (go_at_call 12; refine (rmay_any _ _ _ _).mono ?_; rintro e w1 ⟨rfl, hb1⟩))
    go_ret
    exact ⟨rfl, ((Below.refl _ _).alloc (Nat.le_refl _) _).trans (hb1.mono (by simp))⟩

theorem rat_any (A : Option Addr) (c : Nat) (l : List AddD) (s h wd : Int) (key : ByteArray) (e : Int) (w : World) (hl : AddsAt w w.heap.size A l) (hlen : l.length ≤ 60) :
    Calls Try.prog 23 #[.slice A l.length c, .agg #[.int .i64 s, .int .i64 h], .int .i64 wd, .string key, .int .i64 e] w fun r w' => r = .returned (.int .i64 (refAt l s h wd key e)) ∧ Below w.heap.size w w' := by
  unfold refAt
  by_cases hE : isEndB s h wd e = true
  · rw [if_pos hE]; exact rat_main A c l s h wd key e w hl hlen hE
  · rw [if_neg hE]; exact rat_none A c l s h wd key e w (by simpa using hE)

theorem histTot_cons (wd : Int) (a : AddD) (l : List AddD) (key : ByteArray) (lo hi : Int) : histTot wd (a :: l) key lo hi = (if a.key = key ∧ lo ≤ a.at_ / wd ∧ a.at_ / wd < hi then a.n else 0) + histTot wd l key lo hi := by
  unfold histTot
  rw [List.filter_cons]
  by_cases h : a.key = key ∧ lo ≤ a.at_ / wd ∧ a.at_ / wd < hi
  · simp [h.1, h.2.1, h.2.2]
  · rw [if_neg h]
    have : (decide (a.key = key) && (decide (lo ≤ a.at_ / wd) && decide (a.at_ / wd < hi))) = false := by
      simp only [Bool.and_eq_false_iff, decide_eq_false_iff_not]
      by_cases x : a.key = key
      · by_cases y : lo ≤ a.at_ / wd
        · exact .inr (.inr (fun z => h ⟨x, y, z⟩))
        · exact .inr (.inl y)
      · exact .inl x
    simp [this]

/-- A window's panes hold just its ticks. -/
theorem held_iff {s h wd e : Int} (hE : isEndB s h wd e = true) (x : Int) : ((e - s) / wd ≤ x / wd ∧ x / wd < e / wd) ↔ heldB s x e = true := by
  have hb := isEndB_bd hE
  simp only [isEndB, Bool.and_eq_true] at hE
  have hm := may_bd hE.1
  have h1 := hE.1
  have h2 := hE.2
  simp [mayB, fitsB] at h1
  simp [endB] at h2
  have hs : s % wd = 0 := h1.1.1.2.2
  have hh : h % wd = 0 := h1.1.2.2
  have hdh : wd ∣ h := Int.dvd_of_emod_eq_zero hh
  have hde : wd ∣ e := Int.dvd_trans hdh (Int.dvd_of_emod_eq_zero h2.2)
  have hds : wd ∣ s := Int.dvd_of_emod_eq_zero hs
  obtain ⟨E, rfl⟩ := hde
  obtain ⟨D, rfl⟩ := hds
  have e1 : wd * E / wd = E := Int.mul_ediv_cancel_left _ (by omega)
  have e2 : (wd * E - wd * D) / wd = E - D := by rw [← Int.mul_sub]; exact Int.mul_ediv_cancel_left _ (by omega)
  rw [e1, e2, Int.le_ediv_iff_mul_le (by omega), Int.ediv_lt_iff_lt_mul (by omega)]
  simp only [heldB, Bool.and_eq_true, decide_eq_true_eq]
  have e3 : (E - D) * wd = wd * E - wd * D := by rw [Int.sub_mul, Int.mul_comm E, Int.mul_comm D]
  have e4 : E * wd = wd * E := Int.mul_comm _ _
  rw [e3, e4]
  constructor
  · rintro ⟨a, b⟩; exact ⟨b, a⟩
  · rintro ⟨a, b⟩; exact ⟨b, a⟩

theorem atV_refSum {s h wd e : Int} (hE : isEndB s h wd e = true) (key : ByteArray) : ∀ l : List AddD, histTot wd (l.filter rightB) key ((e - s) / wd) (e / wd) = refSum s key e l
  | [] => rfl
  | a :: l => by
    have ih := atV_refSum hE key l
    have hi := held_iff hE a.at_
    show _ = addN s key e a + refSum s key e l
    rw [← ih]
    unfold addN
    by_cases hr : rightB a = true
    · rw [List.filter_cons, if_pos hr, histTot_cons]
      congr 1
      by_cases hk : a.key = key
      · by_cases hh : heldB s a.at_ e = true
        · have h2 := hi.2 hh
          rw [if_pos ⟨hk, h2⟩, if_pos ⟨hr, hk, hh⟩]
        · rw [if_neg (fun h3 => hh (hi.1 h3.2)), if_neg (fun h3 => hh h3.2.2)]
      · rw [if_neg (fun h3 => hk h3.1), if_neg (fun h3 => hk h3.2.1)]
    · rw [List.filter_cons, if_neg hr, if_neg (fun h3 => hr h3.1), Int.zero_add]

theorem atV_refAt (wd : Int) (l : List AddD) (s h : Int) (key : ByteArray) (e : Int) : atV wd (l.filter rightB) s h key e = refAt l s h wd key e := by
  unfold atV refAt
  by_cases hE : isEndB s h wd e = true
  · rw [if_pos hE, if_pos hE]; exact atV_refSum hE key l
  · rw [if_neg hE, if_neg hE]
end Go.Proofs.Ytcaglkefhbbnbaa
