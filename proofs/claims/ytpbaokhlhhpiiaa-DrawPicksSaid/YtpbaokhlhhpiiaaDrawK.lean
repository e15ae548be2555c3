/- The walk of DrawPicks. -/
import Derived.Test.YtpbaokhlhhpiiaaDrawJ
namespace Go.Proofs.Ytpbaokhlhhpiiaa
open Go.ChangeShapes Go.WideShapes Go.ChangeAt Go.RowKit
set_option linter.unusedVariables false
set_option linter.unusedSimpArgs false

theorem int_info : (Try.prog.info? 3).map (fun i => (i.zero, i.size, i.bytes)) = some (some (.int .i64 0), 1, 8) := by kernel_rfl
theorem ints_one (l : List Int) : ∀ u ∈ l.map (Value.int .i64), u.oneCell' = true := by
  intro u hu
  obtain ⟨n, _, rfl⟩ := List.mem_map.1 hu
  rfl

theorem two_at (w : World) : Reads (w.alloc (.cells #[.int .i64 0, .int .i64 (-5)] 3)) (w.heap.size + 1) 1 (some ⟨w.heap.size, 0, none⟩) 2 ([0, -5].map (Value.int .i64)) := by
  refine ⟨rfl, fun _ => ⟨w.heap.size, 0, rfl, Nat.lt_succ_self _, fun j u hu => ?_⟩⟩
  match j, hu with
  | 0, hu => simp at hu; subst hu; simp
  | 1, hu => simp at hu; subst hu; simp
  | j + 2, hu => simp at hu

set_option maxRecDepth 20000 in
set_option maxHeartbeats 2000000 in
theorem drawPicks_walk (seed : Int) (word : ByteArray) (A : Option Addr) (c : Nat) (ws : List Int) (w : World) (hr : IntsAt w w.heap.size A ws) (hc : A = none → c = 0) (hl : (ws.length : Int) ≤ 9223372036854775807) (hw : word.size ≤ maxLen) :
    Calls Try.prog 8 #[.int .u64 seed, .string word, .slice A ws.length c] w fun e w' => e = .returned (.bool true) ∧ Below w.heap.size w w' := by
  by_cases hg : (word.size : Int) ≤ 100 ∧ (ws.length : Int) ≤ 50
  · obtain ⟨g1, g2⟩ := hg
    obtain ⟨sp1, sp2⟩ := pickV_spec seed word ws
    have q1 := fun A B c W (h : IntsAt W B A ws) hB => pick_any seed word A B c ws W h hB (by omega) hw
    have q2 := fun A B c W (h : IntsAt W B A ws) hB => rpick_any seed word A B c ws W h hB (by omega) hw (by omega)
    have q3 := fun A B c W (h : IntsAt W B A (ws ++ [0, -5])) hB => pick_any seed word A B c (ws ++ [0, -5]) W h hB (by simp; omega) hw
    rw [sp1] at q3
    have Q1 := Lib.hid q1
    have Q2 := Lib.hid q2
    have Q3 := Lib.hid q3
    clear q1 q2 q3 sp1
    generalize pickV seed word ws = p at *
    have HC := Lib.hid hc
    clear hc
    have SP : Hid (p = -1 ∨ ∃ j, ∃ h : j < ws.length, p = (j : Int) ∧ 0 < ws[j]) := Lib.hid sp2
    clear sp2
    go_enter Try.func8, Try.ntmps8
    go_wp2_with fail
    refine (lives_any _).mono ?_
    rintro e w1 ⟨rfl, hb1⟩
    have z1 := hb1.size
    go_wp2_with fail
    refine (Q1.out A w.heap.size c _ (hr.below hb1) z1).mono ?_
    rintro e w2 ⟨rfl, hb2⟩
    have z2 := hb2.size
    have hb12 := hb1.trans (hb2.mono z1)
    go_wp2_with fail
    refine (Q2.out A w.heap.size c _ (hr.below hb12) (by omega)).mono ?_
    rintro e w3 ⟨rfl, hb3⟩
    have z3 := hb3.size
    have hb13 := hb12.trans (hb3.mono (by omega))
    have hbA : Below w.heap.size w (w3.alloc (.cells #[] 3)) := hb13.alloc (by omega) _
    have hr3 := hr.below hbA
    clear hb1 hb2 hb12 hb3
    go_wp2_with (first
      | (at_builtin; refine wpList_append_many (w3.alloc (.cells #[] 3)) (by rfl) (.tmp 31) (.tmp 32) _ rfl w3.heap.size 3 (.int .i64 0) 1 8 Try.underlying39 int_info rfl (by omega) (some ⟨w3.heap.size, 0, none⟩) 0 0 [] rfl (own_empty (Nat.le_refl _) (heap_alloc_new w3 _)) A w.heap.size ws.length c (ws.map (Value.int .i64)) rfl hr3 HC.out (ints_one ws) (by unfold maxLen; omega) (by omega) (by simp) ?_; intro A4 c4 w4 hown4 hg4 hb4; simp only [Nat.zero_add, List.nil_append] at hown4)
      | (at_builtin; refine wpList_append_many (w4.alloc (.cells #[.int .i64 0, .int .i64 (-5)] 3)) (by rfl) (.tmp 33) (.tmp 34) _ rfl w3.heap.size 3 (.int .i64 0) 1 8 Try.underlying39 int_info rfl (by omega) A4 ws.length c4 _ rfl (hown4.alloc _) (some ⟨w4.heap.size, 0, none⟩) (w4.heap.size + 1) 2 2 ([0, -5].map (Value.int .i64)) rfl (two_at w4) (fun h => by cases h) (ints_one _) (by unfold maxLen; omega) (by omega) (by have := hb4.size; simp at this ⊢; omega) ?_; intro A5 c5 w5 hown5 hg5 hb5))
    have hz4 := hb4.size
    have hz5 := hb5.size
    simp at hz4 hz5
    have hr5 : IntsAt w5 w5.heap.size A5 (ws ++ [0, -5]) := by
      have := Reads.of_own hown5
      unfold IntsAt
      simpa using this
    have hb5w : Below w.heap.size w w5 := ((hbA.trans (hb4.mono (by omega))).alloc (by omega) _).trans (hb5.mono (by omega))
    have hq := Q3.out A5 w5.heap.size c5 w5 hr5 (Nat.le_refl _)
    have hlen2 : (ws ++ [(0 : Int), -5]).length = ws.length + 2 := by simp
    rw [hlen2] at hq
    clear hlen2
    have HQ := Lib.hid hq
    have hr5w := hr.below hb5w
    clear hq hr5 hown5 hg5 hb5 hown4 hg4 hb4 hr3 hbA Q1 Q2 Q3
    refine HQ.out.mono ?_
    rintro e w6 ⟨rfl, hb6⟩
    have hb6w : Below w.heap.size w w6 := hb5w.trans (hb6.mono (by omega))
    have hr6 := hr.below hb6w
    clear HQ hb6 hb5w hr5w
    rcases SP.out with hp | ⟨j, hj, hp, hpos⟩
    · subst hp
      clear SP
      go_wp2
      go_ret
      exact ⟨rfl, hb6w⟩
    · subst hp
      clear SP
      obtain ⟨b, o, rfl, hb, hcell⟩ := hr6.one hj
      have hj1 : ((j : Int) == -1) = false := by rw [beq_eq_false_iff_ne]; omega
      have hj2 : (j : Int) < (ws.length : Int) := by omega
      generalize ws[j] = x at *
      go_wp2
      go_ret
      exact ⟨rfl, hb6w⟩
  · have g2 : 100 < (word.size : Int) ∨ ((word.size : Int) ≤ 100 ∧ 50 < (ws.length : Int)) := by omega
    clear hg hc
    rcases g2 with k1 | ⟨k1, k2⟩
    all_goals
      go_enter Try.func8, Try.ntmps8
      go_wp2_with fail
      refine (lives_any _).mono ?_
      rintro e w1 ⟨rfl, hb1⟩
      go_wp2
      go_ret
      exact ⟨rfl, hb1⟩
end Go.Proofs.Ytpbaokhlhhpiiaa
