/- The walk of the statement WindowHolds. -/
import Derived.Test.YtcaglkefhbbnbaaWinH
import Derived.Test.YtcaglkefhbbnbaaKitC
namespace Go.Proofs.Ytcaglkefhbbnbaa
open Go.ChangeShapes Go.WideShapes Go.ChangeAt Go.RowKit
set_option linter.unusedVariables false
set_option linter.unusedSimpArgs false
attribute [local go_sem ↓] Go.wp_at_zero Go.wp_at_succ

theorem held_keep {b bx o : Nat} {s h y : Int} {w0 W w1 : World} (hb : Below W.heap.size W w1) (hlt : b < w0.heap.size) (hlx : bx < w0.heap.size)
    (hS : W.cell? ⟨b, 0, none⟩ = some (.int .i64 s) ∧ W.cell? ⟨b, 1, none⟩ = some (.int .i64 h) ∧ W.cell? ⟨bx, o, none⟩ = some (.int .i64 y) ∧ Below w0.heap.size w0 W) :
    w1.cell? ⟨b, 0, none⟩ = some (.int .i64 s) ∧ w1.cell? ⟨b, 1, none⟩ = some (.int .i64 h) ∧ w1.cell? ⟨bx, o, none⟩ = some (.int .i64 y) ∧ Below w0.heap.size w0 w1 := by
  have := hS.2.2.2.size
  exact ⟨(hb.cell (by simp; omega)).trans hS.1, (hb.cell (by simp; omega)).trans hS.2.1, (hb.cell (by simp; omega)).trans hS.2.2.1, hS.2.2.2.trans (hb.mono (by omega))⟩

set_option maxHeartbeats 2000000 in
set_option maxRecDepth 20000 in
theorem holds_main (s h at_ : Int) (w : World) (hm : mayB s h 1 = true) (h0 : 0 ≤ at_) (h1 : at_ ≤ 1099511627776) :
    Calls Try.prog 4 #[.agg #[.int .i64 s, .int .i64 h], .int .i64 at_] w fun e w' => e = .returned (.bool true) ∧ Below w.heap.size w w' := by
  have hbd := may_bd hm
  have F := holdsL_facts s h at_ hm h0 h1
  have C := Lib.hid (fun w => holds_any s h at_ w)
  generalize holdsL s h at_ = l at C F
  have hlen : ¬ (4096 < (l.length : Int)) := by have := F.len; omega
  have hne : (!((l.length : Int) == 0) == decide (at_.tmod h < IntKind.i64.wrap (h - s))) = false := by
    rw [IntWalk.i64_in (h - s) (by omega), IntWalk.rem_in at_ h h0, ← F.empty, int_beq]; simp
  have m0 := Int.emod_nonneg at_ (by omega : h ≠ 0)
  have m1 := Int.emod_lt_of_pos at_ (by omega : 0 < h)
  go_enter Try.func4, Try.ntmps4
  go_wp2_with (first
    | (go_at_call 17; refine (C.out _).mono ?_; rintro e w1 ⟨A, c, rfl, hown, hb1⟩; obtain ⟨hc1, hf1⟩ := bcell hb1)
    | (go_at_call 12; refine (rmay_any _ _ _ _).mono ?_; rintro e w2 ⟨rfl, hb2⟩; obtain ⟨hc2, hf2⟩ := bcell hb2; have hz1 : w.heap.size < w1.heap.size := (by have := hb1.size; simp at this; omega)))
  have hh0 : ¬ h = 0 := by omega
  go_quiet (fail)
  have hown2 : Reads (w2.drewN nq) w2.heap.size 1 A l.length (l.map (Value.int .i64)) := ((Reads.of_own hown).below hb2).more hb2.size
  have hS0 : (w2.drewN nq).cell? ⟨w.heap.size, 0, none⟩ = some (.int .i64 s) ∧ (w2.drewN nq).cell? ⟨w.heap.size, 1, none⟩ = some (.int .i64 h) ∧ Below w.heap.size w (w2.drewN nq) := by
    refine ⟨?_, ?_, below_drewN ((((Below.refl _ _).alloc (Nat.le_refl _) _).trans (hb1.mono (by simp))).trans (hb2.mono (by omega))) nq⟩
    · exact (hc2 _ _ hz1).trans ((hc1 _ _ (by simp)).trans (by simp))
    · exact (hc2 _ _ hz1).trans ((hc1 _ _ (by simp)).trans (by simp))
  have hz2 : w.heap.size < w2.heap.size := by have := hb2.size; omega
  have hsz : (w2.drewN nq).heap.size = w2.heap.size := rfl
  rw [← hsz] at hown2 hz2
  clear hc1 hf1 hc2 hf2 hb1 hb2 hown hsz hz1
  generalize w2.drewN nq = W0 at *
  go_wp2_with fail
  clear hne
  have hF := Lib.hid F
  clear F
  go_loopg [51] l.length (fun r i wr => ∃ k : Nat, i = .int .i64 k ∧ Hid (k + r = l.length) ∧ Below W0.heap.size W0 wr)
  case atStart => exact ⟨0, rfl, Lib.hid (by simp), Below.refl _ _⟩
  case round =>
    obtain ⟨k, rfl, HK, hb⟩ := hrel
    have hS : wr.cell? ⟨w.heap.size, 0, none⟩ = some (.int .i64 s) ∧ wr.cell? ⟨w.heap.size, 1, none⟩ = some (.int .i64 h) ∧ Below w.heap.size w wr :=
      ⟨(hb.cell hz2).trans hS0.1, (hb.cell hz2).trans hS0.2.1, hS0.2.2.trans (hb.mono (by omega))⟩
    obtain ⟨hs0, hs1, hbw⟩ := hS
    by_cases hk : (k : Int) < l.length
    · have hkl : k < l.length := by omega
      obtain ⟨bx, ox, rfl, hbx, hcx⟩ := (hown2.below hb).one hkl
      have e1 := hF.out.isEnd k hkl
      have e2 := hF.out.held k hkl
      have e3 := hF.out.bd k hkl
      cases k with
      | succ j =>
        obtain ⟨by_, oy, heq, _, hcy⟩ := ((hown2.below hb).one (show j < l.length by omega))
        have heq' : bx = by_ ∧ ox = oy := by simpa using heq
        obtain ⟨rfl, rfl⟩ := heq'
        clear heq
        have hst := hF.out.step j (by omega)
        have e4 := hF.out.bd j (by omega)
        generalize l[j + 1] = x at *
        generalize l[j] = y at *
        have hx1 : (x != IntKind.i64.wrap (y + h)) = false := by rw [IntWalk.i64_in _ (by omega)]; simp [hst]
        have hj1 : (0 : Int) ≤ (j : Int) := by omega
        have hj2 : (j : Int) < (l.length : Int) := by omega
        have hlb := hF.out.len
        have hw1 : IntKind.i64.wrap (j : Int) = (j : Int) := IntWalk.i64_in _ (by omega)
        have HST := Lib.hid hst
        clear hst
        have hkpos : (0 : Int) < (j : Int) + 1 := by omega
        go_wp2_with fail
        go_region_held3 (fun W => W.cell? ⟨w.heap.size, 0, none⟩ = some (.int .i64 s) ∧ W.cell? ⟨w.heap.size, 1, none⟩ = some (.int .i64 h) ∧ W.cell? ⟨bx, ox + j, none⟩ = some (.int .i64 y) ∧ Below W0.heap.size W0 W)
          (first | exact ⟨by assumption, by assumption, by assumption, hb.drew⟩ | exact held_keep (by assumption) (by omega) hbx (by assumption))
          (first
            | (go_at_call 18; refine (rend_any _ _ _ (by omega) (by omega) _).mono ?_; rintro e w3 ⟨rfl, hb3⟩)
            | (go_at_call 19; refine (rholds_any _ _ _ _ (by omega) (by omega) (by omega) (by omega) _).mono ?_; rintro e w4 ⟨rfl, hb4⟩))
        go_wp2
        go_roundg (gk - 1)
        case measure => have := HK.out; omega
        case rel =>
          rename_i hS
          exact ⟨j + 1 + 1, by go_num, Lib.hid (by have := HK.out; omega), hS.2.2.2⟩
      | zero =>
        generalize l[0] = x at *
        rw [Nat.add_zero] at hcx
        have hlb := hF.out.len
        have hz : ((0 : Nat) : Int) = 0 := rfl
        rw [hz]
        clear hz
        go_wp2_with fail
        refine heldStart 27 (S := fun W => W.cell? ⟨w.heap.size, 0, none⟩ = some (.int .i64 s) ∧ W.cell? ⟨w.heap.size, 1, none⟩ = some (.int .i64 h) ∧ W.cell? ⟨bx, ox, none⟩ = some (.int .i64 x) ∧ Below W0.heap.size W0 W) (by kernel_rfl) ?_ (fun hHeld => ?_)
        · first | exact ⟨by assumption, by assumption, by assumption, hb.drew⟩ | exact held_keep (by assumption) (by omega) hbx (by assumption)
        refine heldTake 0 (v := ?_) (by simp only [List.getElem?_toArray, List.getElem?_cons_succ, List.getElem?_cons_zero]; rfl) (by kernel_rfl) (by intro _ _ _ h; exact h) (by rfl) (by assumption) ?_ ?_
        rotate_left
        · intro W hSw; (try dsimp only at hSw); go_simp; try with_reducible rfl
        simp only [Act.put, List.setIfInBounds_toArray, List.set_cons_zero, List.set_cons_succ]
        refine heldTake 1 (v := ?_) (by simp only [List.getElem?_toArray, List.getElem?_cons_succ, List.getElem?_cons_zero]; rfl) (by kernel_rfl) (by intro _ _ _ h; exact h) (by rfl) (by assumption) ?_ ?_
        rotate_left
        · intro W hSw; (try dsimp only at hSw); go_simp; try with_reducible rfl
        simp only [Act.put, List.setIfInBounds_toArray, List.set_cons_zero, List.set_cons_succ]
        refine heldCall 2 (by simp only [List.getElem?_toArray, List.getElem?_cons_succ, List.getElem?_cons_zero]; rfl) (by kernel_rfl) (fun K hK => ?_)
        go_simp
        refine (rend_any _ _ _ (by omega) (by omega) _).mono ?_
        rintro e w3 ⟨rfl, hb3⟩
        go_wp2_with fail
        refine hK.out _ _ ?_ (fun hHeld => ?_)
        · first | exact ⟨by assumption, by assumption, by assumption, hb.drew⟩ | exact held_keep (by assumption) (by omega) hbx (by assumption)
        clear hK K
        (try simp only [Act.put, List.setIfInBounds_toArray, List.set_cons_zero, List.set_cons_succ])
        refine heldTake 3 (v := ?_) (by simp only [List.getElem?_toArray, List.getElem?_cons_succ, List.getElem?_cons_zero]; rfl) (by kernel_rfl) (by intro _ _ _ h; exact h) (by rfl) (by assumption) ?_ ?_
        rotate_left
        · intro W hSw; (try dsimp only at hSw); go_simp; try with_reducible rfl
        simp only [Act.put, List.setIfInBounds_toArray, List.set_cons_zero, List.set_cons_succ]
        refine heldTake 4 (v := ?_) (by simp only [List.getElem?_toArray, List.getElem?_cons_succ, List.getElem?_cons_zero]; rfl) (by kernel_rfl) (by intro _ _ _ h; exact h) (by rfl) (by assumption) ?_ ?_
        rotate_left
        · intro W hSw; (try dsimp only at hSw); go_simp; try with_reducible rfl
        simp only [Act.put, List.setIfInBounds_toArray, List.set_cons_zero, List.set_cons_succ]
        refine heldTake 5 (v := ?_) (by simp only [List.getElem?_toArray, List.getElem?_cons_succ, List.getElem?_cons_zero]; rfl) (by kernel_rfl) (by intro _ _ _ h; exact h) (by rfl) (by assumption) ?_ ?_
        rotate_left
        · intro W hSw; (try dsimp only at hSw); go_simp; try with_reducible rfl
        simp only [Act.put, List.setIfInBounds_toArray, List.set_cons_zero, List.set_cons_succ]
        refine heldTake 6 (v := ?_) (by simp only [List.getElem?_toArray, List.getElem?_cons_succ, List.getElem?_cons_zero]; rfl) (by kernel_rfl) (by intro _ _ _ h; exact h) (by rfl) (by assumption) ?_ ?_
        rotate_left
        · intro W hSw; (try dsimp only at hSw); go_simp; try with_reducible rfl
        simp only [Act.put, List.setIfInBounds_toArray, List.set_cons_zero, List.set_cons_succ]
        refine heldTake 7 (v := ?_) (by simp only [List.getElem?_toArray, List.getElem?_cons_succ, List.getElem?_cons_zero]; rfl) (by kernel_rfl) (by intro _ _ _ h; exact h) (by rfl) (by assumption) ?_ ?_
        rotate_left
        · intro W hSw; (try dsimp only at hSw); go_simp; try with_reducible rfl
        simp only [Act.put, List.setIfInBounds_toArray, List.set_cons_zero, List.set_cons_succ]
        refine heldCall 8 (by simp only [List.getElem?_toArray, List.getElem?_cons_succ, List.getElem?_cons_zero]; rfl) (by kernel_rfl) (fun K hK => ?_)
        go_simp
        refine (rholds_any _ _ _ _ (by omega) (by omega) (by omega) (by omega) _).mono ?_
        rintro e w4 ⟨rfl, hb4⟩
        go_wp2_with fail
        refine hK.out _ _ ?_ (fun hHeld => ?_)
        · first | exact ⟨by assumption, by assumption, by assumption, hb.drew⟩ | exact held_keep (by assumption) (by omega) hbx (by assumption)
        clear hK K
        (try simp only [Act.put, List.setIfInBounds_toArray, List.set_cons_zero, List.set_cons_succ])
        refine heldTake 9 (v := ?_) (by simp only [List.getElem?_toArray, List.getElem?_cons_succ, List.getElem?_cons_zero]; rfl) (by kernel_rfl) (by intro _ _ _ h; exact h) (by rfl) (by assumption) ?_ ?_
        rotate_left
        · intro W hSw; (try dsimp only at hSw); go_simp; try with_reducible rfl
        simp only [Act.put, List.setIfInBounds_toArray, List.set_cons_zero, List.set_cons_succ]
        refine heldTake 10 (v := ?_) (by simp only [List.getElem?_toArray, List.getElem?_cons_succ, List.getElem?_cons_zero]; rfl) (by kernel_rfl) (by intro _ _ _ h; exact h) (by rfl) (by assumption) ?_ ?_
        rotate_left
        · intro W hSw; (try dsimp only at hSw); go_simp; try with_reducible rfl
        simp only [Act.put, List.setIfInBounds_toArray, List.set_cons_zero, List.set_cons_succ]
        refine heldTake 11 (v := ?_) (by simp only [List.getElem?_toArray, List.getElem?_cons_succ, List.getElem?_cons_zero]; rfl) (by kernel_rfl) (by intro _ _ _ h; exact h) (by rfl) (by assumption) ?_ ?_
        rotate_left
        · intro W hSw; (try dsimp only at hSw); go_simp; try with_reducible rfl
        simp only [Act.put, List.setIfInBounds_toArray, List.set_cons_zero, List.set_cons_succ]
        refine heldTake 12 (v := ?_) (by simp only [List.getElem?_toArray, List.getElem?_cons_succ, List.getElem?_cons_zero]; rfl) (by kernel_rfl) (by intro _ _ _ h; exact h) (by rfl) (by assumption) ?_ ?_
        rotate_left
        · intro W hSw; (try dsimp only at hSw); go_simp; try with_reducible rfl
        simp only [Act.put, List.setIfInBounds_toArray, List.set_cons_zero, List.set_cons_succ]
        refine heldTake 13 (v := ?_) (by simp only [List.getElem?_toArray, List.getElem?_cons_succ, List.getElem?_cons_zero]; rfl) (by kernel_rfl) (by intro _ _ _ h; exact h) (by rfl) (by assumption) ?_ ?_
        rotate_left
        · intro W hSw; (try dsimp only at hSw); go_simp; try with_reducible rfl
        simp only [Act.put, List.setIfInBounds_toArray, List.set_cons_zero, List.set_cons_succ]
        refine heldTake 14 (v := ?_) (by simp only [List.getElem?_toArray, List.getElem?_cons_succ, List.getElem?_cons_zero]; rfl) (by kernel_rfl) (by intro _ _ _ h; exact h) (by rfl) (by assumption) ?_ ?_
        rotate_left
        · intro W hSw; (try dsimp only at hSw); go_simp; try with_reducible rfl
        simp only [Act.put, List.setIfInBounds_toArray, List.set_cons_zero, List.set_cons_succ]
        refine heldSkip 15 (by simp only [List.getElem?_toArray, List.getElem?_cons_succ, List.getElem?_cons_zero]; rfl) (by kernel_rfl) (by intro _ _ _ h; exact h) (by rfl) (by assumption) ?_
        simp only [Act.put, List.setIfInBounds_toArray, List.set_cons_zero, List.set_cons_succ]
        refine heldSkip 16 (by simp only [List.getElem?_toArray, List.getElem?_cons_succ, List.getElem?_cons_zero]; rfl) (by kernel_rfl) (by intro _ _ _ h; exact h) (by rfl) (by assumption) ?_
        simp only [Act.put, List.setIfInBounds_toArray, List.set_cons_zero, List.set_cons_succ]
        refine heldSkip 17 (by simp only [List.getElem?_toArray, List.getElem?_cons_succ, List.getElem?_cons_zero]; rfl) (by kernel_rfl) (by intro _ _ _ h; exact h) (by rfl) (by assumption) ?_
        simp only [Act.put, List.setIfInBounds_toArray, List.set_cons_zero, List.set_cons_succ]
        refine heldSkip 18 (by simp only [List.getElem?_toArray, List.getElem?_cons_succ, List.getElem?_cons_zero]; rfl) (by kernel_rfl) (by intro _ _ _ h; exact h) (by rfl) (by assumption) ?_
        simp only [Act.put, List.setIfInBounds_toArray, List.set_cons_zero, List.set_cons_succ]
        refine heldSkip 19 (by simp only [List.getElem?_toArray, List.getElem?_cons_succ, List.getElem?_cons_zero]; rfl) (by kernel_rfl) (by intro _ _ _ h; exact h) (by rfl) (by assumption) ?_
        simp only [Act.put, List.setIfInBounds_toArray, List.set_cons_zero, List.set_cons_succ]
        refine heldSkip 20 (by simp only [List.getElem?_toArray, List.getElem?_cons_succ, List.getElem?_cons_zero]; rfl) (by kernel_rfl) (by intro _ _ _ h; exact h) (by rfl) (by assumption) ?_
        simp only [Act.put, List.setIfInBounds_toArray, List.set_cons_zero, List.set_cons_succ]
        refine heldSkip 21 (by simp only [List.getElem?_toArray, List.getElem?_cons_succ, List.getElem?_cons_zero]; rfl) (by kernel_rfl) (by intro _ _ _ h; exact h) (by rfl) (by assumption) ?_
        simp only [Act.put, List.setIfInBounds_toArray, List.set_cons_zero, List.set_cons_succ]
        refine heldSkip 22 (by simp only [List.getElem?_toArray, List.getElem?_cons_succ, List.getElem?_cons_zero]; rfl) (by kernel_rfl) (by intro _ _ _ h; exact h) (by rfl) (by assumption) ?_
        simp only [Act.put, List.setIfInBounds_toArray, List.set_cons_zero, List.set_cons_succ]
        refine heldSkip 23 (by simp only [List.getElem?_toArray, List.getElem?_cons_succ, List.getElem?_cons_zero]; rfl) (by kernel_rfl) (by intro _ _ _ h; exact h) (by rfl) (by assumption) ?_
        simp only [Act.put, List.setIfInBounds_toArray, List.set_cons_zero, List.set_cons_succ]
        refine heldSkip 24 (by simp only [List.getElem?_toArray, List.getElem?_cons_succ, List.getElem?_cons_zero]; rfl) (by kernel_rfl) (by intro _ _ _ h; exact h) (by rfl) (by assumption) ?_
        simp only [Act.put, List.setIfInBounds_toArray, List.set_cons_zero, List.set_cons_succ]
        refine heldTake 25 (v := ?_) (by simp only [List.getElem?_toArray, List.getElem?_cons_succ, List.getElem?_cons_zero]; rfl) (by kernel_rfl) (by intro _ _ _ h; exact h) (by rfl) (by assumption) ?_ ?_
        rotate_left
        · intro W hSw; (try dsimp only at hSw); go_simp; try with_reducible rfl
        simp only [Act.put, List.setIfInBounds_toArray, List.set_cons_zero, List.set_cons_succ]
        refine heldTake 26 (v := ?_) (by simp only [List.getElem?_toArray, List.getElem?_cons_succ, List.getElem?_cons_zero]; rfl) (by kernel_rfl) (by intro _ _ _ h; exact h) (by rfl) (by assumption) ?_ ?_
        rotate_left
        · intro W hSw; (try dsimp only at hSw); go_simp; try with_reducible rfl
        simp only [Act.put, List.setIfInBounds_toArray, List.set_cons_zero, List.set_cons_succ]
        refine heldDone (by kernel_rfl) ?_ _
        go_wp2
        go_roundg (gk - 1)
        case measure => have := HK.out; omega
        case rel => exact ⟨1, rfl, Lib.hid (by have := HK.out; omega), hHeld.2.2.2⟩
    · by_cases hl0 : l.length = 0
      · have hl1 : ((l.length : Int) == 0) = true := by simp [hl0]
        have HL0 := Lib.hid hl0
        clear hl0
        go_wp2_with (go_at_call 16; refine (awake_any _).mono ?_; rintro e w6 ⟨rfl, hb6⟩)
        go_ret
        exact ⟨rfl, hbw.trans (hb6.mono hbw.size)⟩
      · have hl1 : ((l.length : Int) == 0) = false := by simp [hl0]
        have hl2 : 0 < l.length := by omega
        obtain ⟨bx, ox, rfl, hbx, hcx⟩ := (hown2.below hb).one hl2
        obtain ⟨by_, oy, heq, _, hcy⟩ := ((hown2.below hb).one (show l.length - 1 < l.length by omega))
        have heq' : bx = by_ ∧ ox = oy := by simpa using heq
        obtain ⟨rfl, rfl⟩ := heq'
        clear heq
        have e1 := hF.out.first hl2
        have e2 := hF.out.last hl2
        have b1 := hF.out.bd 0 hl2
        have b2 := hF.out.bd (l.length - 1) (by omega)
        have hlb := hF.out.len
        generalize l[0] = x at *
        generalize l[l.length - 1] = y at *
        rw [Nat.add_zero] at hcx
        have hj1 : (0 : Int) ≤ (l.length : Int) - 1 := by omega
        have hj2 : (l.length : Int) - 1 < (l.length : Int) := by omega
        have hj3 : ((l.length : Int) - 1).toNat = l.length - 1 := by omega
        have hw1 : IntKind.i64.wrap ((l.length : Int) - 1) = (l.length : Int) - 1 := IntWalk.i64_in _ (by omega)
        have hw2 : IntKind.i64.wrap (x - h) = x - h := IntWalk.i64_in _ (by omega)
        have hw3 : IntKind.i64.wrap (y + h) = y + h := IntWalk.i64_in _ (by omega)
        have hl3 : (0 : Int) < (l.length : Int) := by omega
        clear hl0
        go_wp2_with fail
        go_quiet (fail)
        generalize hfx : x - h = fx at *
        generalize hly : y + h = ly at *
        have hs0' : (wr.drewN nq).cell? ⟨w.heap.size, 0, none⟩ = some (.int .i64 s) := hs0
        have hs1' : (wr.drewN nq).cell? ⟨w.heap.size, 1, none⟩ = some (.int .i64 h) := hs1
        have hbw' : Below w.heap.size w (wr.drewN nq) := below_drewN hbw nq
        have hz3 : w.heap.size < (wr.drewN nq).heap.size := (by have := hb.size; show w.heap.size < wr.heap.size; omega)
        generalize wr.drewN nq = W3 at *
        have bfx : -1099511627776 ≤ fx ∧ fx ≤ 2199023255552 := by omega
        have bly : 1 ≤ ly ∧ ly ≤ 3298534883328 := by omega
        clear hfx hly hw1 hw2 hw3
        go_wp2_with fail
        refine (rholds_any _ _ _ _ (by omega) (by omega) (by omega) (by omega) _).mono ?_
        rintro e w4 ⟨rfl, hb4⟩
        have hs0'' : w4.cell? ⟨w.heap.size, 0, none⟩ = some (.int .i64 s) := (hb4.cell hz3).trans hs0'
        have hs1'' : w4.cell? ⟨w.heap.size, 1, none⟩ = some (.int .i64 h) := (hb4.cell hz3).trans hs1'
        go_wp2_with fail
        refine (rholds_any _ _ _ _ (by omega) (by omega) (by omega) (by omega) _).mono ?_
        rintro e w5 ⟨rfl, hb5⟩
        go_wp2_with fail
        refine (awake_any _).mono ?_
        rintro e w6 ⟨rfl, hb6⟩
        go_wp2
        go_ret
        have z4 := hb4.size
        have z5 := hb5.size
        exact ⟨rfl, ((hbw'.trans (hb4.mono (by omega))).trans (hb5.mono (by omega))).trans (hb6.mono (by omega))⟩

set_option maxHeartbeats 1000000 in
theorem holds_none (s h at_ : Int) (w : World) (hn : ¬ (mayB s h 1 = true ∧ 0 ≤ at_ ∧ at_ ≤ 1099511627776)) :
    Calls Try.prog 4 #[.agg #[.int .i64 s, .int .i64 h], .int .i64 at_] w fun e w' => e = .returned (.bool true) ∧ Below w.heap.size w w' := by
  have hl : holdsL s h at_ = [] := by unfold holdsL; rw [if_neg (fun x => hn ⟨x.2.2, x.1, x.2.1⟩)]
  have c := fun w => holds_any s h at_ w
  rw [hl] at c
  have C := Lib.hid c
  clear c hl
  by_cases hm : mayB s h 1 = true
  · by_cases h0 : 0 ≤ at_
    · have h1 : ¬ at_ ≤ 1099511627776 := fun h1 => hn ⟨hm, h0, h1⟩
      clear hn
      go_enter Try.func4, Try.ntmps4
      go_wp2_with (first
        | (go_at_call 17; refine (C.out _).mono ?_; rintro e w1 ⟨A, c, rfl, hown, hb1⟩; obtain ⟨hc1, hf1⟩ := bcell hb1)
        | (go_at_call 12; refine (rmay_any _ _ _ _).mono ?_; rintro e w2 ⟨rfl, hb2⟩)
        | (go_at_call 16; refine (awake_any _).mono ?_; rintro e w3 ⟨rfl, hb3⟩))
      go_ret
      have z1 := hb1.size
      have z2 := hb2.size
      simp at z1
      exact ⟨rfl, ((((Below.refl _ _).alloc (Nat.le_refl _) _).trans (hb1.mono (by simp))).trans (hb2.mono (by omega))).trans (hb3.mono (by omega))⟩
    · clear hn
      go_enter Try.func4, Try.ntmps4
      go_wp2_with (first
        | (go_at_call 17; refine (C.out _).mono ?_; rintro e w1 ⟨A, c, rfl, hown, hb1⟩; obtain ⟨hc1, hf1⟩ := bcell hb1)
        | (go_at_call 12; refine (rmay_any _ _ _ _).mono ?_; rintro e w2 ⟨rfl, hb2⟩)
        | (go_at_call 16; refine (awake_any _).mono ?_; rintro e w3 ⟨rfl, hb3⟩))
      go_ret
      have z1 := hb1.size
      have z2 := hb2.size
      simp at z1
      exact ⟨rfl, ((((Below.refl _ _).alloc (Nat.le_refl _) _).trans (hb1.mono (by simp))).trans (hb2.mono (by omega))).trans (hb3.mono (by omega))⟩
  · have hm' : mayB s h 1 = false := by simpa using hm
    clear hn hm
    go_enter Try.func4, Try.ntmps4
    go_wp2_with (first
      | (go_at_call 17; refine (C.out _).mono ?_; rintro e w1 ⟨A, c, rfl, hown, hb1⟩; obtain ⟨hc1, hf1⟩ := bcell hb1)
      | (go_at_call 12; refine (rmay_any _ _ _ _).mono ?_; rintro e w2 ⟨rfl, hb2⟩)
      | (go_at_call 16; refine (awake_any _).mono ?_; rintro e w3 ⟨rfl, hb3⟩))
    go_ret
    have z1 := hb1.size
    have z2 := hb2.size
    simp at z1
    exact ⟨rfl, ((((Below.refl _ _).alloc (Nat.le_refl _) _).trans (hb1.mono (by simp))).trans (hb2.mono (by omega))).trans (hb3.mono (by omega))⟩

theorem holds_walk (s h at_ : Int) (w : World) :
    Calls Try.prog 4 #[.agg #[.int .i64 s, .int .i64 h], .int .i64 at_] w fun e w' => e = .returned (.bool true) ∧ Below w.heap.size w w' := by
  by_cases hn : mayB s h 1 = true ∧ 0 ≤ at_ ∧ at_ ≤ 1099511627776
  · exact holds_main s h at_ w hn.1 hn.2.1 hn.2.2
  · exact holds_none s h at_ w hn
end Go.Proofs.Ytcaglkefhbbnbaa
