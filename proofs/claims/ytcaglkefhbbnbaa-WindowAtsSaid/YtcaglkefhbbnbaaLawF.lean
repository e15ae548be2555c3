/- The walk of the statement WindowAts. -/
import Derived.Test.YtcaglkefhbbnbaaLawE
namespace Go.Proofs.Ytcaglkefhbbnbaa
open Go.ChangeShapes Go.WideShapes Go.ChangeAt Go.RowKit
set_option linter.unusedVariables false
set_option linter.unusedSimpArgs false

set_option maxHeartbeats 4000000 in
theorem ats_walk (width : Int) (A : Option Addr) (c : Nat) (l : List AddD) (s h : Int) (key : ByteArray) (e : Int) (w : World) (hl : AddsAt w w.heap.size A l) (hlen : (l.length : Int) ≤ 9223372036854775807) (hk : key.size ≤ maxLen) :
    Calls Try.prog 5 #[.int .i64 width, .slice A l.length c, .agg #[.int .i64 s, .int .i64 h], .string key, .int .i64 e] w fun r w' => r = .returned (.bool true) ∧ Below w.heap.size w w' := by
  have hl1 : AddsAt (w.alloc (.cells #[.int .i64 s, .int .i64 h] 23)) (w.alloc (.cells #[.int .i64 s, .int .i64 h] 23)).heap.size A l := (hl.below ((Below.refl _ _).alloc (Nat.le_refl _) _)).more (by simp)
  have HL := Lib.hid hl1
  clear hl1
  by_cases g1 : longB l = true
  · go_enter Try.func5, Try.ntmps5
    go_wp2_with fail
    refine (long_any A c l _ HL.out hlen).mono ?_
    rintro r w1 ⟨rfl, hb1⟩
    have z1 := hb1.size
    simp at z1
    go_wp2_with fail
    refine (awake_any _).mono ?_
    rintro r w2 ⟨rfl, hb2⟩
    go_wp2
    go_ret
    exact ⟨rfl, (((Below.refl _ _).alloc (Nat.le_refl _) _).trans (hb1.mono (by simp))).trans (hb2.mono (by omega))⟩
  · have g1' : longB l = false := by simpa using g1
    clear g1
    have hno := longB_no g1'
    by_cases g2 : 60 < (key.size : Int)
    · go_enter Try.func5, Try.ntmps5
      go_wp2_with fail
      refine (long_any A c l _ HL.out hlen).mono ?_
      rintro r w1 ⟨rfl, hb1⟩
      have z1 := hb1.size
      simp at z1
      go_wp2_with fail
      refine (awake_any _).mono ?_
      rintro r w2 ⟨rfl, hb2⟩
      go_wp2
      go_ret
      exact ⟨rfl, (((Below.refl _ _).alloc (Nat.le_refl _) _).trans (hb1.mono (by simp))).trans (hb2.mono (by omega))⟩
    · have hn60 := Lib.hid hno.1
      clear hno
      have heq := atV_refAt (widthOf width) l s h key e
      have HEQ := Lib.hid heq
      clear heq
      go_enter Try.func5, Try.ntmps5
      go_wp2_with fail
      refine (long_any A c l _ HL.out hlen).mono ?_
      rintro r w1 ⟨rfl, hb1⟩
      have z1 := hb1.size
      simp at z1
      go_wp2_with fail
      refine (fill_any width A c l _ ((HL.out.below hb1).more hb1.size) hn60.out).mono ?_
      rintro r w2 ⟨pb, F, rfl, hO, hF, hb2⟩
      have z2 := hb2.size
      have hl2 : AddsAt w2 w2.heap.size A l := (((HL.out.below hb1).more hb1.size).below hb2).more hb2.size
      have s0 : w2.cell? ⟨w.heap.size, 0, none⟩ = some (.int .i64 s) := (hb2.cell (by show w.heap.size < w1.heap.size; omega)).trans ((hb1.cell (by simp)).trans (by simp))
      have s1 : w2.cell? ⟨w.heap.size, 1, none⟩ = some (.int .i64 h) := (hb2.cell (by show w.heap.size < w1.heap.size; omega)).trans ((hb1.cell (by simp)).trans (by simp))
      have hz : w.heap.size < w2.heap.size := by omega
      have hpb : pb < w2.heap.size := by
        obtain ⟨bs, br, S, R, h1, h2, rfl⟩ := hO
        exact (Array.getElem?_eq_some_iff.1 h1.blk).1
      have hbw : Below w.heap.size w w2 := (((Below.refl _ _).alloc (Nat.le_refl _) _).trans (hb1.mono (by simp))).trans (hb2.mono (by omega))
      have HO := Lib.hid hO
      have HL2 := Lib.hid hl2
      clear hO hF hb1 hb2 hl2 HL z1 z2
      go_wp2_with fail
      have hKe : Below w2.heap.size w2 w2.drew := (Below.refl _ _).drew
      have hself : (refAt l s h (widthOf width) key e == refAt l s h (widthOf width) key e) = true := by simp
      refine heldStart 23 (S := fun W => W.cell? ⟨w.heap.size, 0, none⟩ = some (.int .i64 s) ∧ W.cell? ⟨w.heap.size, 1, none⟩ = some (.int .i64 h)) (by kernel_rfl) ?_ (fun hHeld => ?_)
      · exact ⟨(hKe.cell hz).trans s0, (hKe.cell hz).trans s1⟩
      refine heldTake 0 (v := ?_) (by simp only [List.getElem?_toArray, List.getElem?_cons_succ, List.getElem?_cons_zero]; rfl) (by kernel_rfl) (by intro _ _ _ h; exact h) (by rfl) (by assumption) ?_ ?_
      rotate_left
      · intro W hSw; (try dsimp only at hSw); go_simp; try with_reducible rfl
      simp only [Act.put, List.setIfInBounds_toArray, List.set_cons_zero, List.set_cons_succ]
      refine heldTake 1 (v := ?_) (by simp only [List.getElem?_toArray, List.getElem?_cons_succ, List.getElem?_cons_zero]; rfl) (by kernel_rfl) (by intro _ _ _ h; exact h) (by rfl) (by assumption) ?_ ?_
      rotate_left
      · intro W hSw; (try dsimp only at hSw); go_simp; try with_reducible rfl
      simp only [Act.put, List.setIfInBounds_toArray, List.set_cons_zero, List.set_cons_succ]
      refine heldTake 2 (v := ?_) (by simp only [List.getElem?_toArray, List.getElem?_cons_succ, List.getElem?_cons_zero]; rfl) (by kernel_rfl) (by intro _ _ _ h; exact h) (by rfl) (by assumption) ?_ ?_
      rotate_left
      · intro W hSw; (try dsimp only at hSw); go_simp; try with_reducible rfl
      simp only [Act.put, List.setIfInBounds_toArray, List.set_cons_zero, List.set_cons_succ]
      refine heldTake 3 (v := ?_) (by simp only [List.getElem?_toArray, List.getElem?_cons_succ, List.getElem?_cons_zero]; rfl) (by kernel_rfl) (by intro _ _ _ h; exact h) (by rfl) (by assumption) ?_ ?_
      rotate_left
      · intro W hSw; (try dsimp only at hSw); go_simp; try with_reducible rfl
      simp only [Act.put, List.setIfInBounds_toArray, List.set_cons_zero, List.set_cons_succ]
      refine heldTake 5 (v := ?_) (by simp only [List.getElem?_toArray, List.getElem?_cons_succ, List.getElem?_cons_zero]; rfl) (by kernel_rfl) (by intro _ _ _ h; exact h) (by rfl) (by assumption) ?_ ?_
      rotate_left
      · intro W hSw; (try dsimp only at hSw); go_simp; try with_reducible rfl
      simp only [Act.put, List.setIfInBounds_toArray, List.set_cons_zero, List.set_cons_succ]
      refine heldTake 6 (v := ?_) (by simp only [List.getElem?_toArray, List.getElem?_cons_succ, List.getElem?_cons_zero]; rfl) (by kernel_rfl) (by intro _ _ _ h; exact h) (by rfl) (by assumption) ?_ ?_
      rotate_left
      · intro W hSw; (try dsimp only at hSw); go_simp; try with_reducible rfl
      simp only [Act.put, List.setIfInBounds_toArray, List.set_cons_zero, List.set_cons_succ]
      refine heldTake 7 (v := ?_) (by simp only [List.getElem?_toArray, List.getElem?_cons_succ, List.getElem?_cons_zero]; rfl) (by kernel_rfl) (by intro _ _ _ h; exact h) (by rfl) (by assumption) ?_ ?_
      rotate_left
      · intro W hSw; (try dsimp only at hSw); go_simp; try with_reducible rfl
      simp only [Act.put, List.setIfInBounds_toArray, List.set_cons_zero, List.set_cons_succ]
      refine heldTake 9 (v := ?_) (by simp only [List.getElem?_toArray, List.getElem?_cons_succ, List.getElem?_cons_zero]; rfl) (by kernel_rfl) (by intro _ _ _ h; exact h) (by rfl) (by assumption) ?_ ?_
      rotate_left
      · intro W hSw; (try dsimp only at hSw); go_simp; try with_reducible rfl
      simp only [Act.put, List.setIfInBounds_toArray, List.set_cons_zero, List.set_cons_succ]
      refine heldTake 10 (v := ?_) (by simp only [List.getElem?_toArray, List.getElem?_cons_succ, List.getElem?_cons_zero]; rfl) (by kernel_rfl) (by intro _ _ _ h; exact h) (by rfl) (by assumption) ?_ ?_
      rotate_left
      · intro W hSw; (try dsimp only at hSw); go_simp; try with_reducible rfl
      simp only [Act.put, List.setIfInBounds_toArray, List.set_cons_zero, List.set_cons_succ]
      refine heldCall 4 (by simp only [List.getElem?_toArray, List.getElem?_cons_succ, List.getElem?_cons_zero]; rfl) (by kernel_rfl) (fun K hK => ?_)
      go_simp
      refine (wat_any pb F (widthOf width) (l.filter rightB) s h key e _ (HO.out.below hKe) hk hpb).mono ?_
      rintro r w3 ⟨rfl, hb3⟩
      rw [HEQ.out]
      have hK0 := hKe
      clear hKe
      have hKe : Below w2.heap.size w2 w3 := hK0.trans (hb3.mono hK0.size)
      clear hK0 hb3
      go_wp2_with fail
      refine hK.out _ _ ?_ (fun hHeld => ?_)
      · exact ⟨(hKe.cell hz).trans s0, (hKe.cell hz).trans s1⟩
      clear hK K
      (try simp only [Act.put, List.setIfInBounds_toArray, List.set_cons_zero, List.set_cons_succ])
      refine heldCall 8 (by simp only [List.getElem?_toArray, List.getElem?_cons_succ, List.getElem?_cons_zero]; rfl) (by kernel_rfl) (fun K hK => ?_)
      go_simp
      refine (pwidth_any pb (widthOf width) _ (HO.out.below hKe).cells).mono ?_
      rintro r w4 ⟨rfl, rfl⟩
      go_wp2_with fail
      refine hK.out _ _ ?_ (fun hHeld => ?_)
      · exact ⟨(hKe.cell hz).trans s0, (hKe.cell hz).trans s1⟩
      clear hK K
      (try simp only [Act.put, List.setIfInBounds_toArray, List.set_cons_zero, List.set_cons_succ])
      refine heldCall 11 (by simp only [List.getElem?_toArray, List.getElem?_cons_succ, List.getElem?_cons_zero]; rfl) (by kernel_rfl) (fun K hK => ?_)
      go_simp
      refine (rat_any A c l s h (widthOf width) key e _ ((HL2.out.below hKe).more hKe.size) hn60.out).mono ?_
      rintro r w5 ⟨rfl, hb5⟩
      have hK0 := hKe
      clear hKe
      have hKe : Below w2.heap.size w2 w5 := hK0.trans (hb5.mono hK0.size)
      clear hK0 hb5
      go_wp2_with fail
      refine hK.out _ _ ?_ (fun hHeld => ?_)
      · exact ⟨(hKe.cell hz).trans s0, (hKe.cell hz).trans s1⟩
      clear hK K
      (try simp only [Act.put, List.setIfInBounds_toArray, List.set_cons_zero, List.set_cons_succ])
      refine heldTake 12 (v := ?_) (by simp only [List.getElem?_toArray, List.getElem?_cons_succ, List.getElem?_cons_zero]; rfl) (by kernel_rfl) (by intro _ _ _ h; exact h) (by rfl) (by assumption) ?_ ?_
      rotate_left
      · intro W hSw; (try dsimp only at hSw); go_simp; try with_reducible rfl
      simp only [Act.put, List.setIfInBounds_toArray, List.set_cons_zero, List.set_cons_succ]
      refine heldTake 13 (v := ?_) (by simp only [List.getElem?_toArray, List.getElem?_cons_succ, List.getElem?_cons_zero]; rfl) (by kernel_rfl) (by intro _ _ _ h; exact h) (by rfl) (by assumption) ?_ ?_
      rotate_left
      · intro W hSw; (try dsimp only at hSw); go_simp; try with_reducible rfl
      simp only [Act.put, List.setIfInBounds_toArray, List.set_cons_zero, List.set_cons_succ]
      refine heldTake 14 (v := ?_) (by simp only [List.getElem?_toArray, List.getElem?_cons_succ, List.getElem?_cons_zero]; rfl) (by kernel_rfl) (by intro _ _ _ h; exact h) (by rfl) (by assumption) ?_ ?_
      rotate_left
      · intro W hSw; (try dsimp only at hSw); go_simp; try with_reducible rfl
      simp only [Act.put, List.setIfInBounds_toArray, List.set_cons_zero, List.set_cons_succ]
      refine heldTake 15 (v := ?_) (by simp only [List.getElem?_toArray, List.getElem?_cons_succ, List.getElem?_cons_zero]; rfl) (by kernel_rfl) (by intro _ _ _ h; exact h) (by rfl) (by assumption) ?_ ?_
      rotate_left
      · intro W hSw; (try dsimp only at hSw); go_simp; try with_reducible rfl
      simp only [Act.put, List.setIfInBounds_toArray, List.set_cons_zero, List.set_cons_succ]
      refine heldTake 16 (v := ?_) (by simp only [List.getElem?_toArray, List.getElem?_cons_succ, List.getElem?_cons_zero]; rfl) (by kernel_rfl) (by intro _ _ _ h; exact h) (by rfl) (by assumption) ?_ ?_
      rotate_left
      · intro W hSw; (try dsimp only at hSw); go_simp; try with_reducible rfl
      simp only [Act.put, List.setIfInBounds_toArray, List.set_cons_zero, List.set_cons_succ]
      refine heldCall 17 (by simp only [List.getElem?_toArray, List.getElem?_cons_succ, List.getElem?_cons_zero]; rfl) (by kernel_rfl) (fun K hK => ?_)
      go_simp
      refine (wat_nil s h key e _).mono ?_
      rintro r w6 ⟨rfl, hb6⟩
      have hK0 := hKe
      clear hKe
      have hKe : Below w2.heap.size w2 w6 := hK0.trans (hb6.mono hK0.size)
      clear hK0 hb6
      go_wp2_with fail
      refine hK.out _ _ ?_ (fun hHeld => ?_)
      · exact ⟨(hKe.cell hz).trans s0, (hKe.cell hz).trans s1⟩
      clear hK K
      (try simp only [Act.put, List.setIfInBounds_toArray, List.set_cons_zero, List.set_cons_succ])
      refine heldTake 18 (v := ?_) (by simp only [List.getElem?_toArray, List.getElem?_cons_succ, List.getElem?_cons_zero]; rfl) (by kernel_rfl) (by intro _ _ _ h; exact h) (by rfl) (by assumption) ?_ ?_
      rotate_left
      · intro W hSw; (try dsimp only at hSw); go_simp; try with_reducible rfl
      simp only [Act.put, List.setIfInBounds_toArray, List.set_cons_zero, List.set_cons_succ]
      refine heldTake 19 (v := ?_) (by simp only [List.getElem?_toArray, List.getElem?_cons_succ, List.getElem?_cons_zero]; rfl) (by kernel_rfl) (by intro _ _ _ h; exact h) (by rfl) (by assumption) ?_ ?_
      rotate_left
      · intro W hSw; (try dsimp only at hSw); go_simp; try with_reducible rfl
      simp only [Act.put, List.setIfInBounds_toArray, List.set_cons_zero, List.set_cons_succ]
      refine heldTake 20 (v := ?_) (by simp only [List.getElem?_toArray, List.getElem?_cons_succ, List.getElem?_cons_zero]; rfl) (by kernel_rfl) (by intro _ _ _ h; exact h) (by rfl) (by assumption) ?_ ?_
      rotate_left
      · intro W hSw; (try dsimp only at hSw); go_simp; try with_reducible rfl
      simp only [Act.put, List.setIfInBounds_toArray, List.set_cons_zero, List.set_cons_succ]
      refine heldCall 21 (by simp only [List.getElem?_toArray, List.getElem?_cons_succ, List.getElem?_cons_zero]; rfl) (by kernel_rfl) (fun K hK => ?_)
      go_simp
      refine (awake_any _).mono ?_
      rintro r w7 ⟨rfl, hb7⟩
      have hK0 := hKe
      clear hKe
      have hKe : Below w2.heap.size w2 w7 := hK0.trans (hb7.mono hK0.size)
      clear hK0 hb7
      go_wp2_with fail
      refine hK.out _ _ ?_ (fun hHeld => ?_)
      · exact ⟨(hKe.cell hz).trans s0, (hKe.cell hz).trans s1⟩
      clear hK K
      (try simp only [Act.put, List.setIfInBounds_toArray, List.set_cons_zero, List.set_cons_succ])
      refine heldTake 22 (v := ?_) (by simp only [List.getElem?_toArray, List.getElem?_cons_succ, List.getElem?_cons_zero]; rfl) (by kernel_rfl) (by intro _ _ _ h; exact h) (by rfl) (by assumption) ?_ ?_
      rotate_left
      · intro W hSw; (try dsimp only at hSw); go_simp; try with_reducible rfl
      simp only [Act.put, List.setIfInBounds_toArray, List.set_cons_zero, List.set_cons_succ]
      refine heldTake 23 (v := ?_) (by simp only [List.getElem?_toArray, List.getElem?_cons_succ, List.getElem?_cons_zero]; rfl) (by kernel_rfl) (by intro _ _ _ h; exact h) (by rfl) (by assumption) ?_ ?_
      rotate_left
      · intro W hSw; (try dsimp only at hSw); go_simp; try with_reducible rfl
      simp only [Act.put, List.setIfInBounds_toArray, List.set_cons_zero, List.set_cons_succ]
      refine heldDone (by kernel_rfl) ?_ _
      go_wp2
      go_ret
      exact ⟨rfl, hbw.trans (hKe.mono hbw.size)⟩
end Go.Proofs.Ytcaglkefhbbnbaa
