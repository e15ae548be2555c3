/- Contracts of the reference's Right and of the statements' helper fill. -/
import Derived.Test.YtcaglkefhbbnbaaLawA
namespace Go.Proofs.Ytcaglkefhbbnbaa
open Go.ChangeShapes Go.WideShapes Go.ChangeAt Go.RowKit
set_option linter.unusedVariables false
set_option linter.unusedSimpArgs false

set_option maxHeartbeats 1000000 in
theorem rright_any (key : ByteArray) (at_ n : Int) (w : World) :
    Calls Try.prog 25 #[.agg #[.string key, .int .i64 at_, .int .i64 n]] w fun e w' => e = .returned (.bool (rightB ⟨key, at_, n⟩)) ∧ Below w.heap.size w w' := by
  by_cases a1 : 1 ≤ (key.size : Int)
  · by_cases a2 : (key.size : Int) ≤ 24
    · by_cases a3 : 0 ≤ at_
      · by_cases a4 : at_ ≤ 1099511627776
        · by_cases a5 : 0 ≤ n
          · go_enter Try.func25, Try.ntmps25
            go_wp2
            go_ret
            exact ⟨ret_bool (by simp [rightB, a1, a2, a3, a4, a5]), (Below.refl _ _).alloc (by simp) _⟩
          · go_enter Try.func25, Try.ntmps25
            go_wp2
            go_ret
            exact ⟨ret_bool (by simp [rightB]; omega), (Below.refl _ _).alloc (by simp) _⟩
        · go_enter Try.func25, Try.ntmps25
          go_wp2
          go_ret
          exact ⟨ret_bool (by simp [rightB]; omega), (Below.refl _ _).alloc (by simp) _⟩
      · go_enter Try.func25, Try.ntmps25
        go_wp2
        go_ret
        exact ⟨ret_bool (by simp [rightB]; omega), (Below.refl _ _).alloc (by simp) _⟩
    · go_enter Try.func25, Try.ntmps25
      go_wp2
      go_ret
      exact ⟨ret_bool (by simp [rightB]; omega), (Below.refl _ _).alloc (by simp) _⟩
  · go_enter Try.func25, Try.ntmps25
    go_wp2
    go_ret
    exact ⟨ret_bool (by simp [rightB]; omega), (Below.refl _ _).alloc (by simp) _⟩
theorem addB_right (a : AddD) (cnt : Nat) (h : cnt < 1048576) : addB a.key a.at_ a.n cnt = rightB a := by
  unfold addB rightB
  rw [decide_eq_true (show (cnt : Int) < 1048576 by omega), Bool.and_true]

theorem cells3_keep {W0 W' : World} {G : Nat → Prop} (hk : Keeps G W0 W') {B : Nat} {u0 u1 u2 : Value} (gb : ¬ G B) (hB : B < W0.heap.size)
    (b0 : W0.cell? ⟨B, 0, none⟩ = some u0) (b1 : W0.cell? ⟨B, 1, none⟩ = some u1) (b2 : W0.cell? ⟨B, 2, none⟩ = some u2) :
    W'.cell? ⟨B, 0, none⟩ = some u0 ∧ W'.cell? ⟨B, 1, none⟩ = some u1 ∧ W'.cell? ⟨B, 2, none⟩ = some u2 :=
  ⟨(hk.cell hB gb).trans b0, (hk.cell hB gb).trans b1, (hk.cell hB gb).trans b2⟩

/-- What fill leaves. -/
def FillLeaves (w : World) (wd : Int) (hist : List AddD) (e : Ending) (w' : World) : Prop :=
  ∃ pb F, e = .returned (.pointer (some ⟨pb, 0, none⟩)) ∧ PaneObj w' pb F wd hist ∧ (∀ k, F k → w.heap.size ≤ k) ∧ Below w.heap.size w w'

set_option maxRecDepth 20000 in
set_option maxHeartbeats 2000000 in
theorem fill_any (width : Int) (A : Option Addr) (c : Nat) (l : List AddD) (w : World) (h : AddsAt w w.heap.size A l) (hl : l.length ≤ 60) :
    Calls Try.prog 21 #[.int .i64 width, .slice A l.length c] w (FillLeaves w (widthOf width) (l.filter rightB)) := by
  have hl' : (l.length : Int) ≤ 60 := by omega
  go_enter Try.func21, Try.ntmps21
  go_wp2_with fail
  refine (pnew_any width w).mono ?_
  rintro e w1 ⟨pb, F, rfl, hO, hF, hb1⟩
  have HF := Lib.hid hF
  clear hF
  go_wp2_with fail
  go_loopg [14] l.length (fun rest i wr => ∃ (k : Nat) (F' : Nat → Prop), i = .int .i64 k ∧ Hid (k + rest = l.length) ∧ PaneObj wr pb F' (widthOf width) ((l.take k).filter rightB) ∧ Hid (∀ j, F' j → w.heap.size ≤ j) ∧ Below w.heap.size w wr)
  case atStart => exact ⟨0, F, rfl, Lib.hid (by simp), hO, HF, hb1⟩
  case round =>
    clear hO HF
    obtain ⟨k, F', rfl, HK, hO, HF, hb⟩ := hrel
    by_cases hk : (k : Int) < (l.length : Int)
    · have hkl : k < l.length := by omega
      obtain ⟨b, o, rfl, hbl, c1, c2, c3⟩ := (h.below hb).one hkl
      have hz := hb.size
      have ht : (l.take (k + 1)).filter rightB = (l.take k).filter rightB ++ (if rightB l[k] = true then [l[k]] else []) := by
        rw [List.take_succ_eq_append_getElem hkl, List.filter_append]
        congr 1
        by_cases hr : rightB l[k] = true <;> simp [List.filter_cons, hr]
      have hcnt : ((l.take k).filter rightB).length < 1048576 := by
        have := List.length_filter_le rightB (l.take k)
        have := List.length_take_le k l
        omega
      have HT := Lib.hid ht
      have HC := Lib.hid hcnt
      clear ht hcnt
      generalize l[k] = x at *
      have hO1 : PaneObj (wr.alloc (.cells #[.string x.key, .int .i64 x.at_, .int .i64 x.n] 41)) pb F' (widthOf width) ((l.take k).filter rightB) := hO.keep ((Keeps.refl (fun _ => False) _).alloc _) (fun _ _ h => h)
      have HO := Lib.hid hO1
      have hFlt := Lib.hid hO.lt
      clear hO hO1
      go_wp2_with fail
      have d0 : (wr.alloc (.cells #[.string x.key, .int .i64 x.at_, .int .i64 x.n] 41)).cell? ⟨wr.heap.size, 0, none⟩ = some (.string x.key) := by simp
      have d1 : (wr.alloc (.cells #[.string x.key, .int .i64 x.at_, .int .i64 x.n] 41)).cell? ⟨wr.heap.size, 1, none⟩ = some (.int .i64 x.at_) := by simp
      have d2 : (wr.alloc (.cells #[.string x.key, .int .i64 x.at_, .int .i64 x.n] 41)).cell? ⟨wr.heap.size, 2, none⟩ = some (.int .i64 x.n) := by simp
      have hb5 : Below w.heap.size w (wr.alloc (.cells #[.string x.key, .int .i64 x.at_, .int .i64 x.n] 41)) := hb.alloc hz _
      have hz5 : wr.heap.size < (wr.alloc (.cells #[.string x.key, .int .i64 x.at_, .int .i64 x.n] 41)).heap.size := by simp
      clear c1 c2 c3
      generalize wr.alloc (.cells #[.string x.key, .int .i64 x.at_, .int .i64 x.n] 41) = W5 at *
      have hadd := padd_any pb F' (widthOf width) ((l.take k).filter rightB) x.key x.at_ x.n W5.drew (HO.out.keep (Keeps.refl (fun _ => False) _).drew (fun _ _ h => h))
      rw [addB_right x _ HC.out] at hadd
      have HADD := Lib.hid hadd
      clear hadd
      have hKe : Keeps F' W5 W5.drew := (Keeps.refl _ _).drew
      have hrr : (rightB x != rightB x) = false := by simp
      refine heldStart 11 (S := fun W => W.cell? ⟨wr.heap.size, 0, none⟩ = some (.string x.key) ∧ W.cell? ⟨wr.heap.size, 1, none⟩ = some (.int .i64 x.at_) ∧ W.cell? ⟨wr.heap.size, 2, none⟩ = some (.int .i64 x.n)) (by kernel_rfl) ?_ (fun hHeld => ?_)
      · exact cells3_keep (by assumption) (fun e => Nat.lt_irrefl _ (hFlt.out _ e)) hz5 d0 d1 d2
      refine heldTake 0 (v := ?_) (by simp only [List.getElem?_toArray, List.getElem?_cons_succ, List.getElem?_cons_zero]; rfl) (by kernel_rfl) (by intro _ _ _ h; exact h) (by rfl) (by assumption) ?_ ?_
      rotate_left
      · intro W hSw; (try dsimp only at hSw); go_simp; try with_reducible rfl
      simp only [Act.put, List.setIfInBounds_toArray, List.set_cons_zero, List.set_cons_succ]
      refine heldTake 1 (v := ?_) (by simp only [List.getElem?_toArray, List.getElem?_cons_succ, List.getElem?_cons_zero]; rfl) (by kernel_rfl) (by intro _ _ _ h; exact h) (by rfl) (by assumption) ?_ ?_
      rotate_left
      · intro W hSw; (try dsimp only at hSw); go_simp; try with_reducible rfl
      simp only [Act.put, List.setIfInBounds_toArray, List.set_cons_zero, List.set_cons_succ]
      refine heldTake 2 (v := ?_) (by simp only [List.getElem?_toArray, List.getElem?_cons_succ, List.getElem?_cons_zero]; rfl) (by kernel_rfl) (by intro _ _ _ h; exact h) (by rfl) (by assumption) ?_ ?_
      rotate_left
      · intro W hSw; (try dsimp only at hSw); go_simp; try with_reducible rfl
      simp only [Act.put, List.setIfInBounds_toArray, List.set_cons_zero, List.set_cons_succ]
      refine heldTake 3 (v := ?_) (by simp only [List.getElem?_toArray, List.getElem?_cons_succ, List.getElem?_cons_zero]; rfl) (by kernel_rfl) (by intro _ _ _ h; exact h) (by rfl) (by assumption) ?_ ?_
      rotate_left
      · intro W hSw; (try dsimp only at hSw); go_simp; try with_reducible rfl
      simp only [Act.put, List.setIfInBounds_toArray, List.set_cons_zero, List.set_cons_succ]
      refine heldTake 4 (v := ?_) (by simp only [List.getElem?_toArray, List.getElem?_cons_succ, List.getElem?_cons_zero]; rfl) (by kernel_rfl) (by intro _ _ _ h; exact h) (by rfl) (by assumption) ?_ ?_
      rotate_left
      · intro W hSw; (try dsimp only at hSw); go_simp; try with_reducible rfl
      simp only [Act.put, List.setIfInBounds_toArray, List.set_cons_zero, List.set_cons_succ]
      refine heldTake 5 (v := ?_) (by simp only [List.getElem?_toArray, List.getElem?_cons_succ, List.getElem?_cons_zero]; rfl) (by kernel_rfl) (by intro _ _ _ h; exact h) (by rfl) (by assumption) ?_ ?_
      rotate_left
      · intro W hSw; (try dsimp only at hSw); go_simp; try with_reducible rfl
      simp only [Act.put, List.setIfInBounds_toArray, List.set_cons_zero, List.set_cons_succ]
      refine heldTake 6 (v := ?_) (by simp only [List.getElem?_toArray, List.getElem?_cons_succ, List.getElem?_cons_zero]; rfl) (by kernel_rfl) (by intro _ _ _ h; exact h) (by rfl) (by assumption) ?_ ?_
      rotate_left
      · intro W hSw; (try dsimp only at hSw); go_simp; try with_reducible rfl
      simp only [Act.put, List.setIfInBounds_toArray, List.set_cons_zero, List.set_cons_succ]
      refine heldTake 8 (v := ?_) (by simp only [List.getElem?_toArray, List.getElem?_cons_succ, List.getElem?_cons_zero]; rfl) (by kernel_rfl) (by intro _ _ _ h; exact h) (by rfl) (by assumption) ?_ ?_
      rotate_left
      · intro W hSw; (try dsimp only at hSw); go_simp; try with_reducible rfl
      simp only [Act.put, List.setIfInBounds_toArray, List.set_cons_zero, List.set_cons_succ]
      refine heldCall 7 (by simp only [List.getElem?_toArray, List.getElem?_cons_succ, List.getElem?_cons_zero]; rfl) (by kernel_rfl) (fun K hK => ?_)
      clear hKe
      go_simp
      refine HADD.out.mono ?_
      rintro e w3 ⟨rfl, F3, hO3, hK3, hF3⟩
      have hKe : Keeps F' W5 w3 := ((Keeps.refl _ _).drew).trans hK3 (fun k _ hk => hk)
      go_wp2_with fail
      refine hK.out _ _ ?_ (fun hHeld => ?_)
      · exact cells3_keep (by assumption) (fun e => Nat.lt_irrefl _ (hFlt.out _ e)) hz5 d0 d1 d2
      clear hK K
      (try simp only [Act.put, List.setIfInBounds_toArray, List.set_cons_zero, List.set_cons_succ])
      refine heldCall 9 (by simp only [List.getElem?_toArray, List.getElem?_cons_succ, List.getElem?_cons_zero]; rfl) (by kernel_rfl) (fun K hK => ?_)
      go_simp
      refine (rright_any _ _ _ _).mono ?_
      rintro e w4 ⟨rfl, hb4⟩
      have hKe3 := hKe
      clear hKe
      have hKe : Keeps F' W5 w4 := hKe3.trans (Keeps.ofBelow hb4 (fun _ => False)) (fun _ _ h => h.elim)
      go_wp2_with fail
      refine hK.out _ _ ?_ (fun hHeld => ?_)
      · exact cells3_keep (by assumption) (fun e => Nat.lt_irrefl _ (hFlt.out _ e)) hz5 d0 d1 d2
      clear hK K
      (try simp only [Act.put, List.setIfInBounds_toArray, List.set_cons_zero, List.set_cons_succ])
      refine heldTake 10 (v := ?_) (by simp only [List.getElem?_toArray, List.getElem?_cons_succ, List.getElem?_cons_zero]; rfl) (by kernel_rfl) (by intro _ _ _ h; exact h) (by rfl) (by assumption) ?_ ?_
      rotate_left
      · intro W hSw; (try dsimp only at hSw); go_simp; try with_reducible rfl
      simp only [Act.put, List.setIfInBounds_toArray, List.set_cons_zero, List.set_cons_succ]
      refine heldDone (by kernel_rfl) ?_ _
      have hbel : Below w.heap.size w w4 := hb5.trans (hKe.toBelow (by have := hb5.size; omega) HF.out)
      have hO4 := hO3.below hb4
      have hF4 : ∀ j, F3 j → w.heap.size ≤ j := fun j hj => by
        rcases hF3 j hj with h1 | h1
        · exact HF.out j h1
        · have h2 : W5.heap.size ≤ j := h1
          have := hb5.size
          omega
      have HO4 := Lib.hid hO4
      have HF4 := Lib.hid hF4
      clear hO3 hO4 hF4 hF3 hK3 hKe hKe3 hHeld
      go_wp2
      go_roundg (gk - 1)
      case measure => have := HK.out; omega
      case rel =>
        refine ⟨k + 1, F3, by go_num, Lib.hid (by have := HK.out; omega), ?_, HF4, hbel⟩
        rw [HT.out]
        have := HO4.out
        by_cases hr : rightB x = true
        · rw [if_pos hr] at this ⊢; exact this
        · rw [if_neg hr] at this ⊢; rw [List.append_nil]; exact this
    · go_wp2
      go_ret
      have := HK.out
      rw [List.take_of_length_le (by omega)] at hO
      exact ⟨pb, F', rfl, hO, HF.out, hb⟩
end Go.Proofs.Ytcaglkefhbbnbaa
