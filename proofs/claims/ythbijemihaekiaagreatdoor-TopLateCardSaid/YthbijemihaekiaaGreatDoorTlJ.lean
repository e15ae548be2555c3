/- Contracts of cmp.Compare at int, strings.Compare, cmp.Or at ints, event.Compare: they give numbers. -/
import Derived.Test.YthbijemihaekiaaGreatDoorTlH
import Derived.Test.YthbijemihaekiaaGreatDoorKitV
import Derived.Test.YthbijemihaekiaaGreatDoorLayM
namespace Go.Proofs.YthbijemihaekiaaGreatDoor
open Go.ChangeShapes Go.WideShapes Go.ChangeAt Go.RowKit
set_option linter.unusedVariables false
set_option linter.unusedSimpArgs false

def cmpN (x y : Int) : Int := if x < y then -1 else if y < x then 1 else 0
set_option maxHeartbeats 400000 in
theorem cmpN_any (x y : Int) (w : World) : Calls Tryz.prog 48 #[.int .i64 x, .int .i64 y] w fun e w' => e = .returned (.int .i64 (cmpN x y)) ∧ w = w' := by
  unfold cmpN
  by_cases h1 : x < y
  · rw [if_pos h1]
    go_enter Tryz.func48, Tryz.ntmps48
    go_wp2
    go_ret
    exact ⟨rfl, rfl⟩
  · rw [if_neg h1]
    by_cases h2 : y < x
    · rw [if_pos h2]
      go_enter Tryz.func48, Tryz.ntmps48
      go_wp2
      go_ret
      exact ⟨rfl, rfl⟩
    · rw [if_neg h2]
      go_enter Tryz.func48, Tryz.ntmps48
      go_wp2
      go_ret
      exact ⟨rfl, rfl⟩
def orV : List Int → Int
  | [] => 0
  | a :: l => if a = 0 then orV l else a

theorem orV_drop (l : List Int) (k : Nat) (h : ∀ j (hj : j < l.length), j < k → l[j] = 0) : orV l = orV (l.drop k) := by
  induction l generalizing k with
  | nil => simp
  | cons a l ih =>
    cases k with
    | zero => rfl
    | succ k =>
      have h0 : a = 0 := h 0 (by simp) (by omega)
      simp only [orV, h0, if_true, List.drop_succ_cons]
      exact ih k (fun j hj hjk => h (j + 1) (by simpa using hj) (by omega))

set_option maxHeartbeats 400000 in
theorem or_any (b o c : Nat) (l : List Int) (w : World) (hl : (l.length : Int) ≤ 1000000) (hc : ∀ j (hj : j < l.length), w.cell? ⟨b, o + j, none⟩ = some (.int .i64 l[j])) :
    Calls Tryz.prog 47 #[.slice (some ⟨b, o, none⟩) l.length c] w fun e w' => e = .returned (.int .i64 (orV l)) ∧ w = w' := by
  have HC := Lib.hid hc
  clear hc
  go_enter Tryz.func47, Tryz.ntmps47
  go_wp2
  go_loopg [8] l.length (fun rest i wr => ∃ k : Nat, i = .int .i64 k ∧ Hid (k + rest = l.length) ∧ Hid (∀ j (hj : j < l.length), j < k → l[j] = 0) ∧ w = wr)
  case atStart => exact ⟨0, rfl, Lib.hid (by simp), Lib.hid (by intro j _ h; omega), rfl⟩
  case round =>
    obtain ⟨k, rfl, HK, HA, rfl⟩ := hrel
    by_cases hk : (k : Int) < (l.length : Int)
    · have hkl : k < l.length := by omega
      have hcell := HC.out k hkl
      by_cases hz : l[k] = 0
      · have HZ := Lib.hid hz
        rw [hz] at hcell
        clear hz
        have HA' : Hid (∀ j (hj : j < l.length), j < k + 1 → l[j] = 0) := Lib.hid (fun j hj hjk => by
          by_cases e : j = k
          · subst e; exact HZ.out
          · exact HA.out j hj (by omega))
        go_wp2
        go_roundg (gk - 1)
        case measure => have := HK.out; omega
        case rel => exact ⟨k + 1, by go_num, Lib.hid (by have := HK.out; omega), HA', rfl⟩
      · have e : orV l = l[k] := by
          rw [orV_drop l k HA.out, List.drop_eq_getElem_cons hkl]
          simp [orV, hz]
        have E := Lib.hid e
        have hz' : (l[k] != 0) = true := by simp [hz]
        clear e hz
        generalize l[k] = x at *
        go_wp2
        go_ret
        exact ⟨ret_int E.out.symm, rfl⟩
    · go_wp2
      go_ret
      refine ⟨ret_int ?_, rfl⟩
      rw [orV_drop l k HA.out, List.drop_of_length_le (by omega)]
      rfl
theorem scmpN_any (x y : ByteArray) (w : World) : Calls Tryz.prog 49 #[.string x, .string y] w fun e w' => (∃ n, e = .returned (.int .i64 n)) ∧ w = w' :=
  (Any.strings_Compare Tryz.scmp x y w).mono fun e w' h => ⟨⟨_, h.1⟩, h.2.symm⟩
def CmpNew (w : World) (e : Ending) (w' : World) : Prop := ∃ n : Int, e = .returned (.int .i64 n) ∧ Below w.heap.size w w'
theorem or3_any (a b c : Int) (W : World) : Calls Tryz.prog 47 #[.slice (some ⟨W.heap.size, 0, none⟩) 3 3] (W.alloc (.cells #[.int .i64 a, .int .i64 b, .int .i64 c] 3)).drew fun e w' => (∃ n, e = .returned (.int .i64 n)) ∧ (W.alloc (.cells #[.int .i64 a, .int .i64 b, .int .i64 c] 3)).drew = w' := by
  refine (or_any W.heap.size 0 3 [a, b, c] (W.alloc (.cells #[.int .i64 a, .int .i64 b, .int .i64 c] 3)).drew (by simp) ?_).mono fun e w' h => ⟨⟨_, h.1⟩, h.2⟩
  intro j hj
  have e : (W.alloc (.cells #[.int .i64 a, .int .i64 b, .int .i64 c] 3)).drew.heap[W.heap.size]? = some (.cells #[.int .i64 a, .int .i64 b, .int .i64 c] 3 (0, 0)) := heap_alloc_new W _
  rw [cell_of_row _ W.heap.size (0 + j) _ _ _ e, Nat.zero_add]
  match j, hj with
  | 0, _ => rfl
  | 1, _ => rfl
  | 2, _ => rfl
set_option maxRecDepth 20000 in
set_option maxHeartbeats 2000000 in
theorem ecmp_any (x y : EvV) (w : World) : Calls Tryz.prog 33 #[evVal x, evVal y] w (CmpNew w) := by
  change Calls Tryz.prog 33 #[.agg #[.string x.src, .int .i64 x.num, .int .i64 x.at_, .int .i64 x.kind, .string x.person, .string x.item, .int .i64 x.value, .string x.text], .agg #[.string y.src, .int .i64 y.num, .int .i64 y.at_, .int .i64 y.kind, .string y.person, .string y.item, .int .i64 y.value, .string y.text]] w (CmpNew w)
  obtain ⟨W1, hW1⟩ : ∃ W1, W1 = (w.alloc (.cells #[.string x.src, .int .i64 x.num, .int .i64 x.at_, .int .i64 x.kind, .string x.person, .string x.item, .int .i64 x.value, .string x.text] 41)).alloc (.cells #[.string y.src, .int .i64 y.num, .int .i64 y.at_, .int .i64 y.kind, .string y.person, .string y.item, .int .i64 y.value, .string y.text] 41) := ⟨_, rfl⟩
  obtain ⟨h2, h1, hB, hz⟩ := alloc2N w (.cells #[.string x.src, .int .i64 x.num, .int .i64 x.at_, .int .i64 x.kind, .string x.person, .string x.item, .int .i64 x.value, .string x.text] 41) (.cells #[.string y.src, .int .i64 y.num, .int .i64 y.at_, .int .i64 y.kind, .string y.person, .string y.item, .int .i64 y.value, .string y.text] 41)
  rw [← hW1] at h1 h2 hB hz
  obtain ⟨eb, heb⟩ : ∃ eb, eb = w.heap.size + 1 := ⟨_, rfl⟩
  rw [← heb] at h2 hz
  have x0 : W1.cell? ⟨w.heap.size, 0, none⟩ = some (.string x.src) := by rw [cell_of_row W1 w.heap.size 0 _ _ _ h1]; rfl
  have x1 : W1.cell? ⟨w.heap.size, 1, none⟩ = some (.int .i64 x.num) := by rw [cell_of_row W1 w.heap.size 1 _ _ _ h1]; rfl
  have x2 : W1.cell? ⟨w.heap.size, 2, none⟩ = some (.int .i64 x.at_) := by rw [cell_of_row W1 w.heap.size 2 _ _ _ h1]; rfl
  have y0 : W1.cell? ⟨w.heap.size + 1, 0, none⟩ = some (.string y.src) := by rw [← heb, cell_of_row W1 eb 0 _ _ _ h2]; rfl
  have y1 : W1.cell? ⟨w.heap.size + 1, 1, none⟩ = some (.int .i64 y.num) := by rw [← heb, cell_of_row W1 eb 1 _ _ _ h2]; rfl
  have y2 : W1.cell? ⟨w.heap.size + 1, 2, none⟩ = some (.int .i64 y.at_) := by rw [← heb, cell_of_row W1 eb 2 _ _ _ h2]; rfl
  have HB := Lib.hid hB
  have hz1 : W1.heap.size = w.heap.size + 1 + 1 := by rw [hz, heb]
  clear h1 h2 hB hz heb
  go_enter Tryz.func33, Tryz.ntmps33
  go_upto_region 1 with fail
  rw [← hW1]
  clear hW1
  have HZ := Lib.hid hz1
  have hal : ∀ (k j : Nat) (v : Value) (o : Obj), W1.cell? ⟨k, j, none⟩ = some v → (W1.alloc o).cell? ⟨k, j, none⟩ = some v := fun k j v o h => (World.cell?_alloc_lt W1 _ ⟨k, j, none⟩ (World.block_lt_of_cell? _ _ h)).trans h
  clear hz1
  refine heldStart 17 (S := fun W => W.cell? ⟨w.heap.size, 0, none⟩ = some (.string x.src) ∧ W.cell? ⟨w.heap.size, 1, none⟩ = some (.int .i64 x.num) ∧ W.cell? ⟨w.heap.size, 2, none⟩ = some (.int .i64 x.at_) ∧ W.cell? ⟨w.heap.size + 1, 0, none⟩ = some (.string y.src) ∧ W.cell? ⟨w.heap.size + 1, 1, none⟩ = some (.int .i64 y.num) ∧ W.cell? ⟨w.heap.size + 1, 2, none⟩ = some (.int .i64 y.at_)) (by kernel_rfl) ?_ (fun hHeld => ?_)
  · first | exact ⟨x0, x1, x2, y0, y1, y2⟩ | exact ⟨hal _ _ _ _ x0, hal _ _ _ _ x1, hal _ _ _ _ x2, hal _ _ _ _ y0, hal _ _ _ _ y1, hal _ _ _ _ y2⟩
  refine heldTake 0 (v := ?_) (by simp only [List.getElem?_toArray, List.getElem?_cons_succ, List.getElem?_cons_zero]; rfl) (by kernel_rfl) (by intro _ _ _ h; exact h) (by rfl) (by assumption) ?_ ?_
  rotate_left
  · intro W hSw; (try dsimp only at hSw); go_simp; try with_reducible rfl
  simp only [Act.put, List.setIfInBounds_toArray, List.set_cons_zero, List.set_cons_succ]
  refine heldTake 1 (v := ?_) (by simp only [List.getElem?_toArray, List.getElem?_cons_succ, List.getElem?_cons_zero]; rfl) (by kernel_rfl) (by intro _ _ _ h; exact h) (by rfl) (by assumption) ?_ ?_
  rotate_left
  · intro W hSw; (try dsimp only at hSw); go_simp; try with_reducible rfl
  simp only [Act.put, List.setIfInBounds_toArray, List.set_cons_zero, List.set_cons_succ]
  refine heldTake 2 (v := ?_) (by simp only [List.getElem?_toArray, List.getElem?_cons_succ, List.getElem?_cons_zero]; rfl) (by kernel_rfl) (by intro _ _ _ h; exact h) (by rfl) (by assumption) ?_ ?_
  rotate_left
  · intro W hSw; (try dsimp only at hSw); go_simp; try with_reducible rfl
  simp only [Act.put, List.setIfInBounds_toArray, List.set_cons_zero, List.set_cons_succ]
  refine heldTake 3 (v := ?_) (by simp only [List.getElem?_toArray, List.getElem?_cons_succ, List.getElem?_cons_zero]; rfl) (by kernel_rfl) (by intro _ _ _ h; exact h) (by rfl) (by assumption) ?_ ?_
  rotate_left
  · intro W hSw; (try dsimp only at hSw); go_simp; try with_reducible rfl
  simp only [Act.put, List.setIfInBounds_toArray, List.set_cons_zero, List.set_cons_succ]
  refine heldTake 5 (v := ?_) (by simp only [List.getElem?_toArray, List.getElem?_cons_succ, List.getElem?_cons_zero]; rfl) (by kernel_rfl) (by intro _ _ _ h; exact h) (by rfl) (by assumption) ?_ ?_
  rotate_left
  · intro W hSw; (try dsimp only at hSw); go_simp; try with_reducible rfl
  simp only [Act.put, List.setIfInBounds_toArray, List.set_cons_zero, List.set_cons_succ]
  refine heldTake 6 (v := ?_) (by simp only [List.getElem?_toArray, List.getElem?_cons_succ, List.getElem?_cons_zero]; rfl) (by kernel_rfl) (by intro _ _ _ h; exact h) (by rfl) (by assumption) ?_ ?_
  rotate_left
  · intro W hSw; (try dsimp only at hSw); go_simp; try with_reducible rfl
  simp only [Act.put, List.setIfInBounds_toArray, List.set_cons_zero, List.set_cons_succ]
  refine heldTake 7 (v := ?_) (by simp only [List.getElem?_toArray, List.getElem?_cons_succ, List.getElem?_cons_zero]; rfl) (by kernel_rfl) (by intro _ _ _ h; exact h) (by rfl) (by assumption) ?_ ?_
  rotate_left
  · intro W hSw; (try dsimp only at hSw); go_simp; try with_reducible rfl
  simp only [Act.put, List.setIfInBounds_toArray, List.set_cons_zero, List.set_cons_succ]
  refine heldTake 8 (v := ?_) (by simp only [List.getElem?_toArray, List.getElem?_cons_succ, List.getElem?_cons_zero]; rfl) (by kernel_rfl) (by intro _ _ _ h; exact h) (by rfl) (by assumption) ?_ ?_
  rotate_left
  · intro W hSw; (try dsimp only at hSw); go_simp; try with_reducible rfl
  simp only [Act.put, List.setIfInBounds_toArray, List.set_cons_zero, List.set_cons_succ]
  refine heldTake 10 (v := ?_) (by simp only [List.getElem?_toArray, List.getElem?_cons_succ, List.getElem?_cons_zero]; rfl) (by kernel_rfl) (by intro _ _ _ h; exact h) (by rfl) (by assumption) ?_ ?_
  rotate_left
  · intro W hSw; (try dsimp only at hSw); go_simp; try with_reducible rfl
  simp only [Act.put, List.setIfInBounds_toArray, List.set_cons_zero, List.set_cons_succ]
  refine heldTake 11 (v := ?_) (by simp only [List.getElem?_toArray, List.getElem?_cons_succ, List.getElem?_cons_zero]; rfl) (by kernel_rfl) (by intro _ _ _ h; exact h) (by rfl) (by assumption) ?_ ?_
  rotate_left
  · intro W hSw; (try dsimp only at hSw); go_simp; try with_reducible rfl
  simp only [Act.put, List.setIfInBounds_toArray, List.set_cons_zero, List.set_cons_succ]
  refine heldTake 12 (v := ?_) (by simp only [List.getElem?_toArray, List.getElem?_cons_succ, List.getElem?_cons_zero]; rfl) (by kernel_rfl) (by intro _ _ _ h; exact h) (by rfl) (by assumption) ?_ ?_
  rotate_left
  · intro W hSw; (try dsimp only at hSw); go_simp; try with_reducible rfl
  simp only [Act.put, List.setIfInBounds_toArray, List.set_cons_zero, List.set_cons_succ]
  refine heldTake 13 (v := ?_) (by simp only [List.getElem?_toArray, List.getElem?_cons_succ, List.getElem?_cons_zero]; rfl) (by kernel_rfl) (by intro _ _ _ h; exact h) (by rfl) (by assumption) ?_ ?_
  rotate_left
  · intro W hSw; (try dsimp only at hSw); go_simp; try with_reducible rfl
  simp only [Act.put, List.setIfInBounds_toArray, List.set_cons_zero, List.set_cons_succ]
  refine heldCall 4 (by simp only [List.getElem?_toArray, List.getElem?_cons_succ, List.getElem?_cons_zero]; rfl) (by kernel_rfl) (fun K hK => ?_)
  go_simp
  refine (cmpN_any _ _ _).mono ?_
  rintro e w6 ⟨rfl, rfl⟩
  go_wp2_with fail
  refine hK.out _ _ ?_ (fun hHeld => ?_)
  · first | exact ⟨x0, x1, x2, y0, y1, y2⟩ | exact ⟨hal _ _ _ _ x0, hal _ _ _ _ x1, hal _ _ _ _ x2, hal _ _ _ _ y0, hal _ _ _ _ y1, hal _ _ _ _ y2⟩
  clear hK K
  (try simp only [Act.put, List.setIfInBounds_toArray, List.set_cons_zero, List.set_cons_succ])
  refine heldCall 9 (by simp only [List.getElem?_toArray, List.getElem?_cons_succ, List.getElem?_cons_zero]; rfl) (by kernel_rfl) (fun K hK => ?_)
  go_simp
  refine (scmpN_any _ _ _).mono ?_
  rintro e w6 ⟨⟨n2, rfl⟩, rfl⟩
  go_wp2_with fail
  refine hK.out _ _ ?_ (fun hHeld => ?_)
  · first | exact ⟨x0, x1, x2, y0, y1, y2⟩ | exact ⟨hal _ _ _ _ x0, hal _ _ _ _ x1, hal _ _ _ _ x2, hal _ _ _ _ y0, hal _ _ _ _ y1, hal _ _ _ _ y2⟩
  clear hK K
  (try simp only [Act.put, List.setIfInBounds_toArray, List.set_cons_zero, List.set_cons_succ])
  refine heldCall 14 (by simp only [List.getElem?_toArray, List.getElem?_cons_succ, List.getElem?_cons_zero]; rfl) (by kernel_rfl) (fun K hK => ?_)
  go_simp
  refine (cmpN_any _ _ _).mono ?_
  rintro e w6 ⟨rfl, rfl⟩
  go_wp2_with fail
  refine hK.out _ _ ?_ (fun hHeld => ?_)
  · first | exact ⟨x0, x1, x2, y0, y1, y2⟩ | exact ⟨hal _ _ _ _ x0, hal _ _ _ _ x1, hal _ _ _ _ x2, hal _ _ _ _ y0, hal _ _ _ _ y1, hal _ _ _ _ y2⟩
  clear hK K
  (try simp only [Act.put, List.setIfInBounds_toArray, List.set_cons_zero, List.set_cons_succ])
  refine heldCall 15 (by simp only [List.getElem?_toArray, List.getElem?_cons_succ, List.getElem?_cons_zero]; rfl) (by kernel_rfl) (fun K hK => ?_)
  go_wp2_with fail
  refine hK.out _ _ ?_ (fun hHeld => ?_)
  · first | exact ⟨x0, x1, x2, y0, y1, y2⟩ | exact ⟨hal _ _ _ _ x0, hal _ _ _ _ x1, hal _ _ _ _ x2, hal _ _ _ _ y0, hal _ _ _ _ y1, hal _ _ _ _ y2⟩
  clear hK K
  (try simp only [Act.put, List.setIfInBounds_toArray, List.set_cons_zero, List.set_cons_succ])
  refine heldCall 16 (by simp only [List.getElem?_toArray, List.getElem?_cons_succ, List.getElem?_cons_zero]; rfl) (by kernel_rfl) (fun K hK => ?_)
  go_simp
  refine (or3_any _ _ _ W1).mono ?_
  rintro e w6 ⟨⟨n3, rfl⟩, rfl⟩
  go_wp2_with fail
  refine hK.out _ _ ?_ (fun hHeld => ?_)
  · first | exact ⟨x0, x1, x2, y0, y1, y2⟩ | exact ⟨hal _ _ _ _ x0, hal _ _ _ _ x1, hal _ _ _ _ x2, hal _ _ _ _ y0, hal _ _ _ _ y1, hal _ _ _ _ y2⟩
  clear hK K
  (try simp only [Act.put, List.setIfInBounds_toArray, List.set_cons_zero, List.set_cons_succ])
  refine heldTake 17 (v := ?_) (by simp only [List.getElem?_toArray, List.getElem?_cons_succ, List.getElem?_cons_zero]; rfl) (by kernel_rfl) (by intro _ _ _ h; exact h) (by rfl) (by assumption) ?_ ?_
  rotate_left
  · intro W hSw; (try dsimp only at hSw); go_simp; try with_reducible rfl
  simp only [Act.put, List.setIfInBounds_toArray, List.set_cons_zero, List.set_cons_succ]
  refine heldDone (by kernel_rfl) ?_ _
  go_wp2_with fail
  go_ret
  exact ⟨n3, rfl, (HB.out.alloc HB.out.size _).drew⟩
end Go.Proofs.YthbijemihaekiaaGreatDoor
