/- The walk of KinBounds. -/
import Derived.Test.YtbmkejiijkbmlaaPrK
namespace Go.Proofs.Ytbmkejiijkbmlaa
open Go.ChangeShapes Go.WideShapes Go.ChangeAt Go.RowKit Go.Shelf Go.Lib Go.Sort Go.Proofs
set_option linter.unusedVariables false
set_option linter.unusedSimpArgs false

theorem mayK_any (n d : Int) (w : World) (h0 : 0 ≤ n) (h1 : 1 ≤ d) : Calls Try.prog 12 #[.agg #[.int .i64 n, .int .i64 d]] w fun e w' => e = .returned (.bool true) ∧ Below w.heap.size w w' := by
  refine (rmayR_any n d w).mono ?_
  rintro e w' ⟨rfl, hg⟩
  exact ⟨by simp [h0, h1], hg.below⟩

theorem cnt2_snoc (L : List (List ByteArray)) (s : List ByteArray) (a b : ByteArray) : cnt2 (L ++ [s]) a b = cnt2 L a b + if (decide (a ∈ s) && decide (b ∈ s)) = true then 1 else 0 := by
  unfold cnt2
  rw [List.countP_append]
  by_cases ha : a ∈ s <;> by_cases hb : b ∈ s <;> simp [ha, hb]
theorem cntX_snoc (L : List (List ByteArray)) (s : List ByteArray) (a b : ByteArray) : cntX (L ++ [s]) a b = cntX L a b + if (decide (a ∈ s) != decide (b ∈ s)) = true then 1 else 0 := by
  unfold cntX
  rw [List.countP_append]
  by_cases ha : a ∈ s <;> by_cases hb : b ∈ s <;> simp [ha, hb]
theorem cntX_le (L : List (List ByteArray)) (a b : ByteArray) : 0 ≤ cntX L a b ∧ cntX L a b ≤ L.length := by
  have := List.countP_le_length (p := fun s => decide (¬ (a ∈ s ∧ b ∈ s) ∧ (a ∈ s ∨ b ∈ s))) (l := L)
  unfold cntX; omega

set_option maxRecDepth 20000 in
set_option maxHeartbeats 4000000 in
theorem kbounds_walk (A : Option Addr) (c : Nat) (l : List SessD) (a b : ByteArray) (w : World) (hl : SessAt w w.heap.size A l) (hlen : (l.length : Int) ≤ 9223372036854775807) (hka : a.size ≤ maxLen) (hkb : b.size ≤ maxLen) :
    Calls Try.prog 3 #[.slice A l.length c, .string a, .string b] w fun e w' => e = .returned (.bool true) ∧ Below w.heap.size w w' := by
  have HL := Lib.hid hl
  clear hl
  go_enter Try.func3, Try.ntmps3
  go_wp2_with fail
  refine Calls.mono (lives18_any w) ?_
  rintro e w1 ⟨rfl, hb1⟩
  go_wp2_with fail
  refine Calls.mono (few_any A c w.heap.size l w1 (HL.out.below hb1) hb1.size hlen) ?_
  rintro e w2 ⟨fw, rfl, hfew, hb2⟩
  have hb12 := hb1.trans (hb2.mono hb1.size)
  have HFEW := Lib.hid hfew
  clear hfew
  cases fw with
  | false =>
    go_wp2
    go_ret
    exact ⟨rfl, hb12⟩
  | true =>
    obtain ⟨f1, f2⟩ := HFEW.out rfl
    by_cases h200 : 200 < wrap64 ((a.size : Int) + (b.size : Int))
    · go_wp2
      go_ret
      exact ⟨rfl, hb12⟩
    · have HF2 := Lib.hid f2
      clear f2 HFEW
      go_wp2_with fail
      refine Calls.mono (pof_any A c w.heap.size l w2 (HL.out.below hb12) hb12.size (by omega) (fun s hs => by have := (HF2.out s hs).1; omega)) ?_
      rintro e w3 ⟨pb, F, rfl, hO, hF, hb3⟩
      have hb13 := hb12.trans (hb3.mono hb12.size)
      have hLl : ((itemsOf l).length : Int) ≤ 100000 := by unfold itemsOf; rw [List.length_map]; omega
      have hpl := bounds_plain (itemsOf l) a b
      have hcm := like_comm (itemsOf l) a b
      have hnb := likeNum_bd (itemsOf l) a b hLl
      have hdb := likeDen_bd (itemsOf l) a b hLl
      have q1 := like_any pb F (itemsOf l) a b w3 hO.rd hka hkb hLl
      have q2 := fun W (hb : Below w3.heap.size w3 W) => like_any pb F (itemsOf l) b a W ((PRd.own pb _).below hO.rd hb) hkb hka hLl
      rw [← hcm.1, ← hcm.2] at q2
      have HPL := Lib.hid hpl
      have E := fun W => eql_ratioK (likeNum (itemsOf l) a b) (likeDen (itemsOf l) a b) (likeNum (itemsOf l) a b) (likeDen (itemsOf l) a b) W
      generalize likeNum (itemsOf l) a b = nu at *
      generalize likeDen (itemsOf l) a b = de at *
      have Q1 := Lib.hid q1
      have Q2 := Lib.hid q2
      have hnd : nu ≤ de := HPL.out.1
      clear q1 q2 hcm hpl hO hF
      go_wp2_with fail
      refine Calls.mono Q1.out ?_
      rintro e w4 ⟨rfl, hb4⟩
      go_wp2_with fail
      refine Calls.mono (Q2.out _ hb4) ?_
      rintro e w5 ⟨rfl, hb5⟩
      have hb15 : Below w.heap.size w w5 := hb13.trans ((hb4.trans (hb5.mono hb4.size)).mono hb13.size)
      go_wp2_with fail
      have hb57 : Below w5.heap.size w5 ((w5.alloc (.cells #[.int .i64 nu, .int .i64 de] 28)).alloc (.cells #[.int .i64 nu, .int .i64 de] 28)) := ((Below.refl _ _).alloc (Nat.le_refl _) _).alloc (by simp) _
      obtain ⟨W7, hW7⟩ : ∃ W7, W7 = (w5.alloc (.cells #[.int .i64 nu, .int .i64 de] 28)).alloc (.cells #[.int .i64 nu, .int .i64 de] 28) := ⟨_, rfl⟩
      have d0 : W7.cell? ⟨w5.heap.size, 0, none⟩ = some (.int .i64 nu) := by rw [hW7]; simp
      have d1 : W7.cell? ⟨w5.heap.size, 1, none⟩ = some (.int .i64 de) := by rw [hW7]; simp
      have hz7 : w5.heap.size < W7.heap.size := by rw [hW7]; simp; omega
      rw [← hW7] at hb57 ⊢
      clear hW7
      refine Calls.mono (mayK_any nu de W7 hnb.1 hdb.1) ?_
      rintro e w8 ⟨rfl, hb8⟩
      have e0 := (hb8.cell (p := ⟨w5.heap.size, 0, none⟩) hz7).trans d0
      have e1 := (hb8.cell (p := ⟨w5.heap.size, 1, none⟩) hz7).trans d1
      have hz8 : w5.heap.size < w8.heap.size := by have := hb8.size; omega
      have hb18 : Below w.heap.size w w8 := hb15.trans ((hb57.trans (hb8.mono hb57.size)).mono hb15.size)
      have hnd' : ¬ de < nu := by omega
      clear d0 d1 hz7 hb8 hb57 hb5 hb4 Q1 Q2 E
      go_wp2_with fail
      go_loopg [10, 11, 12] l.length (fun rest both one i wr => ∃ k : Nat, i = .int .i64 k ∧ Hid (k + rest = l.length) ∧ both = .int .i64 (cnt2 (itemsOf (l.take k)) a b) ∧ one = .int .i64 (cntX (itemsOf (l.take k)) a b) ∧ Below w8.heap.size w8 wr)
      case atStart => exact ⟨0, rfl, Lib.hid (by simp), rfl, rfl, Below.refl _ _⟩
      case round =>
        obtain ⟨k, rfl, HK, rfl, rfl, hbr⟩ := hrel
        by_cases hk : (k : Int) < (l.length : Int)
        · have hkl : k < l.length := by omega
          have hbw : Below w.heap.size w wr := hb18.trans (hbr.mono hb18.size)
          obtain ⟨b0, o, rfl, hbl, c1, c2, c3, c4, hok⟩ := (HL.out.below hbw).one hkl
          have ht : itemsOf (l.take (k + 1)) = itemsOf (l.take k) ++ [l[k].l] := by
            unfold itemsOf
            rw [List.take_succ_eq_append_getElem hkl, List.map_append]
            rfl
          have hil : (l[k].l.length : Int) ≤ 20 := (HF2.out _ (List.getElem_mem hkl)).1
          have s1 := cnt2_snoc (itemsOf (l.take k)) l[k].l a b
          have s2 := cntX_snoc (itemsOf (l.take k)) l[k].l a b
          rw [← ht] at s1 s2
          have hll : ((itemsOf (l.take k)).length : Int) ≤ 41 := by unfold itemsOf; rw [List.length_map]; have := List.length_take_le k l; omega
          have t1 := cnt2_le (itemsOf (l.take k)) a b
          have t2 := cntX_le (itemsOf (l.take k)) a b
          generalize cnt2 (itemsOf (l.take k)) a b = B at *
          generalize cntX (itemsOf (l.take k)) a b = O at *
          have hKe : Below wr.heap.size wr wr.drew := ⟨rfl, rfl, rfl, Nat.le_refl _, fun _ _ => rfl⟩
          have q5 := has_any l[k] a w.heap.size wr.drew (hok.below (hKe.mono hbw.size)) hbw.size (by omega)
          have q6 := fun W (hb : Below wr.heap.size wr.drew W) => has_any l[k] b w.heap.size W ((hok.below (hKe.mono hbw.size)).below (hb.mono hbw.size)) (by have := hbw.size; have := hb.size; have h3 : wr.drew.heap.size = wr.heap.size := rfl; omega) (by omega)
          generalize l[k] = x at *
          obtain ⟨who, fr, to, xa, xc, xl⟩ := x
          simp only at c1 c2 c3 c4 s1 s2 q5 q6
          unfold sessCells at q5 q6
          generalize decide (a ∈ xl) = ua at *
          generalize decide (b ∈ xl) = ub at *
          have Q5 := Lib.hid q5
          have Q6 := Lib.hid q6
          have S1 := Lib.hid s1
          have S2 := Lib.hid s2
          have hk4 : ∀ W, Below wr.heap.size wr.drew W → W.cell? ⟨b0, o + k * 4, none⟩ = some (.string who) ∧ W.cell? ⟨b0, o + k * 4 + 1, none⟩ = some (.int .i64 fr) ∧ W.cell? ⟨b0, o + k * 4 + 2, none⟩ = some (.int .i64 to) ∧ W.cell? ⟨b0, o + k * 4 + 3, none⟩ = some (.slice xa xl.length xc) := fun W hb => by
            have hz : b0 < wr.heap.size := by have := hbw.size; omega
            exact ⟨(hb.cell (p := ⟨b0, o + k * 4, none⟩) hz).trans c1, (hb.cell (p := ⟨b0, o + k * 4 + 1, none⟩) hz).trans c2, (hb.cell (p := ⟨b0, o + k * 4 + 2, none⟩) hz).trans c3, (hb.cell (p := ⟨b0, o + k * 4 + 3, none⟩) hz).trans c4⟩
          have HK4 := Lib.hid hk4
          have HBX : Hid (Below wr.heap.size wr.drew wr.drew) := Lib.hid (Below.refl _ _)
          have w1' : wrap64 (B + 1) = B + 1 := by unfold wrap64; omega
          have w2' : wrap64 (O + 1) = O + 1 := by unfold wrap64; omega
          clear q5 q6 s1 s2 hk4 ht hok
          go_wp2_with fail
          refine heldStart 13 (S := fun W => W.cell? ⟨b0, o + k * 4, none⟩ = some (.string who) ∧ W.cell? ⟨b0, o + k * 4 + 1, none⟩ = some (.int .i64 fr) ∧ W.cell? ⟨b0, o + k * 4 + 2, none⟩ = some (.int .i64 to) ∧ W.cell? ⟨b0, o + k * 4 + 3, none⟩ = some (.slice xa xl.length xc)) (by kernel_rfl) ?_ (fun hHeld => ?_)
          · exact HK4.out _ HBX.out
          refine heldTake 0 (v := ?_) (by simp only [List.getElem?_toArray, List.getElem?_cons_succ, List.getElem?_cons_zero]; rfl) (by kernel_rfl) (by intro _ _ _ h; exact h) (by rfl) (by assumption) ?_ ?_
          rotate_left
          · intro W hSw; (try dsimp only at hSw); go_simp; try with_reducible rfl
          simp only [Act.put, List.setIfInBounds_toArray, List.set_cons_zero, List.set_cons_succ]
          refine heldTake 1 (v := ?_) (by simp only [List.getElem?_toArray, List.getElem?_cons_succ, List.getElem?_cons_zero]; rfl) (by kernel_rfl) (by intro _ _ _ h; exact h) (by rfl) (by assumption) ?_ ?_
          rotate_left
          · intro W hSw; (try dsimp only at hSw); go_simp; try with_reducible rfl
          simp only [Act.put, List.setIfInBounds_toArray, List.set_cons_zero, List.set_cons_succ]
          refine heldTake 2 (v := ?_) (by simp only [List.getElem?_toArray, List.getElem?_cons_succ, List.getElem?_cons_zero]; rfl) (by kernel_rfl) (by intro _ _ _ h; exact h) (by rfl) (by assumption) ?_ ?_
          rotate_left
          · intro W hSw; (try dsimp only at hSw); go_simp; try with_reducible rfl
          simp only [Act.put, List.setIfInBounds_toArray, List.set_cons_zero, List.set_cons_succ]
          refine heldTake 3 (v := ?_) (by simp only [List.getElem?_toArray, List.getElem?_cons_succ, List.getElem?_cons_zero]; rfl) (by kernel_rfl) (by intro _ _ _ h; exact h) (by rfl) (by assumption) ?_ ?_
          rotate_left
          · intro W hSw; (try dsimp only at hSw); go_simp; try with_reducible rfl
          simp only [Act.put, List.setIfInBounds_toArray, List.set_cons_zero, List.set_cons_succ]
          refine heldTake 4 (v := ?_) (by simp only [List.getElem?_toArray, List.getElem?_cons_succ, List.getElem?_cons_zero]; rfl) (by kernel_rfl) (by intro _ _ _ h; exact h) (by rfl) (by assumption) ?_ ?_
          rotate_left
          · intro W hSw; (try dsimp only at hSw); go_simp; try with_reducible rfl
          simp only [Act.put, List.setIfInBounds_toArray, List.set_cons_zero, List.set_cons_succ]
          refine heldTake 6 (v := ?_) (by simp only [List.getElem?_toArray, List.getElem?_cons_succ, List.getElem?_cons_zero]; rfl) (by kernel_rfl) (by intro _ _ _ h; exact h) (by rfl) (by assumption) ?_ ?_
          rotate_left
          · intro W hSw; (try dsimp only at hSw); go_simp; try with_reducible rfl
          simp only [Act.put, List.setIfInBounds_toArray, List.set_cons_zero, List.set_cons_succ]
          refine heldTake 7 (v := ?_) (by simp only [List.getElem?_toArray, List.getElem?_cons_succ, List.getElem?_cons_zero]; rfl) (by kernel_rfl) (by intro _ _ _ h; exact h) (by rfl) (by assumption) ?_ ?_
          rotate_left
          · intro W hSw; (try dsimp only at hSw); go_simp; try with_reducible rfl
          simp only [Act.put, List.setIfInBounds_toArray, List.set_cons_zero, List.set_cons_succ]
          refine heldTake 8 (v := ?_) (by simp only [List.getElem?_toArray, List.getElem?_cons_succ, List.getElem?_cons_zero]; rfl) (by kernel_rfl) (by intro _ _ _ h; exact h) (by rfl) (by assumption) ?_ ?_
          rotate_left
          · intro W hSw; (try dsimp only at hSw); go_simp; try with_reducible rfl
          simp only [Act.put, List.setIfInBounds_toArray, List.set_cons_zero, List.set_cons_succ]
          refine heldTake 9 (v := ?_) (by simp only [List.getElem?_toArray, List.getElem?_cons_succ, List.getElem?_cons_zero]; rfl) (by kernel_rfl) (by intro _ _ _ h; exact h) (by rfl) (by assumption) ?_ ?_
          rotate_left
          · intro W hSw; (try dsimp only at hSw); go_simp; try with_reducible rfl
          simp only [Act.put, List.setIfInBounds_toArray, List.set_cons_zero, List.set_cons_succ]
          refine heldTake 10 (v := ?_) (by simp only [List.getElem?_toArray, List.getElem?_cons_succ, List.getElem?_cons_zero]; rfl) (by kernel_rfl) (by intro _ _ _ h; exact h) (by rfl) (by assumption) ?_ ?_
          rotate_left
          · intro W hSw; (try dsimp only at hSw); go_simp; try with_reducible rfl
          simp only [Act.put, List.setIfInBounds_toArray, List.set_cons_zero, List.set_cons_succ]
          refine heldCall 5 (by simp only [List.getElem?_toArray, List.getElem?_cons_succ, List.getElem?_cons_zero]; rfl) (by kernel_rfl) (fun K hK => ?_)
          go_simp
          refine Calls.mono Q5.out ?_
          rintro e w9 ⟨rfl, hb9⟩
          have hb9' : Hid (Below wr.heap.size wr.drew w9) := Lib.hid hb9
          clear HBX
          have HBX := hb9'
          clear hb9 hb9'
          go_wp2_with fail
          refine hK.out _ _ ?_ (fun hHeld => ?_)
          · exact HK4.out _ HBX.out
          clear hK K
          (try simp only [Act.put, List.setIfInBounds_toArray, List.set_cons_zero, List.set_cons_succ])
          refine heldCall 11 (by simp only [List.getElem?_toArray, List.getElem?_cons_succ, List.getElem?_cons_zero]; rfl) (by kernel_rfl) (fun K hK => ?_)
          go_simp
          refine Calls.mono (Q6.out _ HBX.out) ?_
          rintro e w10 ⟨rfl, hb10⟩
          have hbx := Lib.hid (HBX.out.trans (hb10.mono (by have := HBX.out.size; exact this)))
          clear HBX
          have HBX := hbx
          clear hbx hb10
          have hb11 : Below w8.heap.size w8 w10 := hbr.trans ((hKe.trans HBX.out).mono hbr.size)
          have HB11 := Lib.hid hb11
          clear hb11
          go_wp2_with fail
          refine hK.out _ _ ?_ (fun hHeld => ?_)
          · exact HK4.out _ HBX.out
          clear hK K
          (try simp only [Act.put, List.setIfInBounds_toArray, List.set_cons_zero, List.set_cons_succ])
          refine heldTake 12 (v := ?_) (by simp only [List.getElem?_toArray, List.getElem?_cons_succ, List.getElem?_cons_zero]; rfl) (by kernel_rfl) (by intro _ _ _ h; exact h) (by rfl) (by assumption) ?_ ?_
          rotate_left
          · intro W hSw; (try dsimp only at hSw); go_simp; try with_reducible rfl
          simp only [Act.put, List.setIfInBounds_toArray, List.set_cons_zero, List.set_cons_succ]
          refine heldTake 13 (v := ?_) (by simp only [List.getElem?_toArray, List.getElem?_cons_succ, List.getElem?_cons_zero]; rfl) (by kernel_rfl) (by intro _ _ _ h; exact h) (by rfl) (by assumption) ?_ ?_
          rotate_left
          · intro W hSw; (try dsimp only at hSw); go_simp; try with_reducible rfl
          simp only [Act.put, List.setIfInBounds_toArray, List.set_cons_zero, List.set_cons_succ]
          refine heldDone (by kernel_rfl) ?_ _
          have h11 := HB11.out
          cases ua <;> cases ub
          · go_wp2
            go_roundg (gk - 1)
            case measure => have := HK.out; omega
            case rel => exact ⟨k + 1, by go_num, Lib.hid (by have := HK.out; omega), by rw [S1.out]; simp, by rw [S2.out]; simp, h11⟩
          · go_wp2
            go_roundg (gk - 1)
            case measure => have := HK.out; omega
            case rel => exact ⟨k + 1, by go_num, Lib.hid (by have := HK.out; omega), by rw [S1.out]; simp, by rw [S2.out]; simp, h11⟩
          · go_wp2
            go_roundg (gk - 1)
            case measure => have := HK.out; omega
            case rel => exact ⟨k + 1, by go_num, Lib.hid (by have := HK.out; omega), by rw [S1.out]; simp, by rw [S2.out]; simp, h11⟩
          · go_wp2
            go_roundg (gk - 1)
            case measure => have := HK.out; omega
            case rel => exact ⟨k + 1, by go_num, Lib.hid (by have := HK.out; omega), by rw [S1.out]; simp, by rw [S2.out]; simp, h11⟩
        · have hk' : k = l.length := by have := HK.out; omega
          rw [hk', List.take_length]
          have f0 := (hbr.cell (p := ⟨w5.heap.size, 0, none⟩) hz8).trans e0
          have f1 := (hbr.cell (p := ⟨w5.heap.size, 1, none⟩) hz8).trans e1
          have p1 := HPL.out.2.1
          have p2 := HPL.out.2.2
          have p3 := (cnt2_le (itemsOf l) a b).1
          have hbF := hb18.trans (hbr.mono hb18.size)
          clear HPL
          generalize cnt2 (itemsOf l) a b = B at *
          generalize cntX (itemsOf l) a b = O at *
          have x1 : (nu == de) = (decide (0 < B) && (O == 0)) := by
            rw [Bool.eq_iff_iff]; simp [p1]
          have x2 : (nu == 0) = (B == 0) := by
            rw [Bool.eq_iff_iff]; simp [p2]
          clear p1 p2
          by_cases hB : 0 < B
          · have hB0 : (B == 0) = false := by simp; omega
            by_cases hO : O = 0
            · have hO0 : (O == 0) = true := by simp [hO]
              rw [hO0] at x1
              rw [hB0] at x2
              have hd : decide (0 < B) = true := by simpa using hB
              rw [hd] at x1
              simp only [Bool.and_true] at x1
              go_wp2
              go_ret
              exact ⟨rfl, hbF⟩
            · have hO0 : (O == 0) = false := by simp [hO]
              rw [hO0, Bool.and_false] at x1
              rw [hB0] at x2
              go_wp2
              go_ret
              exact ⟨rfl, hbF⟩
          · have hB0 : (B == 0) = true := by simp; omega
            have hd : decide (0 < B) = false := by simpa using hB
            rw [hd, Bool.false_and] at x1
            rw [hB0] at x2
            go_wp2
            go_ret
            exact ⟨rfl, hbF⟩
end Go.Proofs.Ytbmkejiijkbmlaa
