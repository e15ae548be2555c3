/- law14's bounds. -/
import Derived.Test.YtpjaolablkcpmaaHvV
namespace Go.Proofs.Ytpjaolablkcpmaa
open Go.ChangeShapes Go.WideShapes Go.ChangeAt Go.RowKit Go.Shelf Go.Lib Go.Sort Go.Proofs
set_option linter.unusedVariables false
set_option linter.unusedSimpArgs false

theorem TopH.len {S : CntrL} {n : Int} {ts : List CntV} (h : TopH S n ts) : ts.length ≤ S.length := by
  obtain ⟨cs, hc, rfl⟩ := h
  rw [List.length_take, hc.len]
  omega

set_option maxRecDepth 20000 in
set_option maxHeartbeats 8000000 in
theorem bounds14_any (hb : Nat) (F : Nat → Prop) (s : HvS) (m : Int) (A : Option Addr) (B c : Nat) (l : List CntV) (key : ByteArray) (w : World) (hH : HvO w hb F s) (hl : CntsAt w B A l) (hB : B ≤ w.heap.size) (hlen : (l.length : Int) ≤ 200) (hcn : A = none → c = 0)
    (hks : ∀ a ∈ l, (a.key.size : Int) ≤ 100) (hk : (key.size : Int) ≤ 100) (hm : s.room = m) (hm1 : 1 ≤ m) (hm2 : m ≤ 1000) (hT : Tr s (truthV l)) :
    Calls Try.prog 21 #[.pointer (some ⟨hb, 0, none⟩), .int .i64 m, .slice A l.length c, .string key] w fun e w' => e = .returned (.bool true) ∧ Below w.heap.size w w' := by
  have hi := hH.inv
  have hsl := hi.sl
  have hs0 := hi.s0
  have ht0 := hi.t0
  have hP : s.slack * (m + 1) ≤ s.total := by
    have h1 := hi.sum
    have h2 := sumS_nonneg hi.pos
    rw [hm] at h1
    rw [Int.mul_comm]
    omega
  have hP0 : 0 ≤ s.slack * (m + 1) := Int.mul_nonneg hs0 (by omega)
  have hq : s.slack ≤ s.total.tdiv (m + 1) := by
    rw [Int.tdiv_eq_ediv_of_nonneg ht0]
    exact Int.le_ediv_of_mul_le (by omega) hP
  have hq0 : 0 ≤ s.total.tdiv (m + 1) ∧ s.total.tdiv (m + 1) ≤ s.total := by
    rw [Int.tdiv_eq_ediv_of_nonneg ht0]
    exact ⟨Int.ediv_nonneg ht0 (by omega), Int.ediv_le_self _ ht0⟩
  have hSl : (s.S.length : Int) ≤ m := by have := hi.len; omega
  have hlows := fun k => hi.low k
  have hw1 : wrap64 (s.slack * (m + 1)) = s.slack * (m + 1) := by unfold wrap64; omega
  have hw2 : wrap64 (m + 1) = m + 1 := by unfold wrap64; omega
  have htb := fun k => truthV_bd l k
  have HH := Lib.hid hH
  have HL := Lib.hid hl
  have HT := Lib.hid hT
  have HKS := Lib.hid hks
  have HLO := Lib.hid hlows
  have HTB := Lib.hid htb
  have HKK := Lib.hid hk
  clear hH hl hT hks hlows htb hi hm hk
  generalize hss : s.slack = ssl at *
  generalize htt : s.total = stt at *
  have HSS := Lib.hid hss
  have HTT := Lib.hid htt
  clear hss htt
  generalize hpp : ssl * (m + 1) = pp at *
  have hwm : wrap64 (ssl * (m + 1)) = pp := by rw [hpp]; exact hw1
  generalize hqq : stt.tdiv (m + 1) = qq at *
  go_enter Try.func21, Try.ntmps21
  have hbe : Below w.heap.size w (w.alloc (.cells #[] 28)) := (Below.refl _ _).alloc (Nat.le_refl _) _
  go_wp2_with (first
    | (at_builtin; refine wpList_append_to (w.alloc (.cells #[] 28)) (by rfl) (.tmp 15) (.tmp 16) _ rfl w.heap.size 28 (.agg #[.string ByteArray.empty, .int .i64 0]) 2 24 Try.underlying22 cnt_info rfl (by decide) (some ⟨w.heap.size, 0, none⟩) 0 0 [] rfl (row_start w) A B l.length c (l.flatMap cntEnc) rfl (HL.out.below (hbe.mono hB)) hcn (cnts_one l) l.length (by omega) (by unfold maxLen; omega) (by omega) (by simp) ?_; intro A4 c4 w4 hown4 hg4 hb4)
    | (at_builtin; refine wpList_append_one w4 rfl _ _ _ rfl w.heap.size 28 (.agg #[.string ByteArray.empty, .int .i64 0]) 2 24 Try.underlying22 cnt_info rfl (by decide) A4 l.length c4 _ rfl hown4 [.string key, .int .i64 0] rfl rfl (by intro u hu; simp at hu; rcases hu with rfl | rfl <;> rfl) (by omega) (by unfold maxLen; omega) (Nat.le_trans (by simp) hb4.size) ?_; intro A5 c5 w5 hown5 hg5 hb5))
  have hB5 : Below w.heap.size w w5 := (hbe.trans hb4).trans hb5
  obtain ⟨all, hall⟩ : ∃ all, all = l ++ [(⟨key, 0⟩ : CntV)] := ⟨_, rfl⟩
  have hal : all.length = l.length + 1 := by rw [hall]; simp
  have hat5 : CntsAt w5 w5.heap.size A5 all := by
    unfold CntsAt
    rw [hal, hall, List.flatMap_append]
    have h5 := Reads.of_own hown5
    simp only [List.nil_append] at h5
    simp only [List.flatMap_cons, List.flatMap_nil, List.append_nil]
    exact h5
  have hkall : ∀ a ∈ all, (a.key.size : Int) ≤ 100 := fun a ha => by
    rw [hall] at ha
    rcases List.mem_append.1 ha with ha | ha
    · exact HKS.out a ha
    · simp at ha; subst ha; exact HKK.out
  have HAL := Lib.hid hal
  have HKA := Lib.hid hkall
  clear hal hall hkall hown4 hown5 hg4 hg5 hb4 hb5 hbe
  refine (htop_o (HH.out.below hB5) 5000 (by omega)).mono ?_
  rintro e w6 ⟨A6, c6, ts, rfl, hts, -, hb6⟩
  have htl : (ts.length : Int) ≤ m := by have := hts.len; omega
  have hB6 : Below w.heap.size w w6 := hB5.trans (hb6.mono hB5.size)
  have HAT6 : Hid (CntsAt w6 w6.heap.size A5 all) := Lib.hid (Reads.more (hat5.below hb6) hb6.size)
  clear hts hat5 hb6 hB5
  generalize ts.length = tl at *
  go_wp2_with fail
  refine (hslack_o (HH.out.below hB6)).mono ?_
  rintro e w7 ⟨rfl, rfl⟩
  rw [HSS.out]
  go_wp2_with fail
  refine (hslack_o (HH.out.below hB6)).mono ?_
  rintro e w7 ⟨rfl, rfl⟩
  rw [HSS.out]
  go_wp2_with fail
  refine (htotal_o (HH.out.below hB6)).mono ?_
  rintro e w7 ⟨rfl, rfl⟩
  rw [HTT.out]
  go_wp2_with fail
  go_loopg [11] (l.length + 1) (fun rest i wr => ∃ k : Nat, i = .int .i64 k ∧ Hid (k + rest = l.length + 1) ∧ Below w6.heap.size w6 wr)
  case atStart => exact ⟨0, rfl, Lib.hid (by simp), Below.refl _ _⟩
  case round =>
    obtain ⟨k, rfl, HK, hbr⟩ := hrel
    by_cases hk : (k : Int) < (l.length : Int) + 1
    · have hka : k < all.length := by have := HAL.out; omega
      have hB7 : Below w.heap.size w wr := hB6.trans (hbr.mono hB6.size)
      have hz7 := hbr.size
      obtain ⟨g, o, rfl, hgl, d1, d2⟩ := (HAT6.out.below hbr).one hka
      have hky := HKA.out _ (List.getElem_mem hka)
      generalize all[k] = y at *
      clear d2
      have hT1 := HT.out y.key
      have hL1 := HLO.out y.key
      have hB1 := HTB.out y.key
      rw [HSS.out] at hT1
      have hko : strOk y.key := by show y.key.size ≤ maxLen; unfold maxLen; omega
      have HKO := Lib.hid hko
      clear hko
      go_wp2_with fail
      refine (truth_any A B c l y.key _ (HL.out.below (hB7.mono hB)) (Nat.le_trans hB hB7.size) (by omega)).mono ?_
      rintro e w8 ⟨rfl, hb8⟩
      have hB8 : Below w.heap.size w w8 := hB7.trans (hb8.mono hB7.size)
      have hB68 : Below w6.heap.size w6 w8 := hbr.trans (hb8.mono hz7)
      have d1' := (hb8.cell (p := ⟨g, o + k * 2, none⟩) (by show g < _; omega)).trans d1
      have hg8 : g < w8.heap.size := by have := hb8.size; omega
      have hKe : Below w8.heap.size w8 w8.drew := (Below.refl _ _).drew
      have HH8 : Hid (HvO w8 hb F s) := Lib.hid (HH.out.below hB8)
      have HLV : Hid (lowV s.S y.key = lowV s.S y.key) := Lib.hid rfl
      have hlq := fun W (h : HvO W hb F s) => hlow_o h y.key HKO.out
      have hhq := fun W (h : HvO W hb F s) => hhigh_o h y.key HKO.out
      rw [HSS.out] at hhq
      have HLQ := Lib.hid hlq
      have HHQ := Lib.hid hhq
      clear hlq hhq d1 hb8 hbr HLV
      generalize lowV s.S y.key = lv at *
      generalize truthV l y.key = tv at *
      have hn1 : ¬ tv < lv := by omega
      have hn2 : ¬ lv + ssl < tv := by omega
      have hw5 : IntKind.i64.wrap (lv + ssl) = lv + ssl := IntWalk.i64_in _ (by omega)
      have hw6 : wrap64 (lv + ssl - lv) = ssl := by unfold wrap64; omega
      go_wp2_with fail
      refine heldStart 15 (S := fun W => W.cell? ⟨g, o + k * 2, none⟩ = some (.string y.key)) (by kernel_rfl) ?_ (fun hHeld => ?_)
      · exact (hKe.cell (p := ⟨g, o + k * 2, none⟩) hg8).trans d1'
      refine heldTake 0 (v := ?_) (by simp only [List.getElem?_toArray, List.getElem?_cons_succ, List.getElem?_cons_zero]; rfl) (by kernel_rfl) (by intro _ _ _ h; exact h) (by rfl) (by assumption) ?_ ?_
      rotate_left
      · intro W hSw; (try dsimp only at hSw); go_simp; try with_reducible rfl
      simp only [Act.put, List.setIfInBounds_toArray, List.set_cons_zero, List.set_cons_succ]
      refine heldTake 1 (v := ?_) (by simp only [List.getElem?_toArray, List.getElem?_cons_succ, List.getElem?_cons_zero]; rfl) (by kernel_rfl) (by intro _ _ _ h; exact h) (by rfl) (by assumption) ?_ ?_
      rotate_left
      · intro W hSw; (try dsimp only at hSw); go_simp; try with_reducible rfl
      simp only [Act.put, List.setIfInBounds_toArray, List.set_cons_zero, List.set_cons_succ]
      refine heldTake 2 (v := ?_) (by simp only [List.getElem?_toArray, List.getElem?_cons_succ, List.getElem?_cons_zero]; rfl) (by kernel_rfl) (by intro _ _ _ h; exact h) (by rfl) (by assumption) ?_ ?_
      rotate_left
      · intro W hSw; (try dsimp only at hSw); go_simp; try with_reducible rfl
      simp only [Act.put, List.setIfInBounds_toArray, List.set_cons_zero, List.set_cons_succ]
      refine heldTake 3 (v := ?_) (by simp only [List.getElem?_toArray, List.getElem?_cons_succ, List.getElem?_cons_zero]; rfl) (by kernel_rfl) (by intro _ _ _ h; exact h) (by rfl) (by assumption) ?_ ?_
      rotate_left
      · intro W hSw; (try dsimp only at hSw); go_simp; try with_reducible rfl
      simp only [Act.put, List.setIfInBounds_toArray, List.set_cons_zero, List.set_cons_succ]
      refine heldTake 4 (v := ?_) (by simp only [List.getElem?_toArray, List.getElem?_cons_succ, List.getElem?_cons_zero]; rfl) (by kernel_rfl) (by intro _ _ _ h; exact h) (by rfl) (by assumption) ?_ ?_
      rotate_left
      · intro W hSw; (try dsimp only at hSw); go_simp; try with_reducible rfl
      simp only [Act.put, List.setIfInBounds_toArray, List.set_cons_zero, List.set_cons_succ]
      refine heldTake 5 (v := ?_) (by simp only [List.getElem?_toArray, List.getElem?_cons_succ, List.getElem?_cons_zero]; rfl) (by kernel_rfl) (by intro _ _ _ h; exact h) (by rfl) (by assumption) ?_ ?_
      rotate_left
      · intro W hSw; (try dsimp only at hSw); go_simp; try with_reducible rfl
      simp only [Act.put, List.setIfInBounds_toArray, List.set_cons_zero, List.set_cons_succ]
      refine heldTake 7 (v := ?_) (by simp only [List.getElem?_toArray, List.getElem?_cons_succ, List.getElem?_cons_zero]; rfl) (by kernel_rfl) (by intro _ _ _ h; exact h) (by rfl) (by assumption) ?_ ?_
      rotate_left
      · intro W hSw; (try dsimp only at hSw); go_simp; try with_reducible rfl
      simp only [Act.put, List.setIfInBounds_toArray, List.set_cons_zero, List.set_cons_succ]
      refine heldTake 8 (v := ?_) (by simp only [List.getElem?_toArray, List.getElem?_cons_succ, List.getElem?_cons_zero]; rfl) (by kernel_rfl) (by intro _ _ _ h; exact h) (by rfl) (by assumption) ?_ ?_
      rotate_left
      · intro W hSw; (try dsimp only at hSw); go_simp; try with_reducible rfl
      simp only [Act.put, List.setIfInBounds_toArray, List.set_cons_zero, List.set_cons_succ]
      refine heldTake 9 (v := ?_) (by simp only [List.getElem?_toArray, List.getElem?_cons_succ, List.getElem?_cons_zero]; rfl) (by kernel_rfl) (by intro _ _ _ h; exact h) (by rfl) (by assumption) ?_ ?_
      rotate_left
      · intro W hSw; (try dsimp only at hSw); go_simp; try with_reducible rfl
      simp only [Act.put, List.setIfInBounds_toArray, List.set_cons_zero, List.set_cons_succ]
      refine heldTake 10 (v := ?_) (by simp only [List.getElem?_toArray, List.getElem?_cons_succ, List.getElem?_cons_zero]; rfl) (by kernel_rfl) (by intro _ _ _ h; exact h) (by rfl) (by assumption) ?_ ?_
      rotate_left
      · intro W hSw; (try dsimp only at hSw); go_simp; try with_reducible rfl
      simp only [Act.put, List.setIfInBounds_toArray, List.set_cons_zero, List.set_cons_succ]
      refine heldTake 11 (v := ?_) (by simp only [List.getElem?_toArray, List.getElem?_cons_succ, List.getElem?_cons_zero]; rfl) (by kernel_rfl) (by intro _ _ _ h; exact h) (by rfl) (by assumption) ?_ ?_
      rotate_left
      · intro W hSw; (try dsimp only at hSw); go_simp; try with_reducible rfl
      simp only [Act.put, List.setIfInBounds_toArray, List.set_cons_zero, List.set_cons_succ]
      refine heldTake 12 (v := ?_) (by simp only [List.getElem?_toArray, List.getElem?_cons_succ, List.getElem?_cons_zero]; rfl) (by kernel_rfl) (by intro _ _ _ h; exact h) (by rfl) (by assumption) ?_ ?_
      rotate_left
      · intro W hSw; (try dsimp only at hSw); go_simp; try with_reducible rfl
      simp only [Act.put, List.setIfInBounds_toArray, List.set_cons_zero, List.set_cons_succ]
      refine heldCall 6 (by simp only [List.getElem?_toArray, List.getElem?_cons_succ, List.getElem?_cons_zero]; rfl) (by kernel_rfl) (fun K hK => ?_)
      go_simp
      refine (HLQ.out _ (HH8.out.below hKe)).mono ?_
      rintro r w9 ⟨rfl, rfl⟩
      go_wp2_with fail
      refine hK.out _ _ ?_ (fun hHeld => ?_)
      · exact (hKe.cell (p := ⟨g, o + k * 2, none⟩) hg8).trans d1'
      clear hK K
      (try simp only [Act.put, List.setIfInBounds_toArray, List.set_cons_zero, List.set_cons_succ])
      refine heldCall 13 (by simp only [List.getElem?_toArray, List.getElem?_cons_succ, List.getElem?_cons_zero]; rfl) (by kernel_rfl) (fun K hK => ?_)
      go_simp
      refine (HHQ.out _ (HH8.out.below hKe)).mono ?_
      rintro r w9 ⟨rfl, hb9⟩
      have hK0 : Below w8.heap.size w8 w9 := hKe.trans (hb9.mono hKe.size)
      clear hKe hb9
      have hKe := hK0
      clear hK0
      go_wp2_with fail
      refine hK.out _ _ ?_ (fun hHeld => ?_)
      · exact (hKe.cell (p := ⟨g, o + k * 2, none⟩) hg8).trans d1'
      clear hK K
      (try simp only [Act.put, List.setIfInBounds_toArray, List.set_cons_zero, List.set_cons_succ])
      refine heldTake 14 (v := ?_) (by simp only [List.getElem?_toArray, List.getElem?_cons_succ, List.getElem?_cons_zero]; rfl) (by kernel_rfl) (by intro _ _ _ h; exact h) (by rfl) (by assumption) ?_ ?_
      rotate_left
      · intro W hSw; (try dsimp only at hSw); go_simp; try with_reducible rfl
      simp only [Act.put, List.setIfInBounds_toArray, List.set_cons_zero, List.set_cons_succ]
      refine heldTake 15 (v := ?_) (by simp only [List.getElem?_toArray, List.getElem?_cons_succ, List.getElem?_cons_zero]; rfl) (by kernel_rfl) (by intro _ _ _ h; exact h) (by rfl) (by assumption) ?_ ?_
      rotate_left
      · intro W hSw; (try dsimp only at hSw); go_simp; try with_reducible rfl
      simp only [Act.put, List.setIfInBounds_toArray, List.set_cons_zero, List.set_cons_succ]
      refine heldDone (by kernel_rfl) ?_ _
      have HH9 : Hid (HvO w9 hb F s) := Lib.hid (HH8.out.below hKe)
      have hB9 : Below w6.heap.size w6 w9 := hB68.trans (hKe.mono hB68.size)
      clear hKe hHeld d1' HLQ HHQ hB8 hB68
      have hne : (ssl != ssl) = false := by simp
      have hmz : ¬ m + 1 = 0 := by omega
      by_cases h24 : qq < tv
      · have hl0 : (lv == 0) = false := by rw [beq_eq_false_iff_ne]; omega
        go_wp2_with fail
        refine (hslack_o HH9.out).mono ?_
        rintro e w7 ⟨rfl, rfl⟩
        rw [HSS.out]
        go_wp2_with fail
        refine (htotal_o HH9.out).mono ?_
        rintro e w7 ⟨rfl, rfl⟩
        rw [HTT.out]
        go_wp2
        go_roundg (gk - 1)
        case measure => have := HK.out; omega
        case rel => exact ⟨k + 1, by go_num, Lib.hid (by have := HK.out; omega), hB9⟩
      · go_wp2_with fail
        refine (hslack_o HH9.out).mono ?_
        rintro e w7 ⟨rfl, rfl⟩
        rw [HSS.out]
        go_wp2_with fail
        refine (htotal_o HH9.out).mono ?_
        rintro e w7 ⟨rfl, rfl⟩
        rw [HTT.out]
        go_wp2
        go_roundg (gk - 1)
        case measure => have := HK.out; omega
        case rel => exact ⟨k + 1, by go_num, Lib.hid (by have := HK.out; omega), hB9⟩
    · go_wp2
      go_ret
      exact ⟨rfl, hB6.trans (hbr.mono hB6.size)⟩
end Go.Proofs.Ytpjaolablkcpmaa
