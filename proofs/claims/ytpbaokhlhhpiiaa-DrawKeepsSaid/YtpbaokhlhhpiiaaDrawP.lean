/- The walk of DrawKeeps. -/
import Derived.Test.YtpbaokhlhhpiiaaDrawO
import Derived.Test.YtpbaokhlhhpiiaaIn8
namespace Go.Proofs.Ytpbaokhlhhpiiaa
open Go.ChangeShapes Go.WideShapes Go.ChangeAt Go.RowKit
set_option linter.unusedVariables false
set_option linter.unusedSimpArgs false

theorem keep_step {every : Int} {P D M : List ByteArray} {r i a b : Nat} (h : M.drop i = mixFrom every (r + 1) i (P.drop a) (D.drop b)) (hi : i < M.length) (ha : a < P.length) :
    (1 ≤ every ∧ ((i : Int) + 1) % every = 0 ∧ ∃ hb : b < D.length, M[i] = D[b] ∧ M.drop (i + 1) = mixFrom every r (i + 1) (P.drop a) (D.drop (b + 1))) ∨
    (M[i] = P[a] ∧ M.drop (i + 1) = mixFrom every r (i + 1) (P.drop (a + 1)) (D.drop b)) := by
  rw [List.drop_eq_getElem_cons hi, List.drop_eq_getElem_cons ha] at h
  unfold mixFrom at h
  by_cases he : 1 ≤ every ∧ ((i : Int) + 1) % every = 0
  · rw [if_pos he] at h
    rcases Nat.lt_or_ge b D.length with hb | hb
    · rw [List.drop_eq_getElem_cons hb] at h
      simp only [List.cons.injEq] at h
      refine .inl ⟨he.1, he.2, hb, h.1, ?_⟩
      rw [h.2, List.drop_eq_getElem_cons ha]
    · rw [List.drop_of_length_le hb] at h
      simp only [List.cons.injEq] at h
      exact .inr ⟨h.1, by rw [h.2, List.drop_of_length_le hb]⟩
  · rw [if_neg he] at h
    simp only [List.cons.injEq] at h
    exact .inr ⟨h.1, h.2⟩

set_option maxRecDepth 20000 in
set_option maxHeartbeats 4000000 in
theorem drawKeeps_walk (seed : Int) (A1 A2 : Option Addr) (c1 c2 : Nat) (main other : List ByteArray) (every : Int) (w : World) (h1 : StrsAt w w.heap.size A1 main) (h2 : StrsAt w w.heap.size A2 other) (hl1 : (main.length : Int) ≤ 9223372036854775807) (hl2 : (other.length : Int) ≤ 9223372036854775807) (he : every ≤ 9223372036854775807) :
    Calls Try.prog 7 #[.int .u64 seed, .slice A1 main.length c1, .slice A2 other.length c2, .int .i64 every] w fun e w' => e = .returned (.bool true) ∧ Below w.heap.size w w' := by
  by_cases hg : bigB main 30 = false ∧ bigB other 30 = false
  · obtain ⟨g1, g2⟩ := hg
    have hno1 := bigB_no g1
    have hno2 := bigB_no g2
    have hm30 : (main.length : Int) ≤ 30 := hno1.1
    have ho30 : (other.length : Int) ≤ 30 := hno2.1
    have hol := onceV_len main
    have hal : (sampleAll seed other).length ≤ other.length := by rw [sampleAll_len]; exact onceV_len other
    have G1 := Lib.hid g1
    have G2 := Lib.hid g2
    have HPS : Hid (∀ s ∈ onceV main, s.size ≤ maxLen) := Lib.hid (fun s hs => h1.2 s (mem_onceV.1 hs))
    have HAS : Hid (∀ s ∈ sampleAll seed other, s.size ≤ maxLen) := Lib.hid (fun s hs => h2.2 s (mem_sampleAll.1 hs))
    have HDS : Hid (∀ s ∈ freshV seed main other, s.size ≤ maxLen) := Lib.hid (fun s hs => h2.2 s (fresh_mem hs))
    have HMS : Hid (∀ s ∈ mixV seed main other every, s.size ≤ maxLen) := Lib.hid (fun s hs => by
      rcases mem_mix hs with h | h
      · exact h1.2 s (mem_onceV.1 h)
      · exact h2.2 s (fresh_mem h))
    have HDP : Hid (∀ s ∈ freshV seed main other, memB s (onceV main) = false) := Lib.hid (fun s hs => memB_not.2 (fresh_apart hs))
    have HFR : Hid (freshV seed main other = (sampleAll seed other).filter (fun x => !memB x (onceV main))) := Lib.hid rfl
    have EM : Hid ((mixV seed main other every).drop 0 = mixFrom every (onceV main).length 0 ((onceV main).drop 0) ((freshV seed main other).drop 0)) := Lib.hid rfl
    have HML : Hid ((mixV seed main other every).length = (onceV main).length) := Lib.hid (mixV_len seed every main other)
    have HSV : Hid (sampleV seed 100 other = sampleAll seed other) := Lib.hid (smpV_all seed 100 other (by omega))
    have q1 := fun W c1 c2 (a : StrsAt W w.heap.size A1 main) (b : StrsAt W w.heap.size A2 other) hB => mix_any seed every A1 A2 w.heap.size c1 c2 main other W a b hB (by omega) (by omega) he
    have q4 := fun W c (a : StrsAt W w.heap.size A1 main) hB => once_any A1 w.heap.size c main W a hB (by omega)
    have q5 := fun W c (a : StrsAt W w.heap.size A2 other) hB => sample_any seed 100 A2 w.heap.size c other W a hB (by omega) (by omega)
    rw [HSV.out] at q5
    have Q1 := Lib.hid q1
    have Q4 := Lib.hid q4
    have Q5 := Lib.hid q5
    clear q1 q4 q5 g1 g2 hno1 hno2 HSV
    generalize onceV main = P at *
    generalize mixV seed main other every = M at *
    generalize hAL : sampleAll seed other = all at *
    clear hAL
    generalize freshV seed main other = D at *
    have hMlen : M.length ≤ P.length := by rw [HML.out]; exact Nat.le_refl _
    have hMlen2 : P.length ≤ M.length := by rw [HML.out]; exact Nat.le_refl _
    go_enter Try.func7, Try.ntmps7
    go_wp2_with fail
    refine (lives_any _).mono ?_
    rintro e w1 ⟨rfl, hb1⟩
    have z1 := hb1.size
    go_wp2_with fail
    refine (big_any A1 w.heap.size c1 main 30 _ (h1.below hb1) hl1).mono ?_
    rintro e w1' ⟨rfl, rfl⟩
    rw [G1.out]
    go_wp2_with fail
    refine (big_any A2 w.heap.size c2 other 30 _ (h2.below hb1) hl2).mono ?_
    rintro e w1' ⟨rfl, rfl⟩
    rw [G2.out]
    go_wp2_with fail
    refine (Q1.out _ c1 c2 (h1.below hb1) (h2.below hb1) z1).mono ?_
    rintro e w2 ⟨M2, m2, rfl, ho2, hb2⟩
    have z2 := hb2.size
    have rM2 : StrsAt w2 w2.heap.size M2 M := StrsAt.of_own ho2 HMS.out
    have hbw2 : Below w.heap.size w w2 := hb1.trans (hb2.mono z1)
    clear ho2 hb2 hb1
    go_wp2_with fail
    refine (Q4.out _ c1 (h1.below hbw2) (by omega)).mono ?_
    rintro e w3 ⟨P3, p3, rfl, ho3, hb3⟩
    have z3 := hb3.size
    have rP3 : StrsAt w3 w3.heap.size P3 P := StrsAt.of_own ho3 HPS.out
    have rM3 : StrsAt w3 w3.heap.size M2 M := (rM2.below hb3).more z3
    have hbw3 : Below w.heap.size w w3 := hbw2.trans (hb3.mono (by omega))
    have hb3a : Below w3.heap.size w3 (w3.alloc (.cells #[] 9)) := (Below.refl _ _).alloc (Nat.le_refl _) _
    have hbwa : Below w.heap.size w (w3.alloc (.cells #[] 9)) := hbw3.trans (hb3a.mono (by omega))
    clear ho3 hb3 rM2 hbw2
    go_wp2_with fail
    refine (Q5.out _ c2 (h2.below hbwa) (by simp; omega)).mono ?_
    rintro e w4 ⟨L4, l4, rfl, ho4, hb4⟩
    have z4 := hb4.size
    simp at z4
    have r4 : StrsAt w4 w4.heap.size L4 all := StrsAt.of_own ho4 HAS.out
    have fr4 : ∀ b o sp, L4 = some ⟨b, o, sp⟩ → w3.heap.size + 1 ≤ b ∧ b < w4.heap.size := fun b o sp e => by
      have := ho4.lt b (by rw [e]; rfl)
      simpa using this
    have hb34 : Below w3.heap.size w3 w4 := hb3a.trans (hb4.mono (by simp))
    have rP4 : StrsAt w4 w3.heap.size P3 P := rP3.below hb34
    have rM4 : StrsAt w4 w3.heap.size M2 M := rM3.below hb34
    have hE : w4.ownsRow w3.heap.size 9 1 (.slice (some ⟨w3.heap.size, 0, none⟩) 0 0) 0 [] := own_empty (Nat.le_refl _) ((hb4.block _ (by simp)).trans (heap_alloc_new w3 _))
    have hbw4 : Below w.heap.size w w4 := hbw3.trans (hb34.mono (by omega))
    have FR4 := Lib.hid fr4
    clear ho4 hb4 hb3a hbwa rP3 rM3 fr4 hb34 hbw3
    go_wp2_with fail
    go_loopg [11, 13] all.length (fun rest v i wr => ∃ (k : Nat) (A3 : Option Addr) (c3 : Nat), i = .int .i64 k ∧ v = .slice A3 ((all.take k).filter (fun x => !memB x P)).length c3 ∧ Hid (k + rest = all.length) ∧ wr.ownsRow w3.heap.size 9 1 (.slice A3 ((all.take k).filter (fun x => !memB x P)).length c3) ((all.take k).filter (fun x => !memB x P)).length (((all.take k).filter (fun x => !memB x P)).map Value.string) ∧ Below w3.heap.size w4 wr ∧ StrsAt wr w4.heap.size L4 all ∧ (∀ j, (Value.slice A3 ((all.take k).filter (fun x => !memB x P)).length c3).ownBlock = some j → j = w3.heap.size ∨ w4.heap.size ≤ j))
    case atStart => exact ⟨0, some ⟨w3.heap.size, 0, none⟩, 0, rfl, rfl, Lib.hid (by simp), hE, Below.refl _ _, r4, fun j hj => .inl (by injection hj with hj; exact hj.symm)⟩
    case round =>
      obtain ⟨k, A3, c3, rfl, rfl, HK, hown, hbw, hra, hlc⟩ := hrel
      have zr := hbw.size
      have hfl : ((all.take k).filter (fun x => !memB x P)).length ≤ all.length := by
        have := List.length_filter_le (fun x => !memB x P) (all.take k)
        simp at this; omega
      by_cases hk : (k : Int) < (all.length : Int)
      · have hkl : k < all.length := by omega
        have hst := filter_take_snoc (fun x => !memB x P) all k hkl
        obtain ⟨b2, o2, rfl, hbl, hcell, _⟩ := hra.one hkl
        have hin := in8_any P3 w3.heap.size p3 P all[k] wr (rP4.below hbw) (by omega)
        generalize (all.take k).filter (fun x => !memB x P) = out at *
        generalize all[k] = x at *
        have HLC := Lib.hid hlc
        clear hlc
        cases hm : memB x P with
        | true =>
          rw [hm] at hin hst
          have HST : Hid ((all.take (k + 1)).filter (fun x => !memB x P) = out) := Lib.hid (by rw [hst]; simp)
          have HIN := Lib.hid hin
          clear hin hst hm
          go_wp2_with fail
          refine HIN.out.mono ?_
          rintro e w5 ⟨rfl, rfl⟩
          go_wp2
          go_roundg (gk - 1)
          case measure => have := HK.out; omega
          case rel => exact ⟨k + 1, A3, c3, by go_num, by rw [HST.out], Lib.hid (by have := HK.out; omega), by rw [HST.out]; exact hown, hbw, hra, by rw [HST.out]; exact HLC.out⟩
        | false =>
          rw [hm] at hin hst
          have HST : Hid ((all.take (k + 1)).filter (fun x => !memB x P) = out ++ [x]) := Lib.hid (by rw [hst]; simp)
          have HIN := Lib.hid hin
          clear hin hst hm
          go_wp2_with fail
          refine HIN.out.mono ?_
          rintro e w5 ⟨rfl, rfl⟩
          go_wp2_with (at_builtin; refine wpList_append_cellL wr rfl (.tmp 49) (.tmp 54) _ rfl w3.heap.size 9 (.string ByteArray.empty) 16 Try.underlying23 str_info rfl A3 out.length c3 _ rfl hown (.string x) rfl rfl (by omega) (by unfold maxLen; omega) (by omega) ?_; intro A4 c4 w5 hown4 hg4 hb4 hl4)
          have hz4 := hg4.size
          have hra4 : StrsAt w5 w4.heap.size (some ⟨b2, o2, none⟩) all := hra.keep (Keeps.ofGrown hg4) (by omega) (fun b o sp e hj => by
            have h1 := FR4.out b o sp e
            rcases HLC.out b hj.symm with h2 | h2 <;> omega)
          go_roundg (gk - 1)
          case measure => have := HK.out; omega
          case rel =>
            refine ⟨k + 1, A4, c4, by go_num, by rw [HST.out]; simp, Lib.hid (by have := HK.out; omega), by rw [HST.out]; simpa using hown4, hbw.trans hb4, hra4, ?_⟩
            rw [HST.out]
            intro j hj
            have hj' : (Value.slice A4 (out.length + 1) c4).ownBlock = some j := by rw [← hj]; simp [Value.ownBlock]
            rcases hl4 with h | h
            · exact HLC.out j (by rw [← h]; exact hj')
            · rw [h] at hj'
              injection hj' with hj'
              omega
      · have hkl : k = all.length := by have := HK.out; omega
        have hfin : (all.take k).filter (fun x => !memB x P) = D := by rw [hkl, List.take_length]; exact HFR.out.symm
        clear hra hlc
        generalize (all.take k).filter (fun x => !memB x P) = d0 at *
        subst hfin
        clear hkl HFR
        obtain ⟨w5, rfl⟩ : ∃ w5 : World, w5 = wr := ⟨_, rfl⟩
        have rD5 : StrsAt w5 w5.heap.size A3 d0 := StrsAt.of_own hown HDS.out
        have rP5 : StrsAt w5 w5.heap.size P3 P := (rP4.below hbw).more (by omega)
        have rM5 : StrsAt w5 w5.heap.size M2 M := (rM4.below hbw).more (by omega)
        have hbw5 : Below w.heap.size w w5 := hbw4.trans (hbw.mono (by omega))
        have hdl : (d0.length : Int) ≤ 30 := by omega
        clear hown rP4 rM4 hE r4 FR4 hbw
        go_wp2_with fail
        go_loopg [14, 15, 16] M.length (fun rest av bv i wr => ∃ (k a b : Nat), i = .int .i64 (k : Int) ∧ av = .int .i64 (a : Int) ∧ bv = .int .i64 (b : Int) ∧ Hid (k + rest = M.length) ∧ Hid (a + b = k) ∧ b ≤ d0.length ∧ Hid (M.drop k = mixFrom every rest k (P.drop a) (d0.drop b)) ∧ Grew w5 wr)
        case atStart => exact ⟨0, 0, 0, rfl, rfl, rfl, Lib.hid (by omega), Lib.hid rfl, Nat.zero_le _, Lib.hid (by rw [HML.out]; exact EM.out), Grew.refl _⟩
        case round =>
          obtain ⟨k, a, b, rfl, rfl, rfl, HK, HAB, hbd0, HD, hgr⟩ := hrel
          have hbg := hgr.below
          have rM := rM5.below hbg
          have rP := rP5.below hbg
          have rD := rD5.below hbg
          have hab1 : a + b ≤ k := by rw [HAB.out]; exact Nat.le_refl _
          by_cases hk2 : (k : Int) < (M.length : Int)
          · have hkM : k < M.length := by omega
            obtain ⟨r, rfl⟩ : ∃ r, gk = r + 1 := ⟨gk - 1, by have := HK.out; omega⟩
            have haP : a < P.length := by omega
            obtain ⟨bm, om, rfl, hbm, hcm, _⟩ := rM.one hkM
            have hin := in8_any P3 w5.heap.size p3 P M[k] wr rP (by omega)
            rcases keep_step HD.out hkM haP with ⟨e1, e2, hbD, hMi, hD2⟩ | ⟨hMi, hD2⟩
            · have hmem : memB M[k] P = false := by rw [hMi]; exact HDP.out _ (List.getElem_mem hbD)
              rw [hmem] at hin
              obtain ⟨bd, od, rfl, hbd, hcd, _⟩ := rD.one hbD
              rw [← hMi] at hcd
              have HIN := Lib.hid hin
              have HD2 := Lib.hid hD2
              have hb1 : ((b : Int) == (d0.length : Int)) = false := by rw [beq_eq_false_iff_ne]; omega
              have hbI : (b : Int) < (d0.length : Int) := by omega
              have e2b : (((k : Int) + 1) % every == 0) = true := by simp [e2]
              have e1d : decide (every < 1) = false := by simp; omega
              clear hmem hin hD2 hMi e2
              generalize M[k] = x at *
              go_wp2_with fail
              refine HIN.out.mono ?_
              rintro e w7 ⟨rfl, rfl⟩
              go_wp2_with fail
              go_quiet (fail)
              go_wp2
              go_roundg r
              case measure => omega
              case rel => exact ⟨k + 1, a, b + 1, by go_num, rfl, by go_num, Lib.hid (by have := HK.out; omega), Lib.hid (by have := HAB.out; omega), by omega, HD2, hgr.drewN _⟩
            · have hmem : memB M[k] P = true := by rw [hMi]; exact memB_iff.2 (List.getElem_mem haP)
              rw [hmem] at hin
              obtain ⟨bp, op, rfl, hbp, hcp, _⟩ := rP.one haP
              rw [← hMi] at hcp
              have HIN := Lib.hid hin
              have HD2 := Lib.hid hD2
              have ha1 : ((a : Int) == (P.length : Int)) = false := by rw [beq_eq_false_iff_ne]; omega
              have haI : (a : Int) < (P.length : Int) := by omega
              clear hmem hin hD2 hMi
              generalize M[k] = x at *
              go_wp2_with fail
              refine HIN.out.mono ?_
              rintro e w7 ⟨rfl, rfl⟩
              go_wp2_with fail
              go_quiet (fail)
              go_wp2
              go_roundg r
              case measure => omega
              case rel => exact ⟨k + 1, a + 1, b, by go_num, by go_num, rfl, Lib.hid (by have := HK.out; omega), Lib.hid (by have := HAB.out; omega), hbd0, HD2, hgr.drewN _⟩
          · have hke : k = M.length := by have := HK.out; omega
            have hfin : ((a : Int) + (b : Int) == (P.length : Int)) = true := by
              have := HAB.out
              have := HML.out
              rw [beq_iff_eq]; omega
            clear hke
            go_wp2
            go_ret
            refine ⟨?_, hbw5.trans (hbg.mono (by omega))⟩
            have hs : (a : Int) + (b : Int) = (P.length : Int) := beq_iff_eq.1 hfin
            have hw : Value.bool (wrap64 ((a : Int) + (b : Int)) == (P.length : Int)) = .bool true := by
              rw [show wrap64 ((a : Int) + (b : Int)) = (a : Int) + (b : Int) from by unfold wrap64; omega, hfin]
            exact congrArg Ending.returned hw
  · have g2 : bigB main 30 = true ∨ (bigB main 30 = false ∧ bigB other 30 = true) := by
      cases h : bigB main 30 with
      | true => exact .inl rfl
      | false =>
        cases h' : bigB other 30 with
        | true => exact .inr ⟨rfl, rfl⟩
        | false => exact absurd ⟨h, h'⟩ hg
    clear hg
    rcases g2 with g | ⟨g, g'⟩
    · have G := Lib.hid g
      clear g
      go_enter Try.func7, Try.ntmps7
      go_wp2_with fail
      refine (lives_any _).mono ?_
      rintro e w1 ⟨rfl, hb1⟩
      go_wp2_with fail
      refine (big_any A1 w.heap.size c1 main 30 _ (h1.below hb1) hl1).mono ?_
      rintro e w1' ⟨rfl, rfl⟩
      rw [G.out]
      go_wp2
      go_ret
      exact ⟨rfl, hb1⟩
    · have G := Lib.hid g
      have G' := Lib.hid g'
      clear g g'
      go_enter Try.func7, Try.ntmps7
      go_wp2_with fail
      refine (lives_any _).mono ?_
      rintro e w1 ⟨rfl, hb1⟩
      go_wp2_with fail
      refine (big_any A1 w.heap.size c1 main 30 _ (h1.below hb1) hl1).mono ?_
      rintro e w1' ⟨rfl, rfl⟩
      rw [G.out]
      go_wp2_with fail
      refine (big_any A2 w.heap.size c2 other 30 _ (h2.below hb1) hl2).mono ?_
      rintro e w1' ⟨rfl, rfl⟩
      rw [G'.out]
      go_wp2
      go_ret
      exact ⟨rfl, hb1⟩
end Go.Proofs.Ytpbaokhlhhpiiaa
