/- The walk of KinApart. -/
import Derived.Test.YtbmkejiijkbmlaaPrM
namespace Go.Proofs.Ytbmkejiijkbmlaa
open Go.ChangeShapes Go.WideShapes Go.ChangeAt Go.RowKit Go.Shelf Go.Lib Go.Sort Go.Proofs
set_option linter.unusedVariables false
set_option linter.unusedSimpArgs false

/-- A row of one session, laid anew. -/
theorem sess_one {w : World} {B : Nat} {s : SessD} (h : SessOk w B s) (hB : B ≤ w.heap.size) : SessAt (w.alloc (.cells (sessCells s).toArray 34)) (w.heap.size + 1) (some ⟨w.heap.size, 0, none⟩) [s] := by
  have hb : Below w.heap.size w (w.alloc (.cells (sessCells s).toArray 34)) := (Below.refl _ w).alloc (Nat.le_refl _) _
  have := reads_block (n := 1) (size := 4) (xs := [s].flatMap sessCells) (heap_alloc_new w (.cells (sessCells s).toArray 34)) (by simp) (by simp [sessCells])
  rw [World.size_alloc] at this
  refine ⟨this, fun t ht => ?_⟩
  have e : t = s := by simpa using ht
  subst e
  exact ⟨(h.below (hb.mono hB)).1.more (by omega), h.2⟩

set_option maxRecDepth 20000 in
set_option maxHeartbeats 4000000 in
theorem kapart_walk (A : Option Addr) (c : Nat) (l : List SessD) (s : SessD) (a b : ByteArray) (w : World) (hl : SessAt w w.heap.size A l) (hs : SessOk w w.heap.size s) (hlen : (l.length : Int) ≤ 9223372036854775807) (hka : a.size ≤ maxLen) (hkb : b.size ≤ maxLen) :
    Calls Try.prog 4 #[.slice A l.length c, .agg (sessCells s).toArray, .string a, .string b] w fun e w' => e = .returned (.bool true) ∧ Below w.heap.size w w' := by
  have HL := Lib.hid hl
  have HS := Lib.hid hs
  clear hl hs
  obtain ⟨who, fr, to, xa, xc, xl⟩ := s
  obtain ⟨W1, hW1⟩ : ∃ W1, W1 = w.alloc (.cells #[.string who, .int .i64 fr, .int .i64 to, .slice xa xl.length xc] 34) := ⟨_, rfl⟩
  have hb1 : Below w.heap.size w W1 := by rw [hW1]; exact (Below.refl _ w).alloc (Nat.le_refl _) _
  have d0 : W1.cell? ⟨w.heap.size, 0, none⟩ = some (.string who) := by rw [hW1]; simp
  have d1 : W1.cell? ⟨w.heap.size, 1, none⟩ = some (.int .i64 fr) := by rw [hW1]; simp
  have d2 : W1.cell? ⟨w.heap.size, 2, none⟩ = some (.int .i64 to) := by rw [hW1]; simp
  have d3 : W1.cell? ⟨w.heap.size, 3, none⟩ = some (.slice xa xl.length xc) := by rw [hW1]; simp
  have hz1 : w.heap.size < W1.heap.size := by rw [hW1]; simp
  have hk4 : ∀ W, Below W1.heap.size W1 W → W.cell? ⟨w.heap.size, 0, none⟩ = some (.string who) ∧ W.cell? ⟨w.heap.size, 1, none⟩ = some (.int .i64 fr) ∧ W.cell? ⟨w.heap.size, 2, none⟩ = some (.int .i64 to) ∧ W.cell? ⟨w.heap.size, 3, none⟩ = some (.slice xa xl.length xc) := fun W hb =>
    ⟨(hb.cell (p := ⟨w.heap.size, 0, none⟩) hz1).trans d0, (hb.cell (p := ⟨w.heap.size, 1, none⟩) hz1).trans d1, (hb.cell (p := ⟨w.heap.size, 2, none⟩) hz1).trans d2, (hb.cell (p := ⟨w.heap.size, 3, none⟩) hz1).trans d3⟩
  have HK4 := Lib.hid hk4
  clear d0 d1 d2 d3 hk4
  unfold sessCells
  go_enter Try.func4, Try.ntmps4
  go_wp2_with fail
  rw [← hW1]
  clear hW1
  refine Calls.mono (lives18_any W1) ?_
  rintro e w2 ⟨rfl, hb2⟩
  go_wp2_with fail
  refine Calls.mono (few_any A c w.heap.size l w2 (HL.out.below (hb1.trans (hb2.mono hb1.size))) (by have := hb1.size; have := hb2.size; omega) hlen) ?_
  rintro e w3 ⟨fw, rfl, hfew, hb3⟩
  have hb13 := hb2.trans (hb3.mono hb2.size)
  have hb03 := hb1.trans (hb13.mono hb1.size)
  have HFEW := Lib.hid hfew
  clear hfew
  cases fw with
  | false =>
    go_wp2
    go_ret
    exact ⟨rfl, hb03⟩
  | true =>
    obtain ⟨f1, f2⟩ := HFEW.out rfl
    obtain ⟨c0, c1, c2, c3⟩ := HK4.out _ hb13
    have HF2 := Lib.hid f2
    clear f2 HFEW
    go_wp2_with fail
    have hsa := sess_one (w := w3) (B := w.heap.size) (s := ⟨who, fr, to, xa, xc, xl⟩) (HS.out.below hb03) hb03.size
    unfold sessCells at hsa
    simp only at hsa
    have hba : Below w3.heap.size w3 (w3.alloc (.cells #[.string who, .int .i64 fr, .int .i64 to, .slice xa xl.length xc] 34)) := (Below.refl _ _).alloc (Nat.le_refl _) _
    have qf := few_any (some ⟨w3.heap.size, 0, none⟩) 1 (w3.heap.size + 1) [(⟨who, fr, to, xa, xc, xl⟩ : SessD)] _ hsa (by simp) (by simp)
    have QF := Lib.hid qf
    clear qf hsa
    refine Calls.mono QF.out ?_
    rintro e w4 ⟨fs, rfl, hfews, hb4⟩
    have hb14 := hb13.trans ((hba.trans (hb4.mono hba.size)).mono hb13.size)
    have hb04 := hb1.trans (hb14.mono hb1.size)
    have HFEWS := Lib.hid hfews
    clear hfews hba hb4 QF c0 c1 c2 c3
    cases fs with
    | false =>
      go_wp2
      go_ret
      exact ⟨rfl, hb04⟩
    | true =>
      have hxl : (xl.length : Int) ≤ 20 := ((HFEWS.out rfl).2 ⟨who, fr, to, xa, xc, xl⟩ (by simp)).1
      clear HFEWS
      by_cases h200 : 200 < wrap64 ((a.size : Int) + (b.size : Int))
      · go_wp2
        go_ret
        exact ⟨rfl, hb04⟩
      · go_wp2_with fail
        refine Calls.mono (pof_any A c w.heap.size l w4 (HL.out.below hb04) hb04.size (by omega) (fun s hs => by have := (HF2.out s hs).1; omega)) ?_
        rintro e w5 ⟨pb, F, rfl, hO, hF, hb5⟩
        have hb05 := hb04.trans (hb5.mono hb04.size)
        have hb15 := hb14.trans (hb5.mono hb14.size)
        have HO := Lib.hid hO
        clear hO hF
        go_wp2_with fail
        refine Calls.mono (pof_any A c w.heap.size l w5 (HL.out.below hb05) hb05.size (by omega) (fun s hs => by have := (HF2.out s hs).1; omega)) ?_
        rintro e w6 ⟨qb, G, rfl, hQ, hG, hb6⟩
        have hb06 := hb05.trans (hb6.mono hb05.size)
        have hb16 := hb15.trans (hb6.mono hb15.size)
        have HQ := Lib.hid hQ
        have HG := Lib.hid hG
        have HO6 := Lib.hid ((PairO.own _ _).below HO.out hb6)
        have hap : Apart G F := (PairO.own _ _).apart_new HO.out hG
        have HAP := Lib.hid hap
        obtain ⟨c0, c1, c2, c3⟩ := HK4.out _ hb16
        have hLl : ((itemsOf l).length : Int) ≤ 41 := by unfold itemsOf; rw [List.length_map]; omega
        have qp := padd_any qb G (itemsOf l) ⟨who, fr, to, xa, xc, xl⟩ w.heap.size w6 HQ.out (HS.out.below hb06) hb06.size (by simp only; omega) (by omega)
        unfold sessCells at qp
        simp only at qp
        have QP := Lib.hid qp
        clear hQ hG hap HO qp
        go_wp2_with fail
        refine Calls.mono QP.out ?_
        rintro e w7 ⟨rfl, G', hQ7, hU7⟩
        have hO7 := (PairO.own pb (itemsOf l)).keep HO6.out hU7.keeps (fun k hf hg => HAP.out k hg hf)
        have hk17 : Below W1.heap.size W1 w7 := hU7.belowB hb16 (Nat.le_refl _) (fun k hk => by have := HG.out k hk; have := hb15.size; omega)
        have hk07 : Below w.heap.size w w7 := hb1.trans (hk17.mono hb1.size)
        have HO7 := Lib.hid hO7.rd
        have HQ7 := Lib.hid hQ7.rd
        clear hO7 hQ7 hU7 HQ HO6 QP c0 c1 c2 c3
        have hKe : Below w7.heap.size w7 w7.drew := ⟨rfl, rfl, rfl, Nat.le_refl _, fun _ _ => rfl⟩
        have q5 := has_any ⟨who, fr, to, xa, xc, xl⟩ a w.heap.size w7.drew (HS.out.below (hk07.trans (hKe.mono hk07.size))) hk07.size (by simp only; omega)
        have q6 := fun W (hb : Below w7.heap.size w7.drew W) => has_any ⟨who, fr, to, xa, xc, xl⟩ b w.heap.size W (HS.out.below ((hk07.trans (hKe.mono hk07.size)).trans (hb.mono hk07.size))) (by have := hk07.size; have := hb.size; have h3 : w7.drew.heap.size = w7.heap.size := rfl; omega) (by simp only; omega)
        unfold sessCells at q5 q6
        simp only at q5 q6
        have hpa := apart_none (itemsOf l) xl a b
        have hpb := apart_both (itemsOf l) xl a b
        have hpa' : decide (a ∈ xl) = false → decide (b ∈ xl) = false → likeNum (itemsOf l ++ [xl]) a b = likeNum (itemsOf l) a b ∧ likeDen (itemsOf l ++ [xl]) a b = likeDen (itemsOf l) a b := fun h1 h2 => hpa (by simpa using h1) (by simpa using h2)
        have hpb' : decide (a ∈ xl) = true → decide (b ∈ xl) = true → likeNum (itemsOf l) a b * likeDen (itemsOf l ++ [xl]) a b ≤ likeNum (itemsOf l ++ [xl]) a b * likeDen (itemsOf l) a b := fun h1 h2 => hpb (by simpa using h1) (by simpa using h2)
        have hL1 : ((itemsOf l ++ [xl]).length : Int) ≤ 100000 := by simp; omega
        have hnb := likeNum_bd (itemsOf l) a b (by omega)
        have hdb := likeDen_bd (itemsOf l) a b (by omega)
        have hnb' := likeNum_bd (itemsOf l ++ [xl]) a b hL1
        have hdb' := likeDen_bd (itemsOf l ++ [xl]) a b hL1
        have q7 := fun W (hb : Below w7.heap.size w7 W) => like_any pb _ (itemsOf l) a b W ((PRd.own pb _).below HO7.out hb) hka hkb (by omega)
        have q8 := fun W (hb : Below w7.heap.size w7 W) => like_any qb _ (itemsOf l ++ [xl]) a b W ((PRd.own qb _).below HQ7.out hb) hka hkb hL1
        clear hpa hpb
        generalize likeNum (itemsOf l) a b = nu at *
        generalize likeDen (itemsOf l) a b = de at *
        generalize likeNum (itemsOf l ++ [xl]) a b = nv at *
        generalize likeDen (itemsOf l ++ [xl]) a b = df at *
        generalize decide (a ∈ xl) = ua at *
        generalize decide (b ∈ xl) = ub at *
        have HPA := Lib.hid hpa'
        have HPB := Lib.hid hpb'
        have Q7 := Lib.hid q7
        have Q8 := Lib.hid q8
        clear hpa' hpb' q7 q8
        have Q5 := Lib.hid q5
        have Q6 := Lib.hid q6
        have HBX : Hid (Below w7.heap.size w7.drew w7.drew) := Lib.hid (Below.refl _ _)
        have hk4' : ∀ W, Below w7.heap.size w7.drew W → W.cell? ⟨w.heap.size, 0, none⟩ = some (.string who) ∧ W.cell? ⟨w.heap.size, 1, none⟩ = some (.int .i64 fr) ∧ W.cell? ⟨w.heap.size, 2, none⟩ = some (.int .i64 to) ∧ W.cell? ⟨w.heap.size, 3, none⟩ = some (.slice xa xl.length xc) := fun W hb =>
          HK4.out W ((hk17.trans (hKe.mono hk17.size)).trans (hb.mono hk17.size))
        have HK4' := Lib.hid hk4'
        clear q5 q6 hk4'
        go_wp2_with fail
        refine heldStart 7 (S := fun W => W.cell? ⟨w.heap.size, 0, none⟩ = some (.string who) ∧ W.cell? ⟨w.heap.size, 1, none⟩ = some (.int .i64 fr) ∧ W.cell? ⟨w.heap.size, 2, none⟩ = some (.int .i64 to) ∧ W.cell? ⟨w.heap.size, 3, none⟩ = some (.slice xa xl.length xc)) (by kernel_rfl) ?_ (fun hHeld => ?_)
        · exact HK4'.out _ HBX.out
        refine heldTake 0 (v := ?_) (by simp only [List.getElem?_toArray, List.getElem?_cons_succ, List.getElem?_cons_zero]; rfl) (by kernel_rfl) (by intro _ _ _ h; exact h) (by rfl) (by assumption) ?_ ?_
        rotate_left
        · intro W hSw; (try dsimp only at hSw); go_simp; try with_reducible rfl
        simp only [Act.put, List.setIfInBounds_toArray, List.set_cons_zero, List.set_cons_succ]
        refine heldTake 1 (v := ?_) (by simp only [List.getElem?_toArray, List.getElem?_cons_succ, List.getElem?_cons_zero]; rfl) (by kernel_rfl) (by intro _ _ _ h; exact h) (by rfl) (by assumption) ?_ ?_
        rotate_left
        · intro W hSw; (try dsimp only at hSw); go_simp; try with_reducible rfl
        simp only [Act.put, List.setIfInBounds_toArray, List.set_cons_zero, List.set_cons_succ]
        refine heldTake 3 (v := ?_) (by simp only [List.getElem?_toArray, List.getElem?_cons_succ, List.getElem?_cons_zero]; rfl) (by kernel_rfl) (by intro _ _ _ h; exact h) (by rfl) (by assumption) ?_ ?_
        rotate_left
        · intro W hSw; (try dsimp only at hSw); go_simp; try with_reducible rfl
        simp only [Act.put, List.setIfInBounds_toArray, List.set_cons_zero, List.set_cons_succ]
        refine heldTake 4 (v := ?_) (by simp only [List.getElem?_toArray, List.getElem?_cons_succ, List.getElem?_cons_zero]; rfl) (by kernel_rfl) (by intro _ _ _ h; exact h) (by rfl) (by assumption) ?_ ?_
        rotate_left
        · intro W hSw; (try dsimp only at hSw); go_simp; try with_reducible rfl
        simp only [Act.put, List.setIfInBounds_toArray, List.set_cons_zero, List.set_cons_succ]
        refine heldCall 2 (by simp only [List.getElem?_toArray, List.getElem?_cons_succ, List.getElem?_cons_zero]; rfl) (by kernel_rfl) (fun K hK => ?_)
        go_simp
        refine Calls.mono Q5.out ?_
        rintro e w9 ⟨rfl, hb9⟩
        have hb9' : Hid (Below w7.heap.size w7.drew w9) := Lib.hid hb9
        clear HBX
        have HBX := hb9'
        clear hb9 hb9'
        go_wp2_with fail
        refine hK.out _ _ ?_ (fun hHeld => ?_)
        · exact HK4'.out _ HBX.out
        clear hK K
        (try simp only [Act.put, List.setIfInBounds_toArray, List.set_cons_zero, List.set_cons_succ])
        refine heldCall 5 (by simp only [List.getElem?_toArray, List.getElem?_cons_succ, List.getElem?_cons_zero]; rfl) (by kernel_rfl) (fun K hK => ?_)
        go_simp
        refine Calls.mono (Q6.out _ HBX.out) ?_
        rintro e w10 ⟨rfl, hb10⟩
        have hbx := Lib.hid (HBX.out.trans (hb10.mono (by have := HBX.out.size; exact this)))
        clear HBX
        have HBX := hbx
        clear hbx hb10
        go_wp2_with fail
        refine hK.out _ _ ?_ (fun hHeld => ?_)
        · exact HK4'.out _ HBX.out
        clear hK K
        (try simp only [Act.put, List.setIfInBounds_toArray, List.set_cons_zero, List.set_cons_succ])
        refine heldTake 6 (v := ?_) (by simp only [List.getElem?_toArray, List.getElem?_cons_succ, List.getElem?_cons_zero]; rfl) (by kernel_rfl) (by intro _ _ _ h; exact h) (by rfl) (by assumption) ?_ ?_
        rotate_left
        · intro W hSw; (try dsimp only at hSw); go_simp; try with_reducible rfl
        simp only [Act.put, List.setIfInBounds_toArray, List.set_cons_zero, List.set_cons_succ]
        refine heldTake 7 (v := ?_) (by simp only [List.getElem?_toArray, List.getElem?_cons_succ, List.getElem?_cons_zero]; rfl) (by kernel_rfl) (by intro _ _ _ h; exact h) (by rfl) (by assumption) ?_ ?_
        rotate_left
        · intro W hSw; (try dsimp only at hSw); go_simp; try with_reducible rfl
        simp only [Act.put, List.setIfInBounds_toArray, List.set_cons_zero, List.set_cons_succ]
        refine heldDone (by kernel_rfl) ?_ _
        have hb710 : Below w7.heap.size w7 w10 := hKe.trans HBX.out
        go_wp2_with fail
        refine Calls.mono (Q7.out _ hb710) ?_
        rintro e w11 ⟨rfl, hb11⟩
        have hb711 := hb710.trans (hb11.mono hb710.size)
        go_wp2_with fail
        refine Calls.mono (Q8.out _ hb711) ?_
        rintro e w12 ⟨rfl, hb12⟩
        have hb712 := hb711.trans (hb12.mono hb711.size)
        have hbz : Below w.heap.size w ((w12.alloc (.cells #[.int .i64 nu, .int .i64 de] 28)).alloc (.cells #[.int .i64 nv, .int .i64 df] 28)) := ((hk07.trans (hb712.mono hk07.size)).alloc (by have := hk07.size; have := hb712.size; omega) _).alloc (by have := hk07.size; have := hb712.size; simp; omega) _
        clear hb11 hb12 hb711 hb710 HBX Q5 Q6 Q7 Q8
        cases ua
        · cases ub
          · obtain ⟨x1, x2⟩ := HPA.out rfl rfl
            subst x1 x2
            have E := fun W => eql_ratioK nv df nv df W
            go_wp2
            go_ret
            exact ⟨by simp, hbz⟩
          · go_wp2
            go_ret
            exact ⟨rfl, hbz⟩
        · cases ub
          · go_wp2
            go_ret
            exact ⟨rfl, hbz⟩
          · have hle := HPB.out rfl rfl
            have qc := fun W => compare_any nu de nv df (by omega) (by omega) (by omega) (by omega) (by omega) (by omega) (by omega) (by omega) W
            have hc : cmpInt (nu * df) (nv * de) ≤ 0 := by unfold cmpInt; split <;> (try split) <;> omega
            have QC := Lib.hid qc
            clear qc
            generalize cmpInt (nu * df) (nv * de) = cc at *
            go_wp2_with fail
            refine Calls.mono (QC.out _) ?_
            rintro e w13 ⟨rfl, hg⟩
            have hbf := hbz.trans (hg.below.mono hbz.size)
            go_wp2
            go_ret
            exact ⟨rfl, hbf⟩
end Go.Proofs.Ytbmkejiijkbmlaa
