/- The walk of KinJoins. -/
import Derived.Test.YtbmkejiijkbmlaaPrK
import Derived.Test.YtbmkejiijkbmlaaPrT
namespace Go.Proofs.Ytbmkejiijkbmlaa
open Go.ChangeShapes Go.WideShapes Go.ChangeAt Go.RowKit Go.Shelf Go.Lib Go.Sort Go.Proofs
set_option linter.unusedVariables false
set_option linter.unusedSimpArgs false

theorem joins_self (M : List (List ByteArray)) (a b : ByteArray) : likeNum (M ++ M) a b * likeDen M a b = likeNum M a b * likeDen (M ++ M) a b := by
  have h1 : cnt1 (M ++ M) a = cnt1 M a + cnt1 M a := congrFun (cnt1_app M M) a
  have h2 : cnt1 (M ++ M) b = cnt1 M b + cnt1 M b := congrFun (cnt1_app M M) b
  have h3 := cnt2_app M M a b
  unfold likeNum likeDen
  rw [h1, h2, h3]
  generalize cnt1 M a = x
  generalize cnt1 M b = y
  generalize cnt2 M a b = n
  by_cases h0 : x = 0 ∨ y = 0
  · have h0' : x + x = 0 ∨ y + y = 0 := by omega
    rw [if_pos h0, if_pos h0', if_pos h0, if_pos h0']
  · have h0' : ¬ (x + x = 0 ∨ y + y = 0) := by omega
    rw [if_neg h0, if_neg h0', if_neg h0, if_neg h0']
    split
    · rfl
    · grind
theorem sess_infoK : (Try.prog.info? 34).map (fun i => (i.zero, i.size, i.bytes)) = some (some (.agg #[.string ByteArray.empty, .int .i64 0, .int .i64 0, .slice none 0 0]), 4, 56) := by kernel_rfl
theorem sess_one' (l : List SessD) : ∀ u ∈ l.flatMap sessCells, u.oneCell' = true := by
  intro u hu
  obtain ⟨s, -, hs⟩ := List.mem_flatMap.1 hu
  simp only [sessCells, List.mem_cons, List.not_mem_nil, or_false] at hs
  rcases hs with rfl | rfl | rfl | rfl <;> rfl
theorem itemsOf_app (l m : List SessD) : itemsOf (l ++ m) = itemsOf l ++ itemsOf m := by unfold itemsOf; rw [List.map_append]
theorem sess_app {w : World} {B : Nat} {A : Option Addr} {l m : List SessD} (h : Reads w w.heap.size 4 A (l.length + m.length) (l.flatMap sessCells ++ m.flatMap sessCells)) (hl : ∀ s ∈ l, SessOk w B s) (hm : ∀ s ∈ m, SessOk w B s) (hB : B ≤ w.heap.size) : SessAt w w.heap.size A (l ++ m) := by
  refine ⟨by rw [List.length_append, List.flatMap_append]; exact h, fun s hs => ?_⟩
  have : SessOk w B s := by
    rcases List.mem_append.1 hs with hs | hs
    · exact hl s hs
    · exact hm s hs
  exact ⟨this.1.more hB, this.2⟩

set_option maxRecDepth 20000 in
set_option maxHeartbeats 8000000 in
theorem kjoins_walk (A : Option Addr) (c : Nat) (l : List SessD) (A2 : Option Addr) (c2 : Nat) (m : List SessD) (a b : ByteArray) (w : World) (hl : SessAt w w.heap.size A l) (hm : SessAt w w.heap.size A2 m) (hlen : (l.length : Int) ≤ 9223372036854775807) (hlenm : (m.length : Int) ≤ 9223372036854775807) (hc : A = none → c = 0) (hc2 : A2 = none → c2 = 0) (hka : a.size ≤ maxLen) (hkb : b.size ≤ maxLen) :
    Calls Try.prog 5 #[.slice A l.length c, .slice A2 m.length c2, .string a, .string b] w fun e w' => e = .returned (.bool true) ∧ Below w.heap.size w w' := by
  have HL := Lib.hid hl
  have HM := Lib.hid hm
  have HC := Lib.hid (And.intro hc hc2)
  clear hl hm hc hc2
  go_enter Try.func5, Try.ntmps5
  go_wp2_with fail
  refine Calls.mono (lives18_any w) ?_
  rintro e w1 ⟨rfl, hb1⟩
  go_wp2_with fail
  refine Calls.mono (few_any A c w.heap.size l w1 (HL.out.below hb1) hb1.size hlen) ?_
  rintro e w2 ⟨fw, rfl, hfew, hb2⟩
  have hb12 := hb1.trans (hb2.mono hb1.size)
  have HFEW := Lib.hid hfew
  clear hfew
  cases fw with
  | false =>
    go_wp2
    go_ret
    exact ⟨rfl, hb12⟩
  | true =>
    obtain ⟨f1, f2⟩ := HFEW.out rfl
    have HF2 := Lib.hid f2
    clear f2 HFEW
    go_wp2_with fail
    refine Calls.mono (few_any A2 c2 w.heap.size m w2 (HM.out.below hb12) hb12.size hlenm) ?_
    rintro e w3 ⟨fm, rfl, hfem, hb3⟩
    have hb13 := hb12.trans (hb3.mono hb12.size)
    have HFEM := Lib.hid hfem
    clear hfem
    cases fm with
    | false =>
      go_wp2
      go_ret
      exact ⟨rfl, hb13⟩
    | true =>
      obtain ⟨g1, g2⟩ := HFEM.out rfl
      have HG2 := Lib.hid g2
      clear g2 HFEM
      by_cases h200 : 200 < wrap64 ((a.size : Int) + (b.size : Int))
      · go_wp2
        go_ret
        exact ⟨rfl, hb13⟩
      · go_wp2_with fail
        refine Calls.mono (pof_any A c w.heap.size l w3 (HL.out.below hb13) hb13.size (by omega) (fun s hs => by have := (HF2.out s hs).1; omega)) ?_
        rintro e w4 ⟨pb, F, rfl, hO, hF, hb4⟩
        have hb14 := hb13.trans (hb4.mono hb13.size)
        have HO := Lib.hid hO
        have HF : Hid (∀ k, F k → w.heap.size ≤ k) := Lib.hid (fun k hk => by have := hF k hk; have := hb13.size; omega)
        clear hO hF
        go_wp2_with fail
        refine Calls.mono (pof_any A2 c2 w.heap.size m w4 (HM.out.below hb14) hb14.size (by omega) (fun s hs => by have := (HG2.out s hs).1; omega)) ?_
        rintro e w5 ⟨qb, G, rfl, hQ, hG, hb5⟩
        have hb15 := hb14.trans (hb5.mono hb14.size)
        have hap : Apart G F := (PairO.own _ _).apart_new HO.out hG
        have HO5 := Lib.hid ((PairO.own _ _).below HO.out hb5)
        have HQ := Lib.hid hQ
        have HG : Hid (∀ k, G k → w.heap.size ≤ k) := Lib.hid (fun k hk => by have := hG k hk; have := hb14.size; omega)
        have HAP := Lib.hid hap
        clear hQ hG hap HO
        have hR5 := (HL.out.below hb15).1
        have hS5 := (HM.out.below hb15).1
        have HR5 := Lib.hid hR5
        have HS5 := Lib.hid hS5
        clear hR5 hS5
        have hbA : Below w5.heap.size w5 (w5.alloc (.cells #[] 34)) := (Below.refl _ _).alloc (Nat.le_refl _) _
        have hbs : Below w.heap.size w w5 := hb15
        go_wp2_with (at_builtin; first | (refine wpList_append_to _ (by rfl) (.tmp 35) (.tmp 36) _ rfl w5.heap.size 34 (.agg #[.string ByteArray.empty, .int .i64 0, .int .i64 0, .slice none 0 0]) 4 56 Try.underlying22 sess_infoK rfl (by omega) (some ⟨_, 0, none⟩) 0 0 [] rfl (own_empty (Nat.le_refl _) (heapM1 _ _)) A w.heap.size l.length c (l.flatMap sessCells) rfl (HR5.out.below (hbA.mono hbs.size)) HC.out.1 (sess_one' l) l.length (by omega) (by unfold maxLen; omega) (by omega) (by simp) ?_; intro A6 c6 w6 hown6 hg6 hb6; simp only [List.nil_append] at hown6; have hb56 : Below w5.heap.size w5 w6 := hbA.trans hb6; have hR6 := HS5.out.below (hb56.mono hbs.size); have HR6 := Lib.hid hR6; have hz6 := hb56.size; clear hR6) | (refine wpList_append_to w6 (by rfl) (.tmp 37) (.tmp 38) _ rfl w5.heap.size 34 (.agg #[.string ByteArray.empty, .int .i64 0, .int .i64 0, .slice none 0 0]) 4 56 Try.underlying22 sess_infoK rfl (by omega) A6 l.length c6 _ rfl hown6 A2 w.heap.size m.length c2 (m.flatMap sessCells) rfl HR6.out HC.out.2 (sess_one' m) (l.length + m.length) rfl (by unfold maxLen; omega) (by omega) hz6 ?_; intro A7 c7 w7 hown7 hg7 hb7))
        have hb57 : Below w5.heap.size w5 w7 := hb56.trans hb7
        have hb17 : Below w.heap.size w w7 := hbs.trans (hb57.mono hbs.size)
        have hSA : SessAt w7 w7.heap.size A7 (l ++ m) := sess_app (B := w.heap.size) (Reads.of_own hown7) (fun s hs => (HL.out.2 s hs).below hb17) (fun s hs => (HM.out.2 s hs).below hb17) hb17.size
        have hlm : (l ++ m).length = l.length + m.length := List.length_append
        have qo := pof_any A7 c7 w7.heap.size (l ++ m) w7 hSA (Nat.le_refl _) (by rw [hlm]; omega) (fun s hs => by rcases List.mem_append.1 hs with hs | hs; (have := (HF2.out s hs).1; omega); (have := (HG2.out s hs).1; omega))
        rw [hlm] at qo
        have QO := Lib.hid qo
        have HO7 := Lib.hid ((PairO.own _ _).below HO5.out hb57)
        have HQ7 := Lib.hid ((PairO.own _ _).below HQ.out hb57)
        clear qo hSA hlm hown6 hown7 hg6 hg7 HR5 HS5 HR6 hb6 hb7 HO5 HQ hb56 hbA hz6
        go_wp2_with fail
        refine Calls.mono QO.out ?_
        rintro e w8 ⟨ab, H, rfl, hA, hH, hb8⟩
        rw [itemsOf_app] at hA
        have hb18 : Below w.heap.size w w8 := hb17.trans (hb8.mono hb17.size)
        have HAll := Lib.hid hA
        have HO8 := Lib.hid ((PairO.own _ _).below HO7.out hb8)
        have HQ8 := Lib.hid ((PairO.own _ _).below HQ7.out hb8)
        have HAF : Hid (Apart H F) := Lib.hid ((PairO.own _ _).apart_new HO7.out hH)
        have HAG : Hid (Apart H G) := Lib.hid ((PairO.own _ _).apart_new HQ7.out hH)
        have hLl : ((itemsOf l).length : Int) ≤ 41 := by unfold itemsOf; rw [List.length_map]; omega
        have hMl : ((itemsOf m).length : Int) ≤ 41 := by unfold itemsOf; rw [List.length_map]; omega
        clear hA hH HO7 HQ7 QO
        have QM := Lib.hid (merge_pq pb qb F G (itemsOf l) (itemsOf m) w8 HO8.out HQ8.out HAP.out (by omega) (by omega))
        go_wp2_with fail
        refine Calls.mono QM.out ?_
        rintro e w9 ⟨rfl, F9, G9, hP9, hQ9, hF9, hG9, hk9⟩
        have hA9 : PairO w9 ab H (itemsOf l ++ itemsOf m) := (PairO.own _ _).keep HAll.out hk9 (fun k hk e => by
          rcases e with e | e
          · exact HAF.out k hk e
          · exact HAG.out k hk e)
        have hb19 : Below w.heap.size w w9 := hb18.trans (hk9.toBelow hb18.size (fun k hk => by
          rcases hk with hk | hk
          · exact HF.out k hk
          · exact HG.out k hk))
        have hG9' : ∀ k, G9 k → w.heap.size ≤ k := fun k hk => by
          rcases hG9 k hk with h1 | h1 | h1
          · exact HF.out k h1
          · exact HG.out k h1
          · have := hb18.size; omega
        have hLM : ((itemsOf l ++ itemsOf m).length : Int) ≤ 100000 := by rw [List.length_append]; omega
        have hMM : ((itemsOf m ++ itemsOf m).length : Int) ≤ 100000 := by rw [List.length_append]; omega
        have q1 := fun W (hb : Below w9.heap.size w9 W) => like_any pb F9 (itemsOf l ++ itemsOf m) a b W ((PRd.own pb _).below hP9 hb) hka hkb hLM
        have q2 := fun W (hb : Below w9.heap.size w9 W) => like_any ab H (itemsOf l ++ itemsOf m) a b W ((PRd.own ab _).below hA9.rd hb) hka hkb hLM
        have q3 := fun W (hb : Below w9.heap.size w9 W) => like_any qb G9 (itemsOf m) a b W ((PRd.own qb _).below hQ9.rd hb) hka hkb (by omega)
        have E := fun W => eql_ratioK (likeNum (itemsOf l ++ itemsOf m) a b) (likeDen (itemsOf l ++ itemsOf m) a b) (likeNum (itemsOf l ++ itemsOf m) a b) (likeDen (itemsOf l ++ itemsOf m) a b) W
        have hjs := joins_self (itemsOf m) a b
        have hnb := likeNum_bd (itemsOf m) a b (by omega)
        have hdb := likeDen_bd (itemsOf m) a b (by omega)
        have hnb' := likeNum_bd (itemsOf m ++ itemsOf m) a b hMM
        have hdb' := likeDen_bd (itemsOf m ++ itemsOf m) a b hMM
        have HQ9 := Lib.hid hQ9
        have HG9 := Lib.hid hG9'
        have q4 := fun F' W (h : PRd W qb F' (itemsOf m ++ itemsOf m)) => like_any qb F' (itemsOf m ++ itemsOf m) a b W h hka hkb hMM
        have HMl := Lib.hid hMl
        clear hP9 hQ9 hF9 hG9 hG9' hk9 hA9 HAll HAF HAG HO8 HQ8 QM HF HAP hLM hMM hLl hMl
        generalize likeNum (itemsOf l ++ itemsOf m) a b = nl at *
        generalize likeDen (itemsOf l ++ itemsOf m) a b = dl at *
        generalize likeNum (itemsOf m) a b = nu at *
        generalize likeDen (itemsOf m) a b = de at *
        generalize likeNum (itemsOf m ++ itemsOf m) a b = nv at *
        generalize likeDen (itemsOf m ++ itemsOf m) a b = df at *
        have Q1 := Lib.hid q1
        have Q2 := Lib.hid q2
        have Q3 := Lib.hid q3
        have Q4 := Lib.hid q4
        clear q1 q2 q3 q4
        go_wp2_with fail
        refine Calls.mono (Q1.out _ (Below.refl _ _)) ?_
        rintro e w10 ⟨rfl, hb10⟩
        go_wp2_with fail
        refine Calls.mono (Q2.out _ hb10) ?_
        rintro e w11 ⟨rfl, hb11⟩
        have hb911 := hb10.trans (hb11.mono hb10.size)
        go_wp2_with fail
        refine Calls.mono (Q3.out _ hb911) ?_
        rintro e w12 ⟨rfl, hb12'⟩
        have hb912 := hb911.trans (hb12'.mono hb911.size)
        obtain ⟨W13, hW13⟩ : ∃ W13, W13 = w12.alloc (.cells #[.int .i64 nu, .int .i64 de] 28) := ⟨_, rfl⟩
        have hbA : Below w12.heap.size w12 W13 := by rw [hW13]; exact (Below.refl _ _).alloc (Nat.le_refl _) _
        have hb913 : Below w9.heap.size w9 W13 := hb912.trans (hbA.mono hb912.size)
        have hlt9 := (PairX.own _ _).lt HQ9.out
        have hvb : w12.heap.size < W13.heap.size := by rw [hW13]; simp
        have hng : ¬ G9 w12.heap.size := fun h => by have := hlt9 _ h; have := hb912.size; omega
        have v0 : W13.cell? ⟨w12.heap.size, 0, none⟩ = some (.int .i64 nu) := by rw [hW13]; simp
        have v1 : W13.cell? ⟨w12.heap.size, 1, none⟩ = some (.int .i64 de) := by rw [hW13]; simp
        have QN := Lib.hid (merge_qq qb G9 (itemsOf m) W13 ((PairX.own _ _).below HQ9.out hb913) (by have := HMl.out; omega))
        have hb0z : Below w.heap.size w W13 := hb19.trans (hb913.mono hb19.size)
        clear hb10 hb11 hb12' hb911 hb912 hlt9 Q1 Q2 Q3 hbA
        go_wp2_with fail
        rw [← hW13]
        refine Calls.mono QN.out ?_
        rintro e w14 ⟨rfl, ⟨F14, hP14⟩, hk14⟩
        replace v0 : w14.cell? ⟨w12.heap.size, 0, none⟩ = some (.int .i64 nu) := (hk14.cell (p := ⟨w12.heap.size, 0, none⟩) hvb hng).trans v0
        replace v1 : w14.cell? ⟨w12.heap.size, 1, none⟩ = some (.int .i64 de) := (hk14.cell (p := ⟨w12.heap.size, 1, none⟩) hvb hng).trans v1
        have hvb14 : w12.heap.size < w14.heap.size := Nat.lt_of_lt_of_le hvb hk14.size
        have hb014 : Below w.heap.size w w14 := hb0z.trans (hk14.toBelow hb0z.size HG9.out)
        have q4 := Q4.out F14 w14.drew ((PRd.own _ _).below hP14 ((Below.refl _ _).drew))
        have qc := fun W => compare_any nv df nu de (by omega) (by omega) (by omega) (by omega) (by omega) (by omega) (by omega) (by omega) W
        have hc : cmpInt (nv * de) (nu * df) = 0 := by rw [hjs]; unfold cmpInt; simp
        rw [hc] at qc
        have Q4' := Lib.hid q4
        have QC := Lib.hid qc
        have HK2 : Hid (∀ W, Below w14.heap.size w14.drew W → W.cell? ⟨w12.heap.size, 0, none⟩ = some (.int .i64 nu) ∧ W.cell? ⟨w12.heap.size, 1, none⟩ = some (.int .i64 de)) := Lib.hid (fun W hb => ⟨(hb.cell (p := ⟨w12.heap.size, 0, none⟩) hvb14).trans v0, (hb.cell (p := ⟨w12.heap.size, 1, none⟩) hvb14).trans v1⟩)
        have HBX : Hid (Below w14.heap.size w14.drew w14.drew) := Lib.hid (Below.refl _ _)
        clear q4 qc hc hk14 hP14 QN Q4 hW13 hng hjs E
        go_wp2_with fail
        refine heldStart 7 (S := fun W => W.cell? ⟨w12.heap.size, 0, none⟩ = some (.int .i64 nu) ∧ W.cell? ⟨w12.heap.size, 1, none⟩ = some (.int .i64 de)) (by kernel_rfl) ?_ (fun hHeld => ?_)
        · exact HK2.out _ HBX.out
        refine heldTake 0 (v := ?_) (by simp only [List.getElem?_toArray, List.getElem?_cons_succ, List.getElem?_cons_zero]; rfl) (by kernel_rfl) (by intro _ _ _ h; exact h) (by rfl) (by assumption) ?_ ?_
        rotate_left
        · intro W hSw; (try dsimp only at hSw); go_simp; try with_reducible rfl
        simp only [Act.put, List.setIfInBounds_toArray, List.set_cons_zero, List.set_cons_succ]
        refine heldTake 1 (v := ?_) (by simp only [List.getElem?_toArray, List.getElem?_cons_succ, List.getElem?_cons_zero]; rfl) (by kernel_rfl) (by intro _ _ _ h; exact h) (by rfl) (by assumption) ?_ ?_
        rotate_left
        · intro W hSw; (try dsimp only at hSw); go_simp; try with_reducible rfl
        simp only [Act.put, List.setIfInBounds_toArray, List.set_cons_zero, List.set_cons_succ]
        refine heldTake 2 (v := ?_) (by simp only [List.getElem?_toArray, List.getElem?_cons_succ, List.getElem?_cons_zero]; rfl) (by kernel_rfl) (by intro _ _ _ h; exact h) (by rfl) (by assumption) ?_ ?_
        rotate_left
        · intro W hSw; (try dsimp only at hSw); go_simp; try with_reducible rfl
        simp only [Act.put, List.setIfInBounds_toArray, List.set_cons_zero, List.set_cons_succ]
        refine heldTake 4 (v := ?_) (by simp only [List.getElem?_toArray, List.getElem?_cons_succ, List.getElem?_cons_zero]; rfl) (by kernel_rfl) (by intro _ _ _ h; exact h) (by rfl) (by assumption) ?_ ?_
        rotate_left
        · intro W hSw; (try dsimp only at hSw); go_simp; try with_reducible rfl
        simp only [Act.put, List.setIfInBounds_toArray, List.set_cons_zero, List.set_cons_succ]
        refine heldCall 3 (by simp only [List.getElem?_toArray, List.getElem?_cons_succ, List.getElem?_cons_zero]; rfl) (by kernel_rfl) (fun K hK => ?_)
        go_simp
        refine Calls.mono Q4'.out ?_
        rintro e w15 ⟨rfl, hb15'⟩
        have hbx : Hid (Below w14.heap.size w14.drew w15) := Lib.hid hb15'
        clear HBX
        have HBX := hbx
        clear hbx hb15'
        go_wp2_with fail
        refine hK.out _ _ ?_ (fun hHeld => ?_)
        · exact HK2.out _ HBX.out
        clear hK K
        (try simp only [Act.put, List.setIfInBounds_toArray, List.set_cons_zero, List.set_cons_succ])
        refine heldCall 5 (by simp only [List.getElem?_toArray, List.getElem?_cons_succ, List.getElem?_cons_zero]; rfl) (by kernel_rfl) (fun K hK => ?_)
        go_simp
        refine Calls.mono (QC.out _) ?_
        rintro e w16 ⟨rfl, hg⟩
        have hbx := Lib.hid (HBX.out.trans (hg.below.mono HBX.out.size))
        clear HBX
        have HBX := hbx
        clear hbx hg
        go_wp2_with fail
        refine hK.out _ _ ?_ (fun hHeld => ?_)
        · exact HK2.out _ HBX.out
        clear hK K
        (try simp only [Act.put, List.setIfInBounds_toArray, List.set_cons_zero, List.set_cons_succ])
        refine heldTake 6 (v := ?_) (by simp only [List.getElem?_toArray, List.getElem?_cons_succ, List.getElem?_cons_zero]; rfl) (by kernel_rfl) (by intro _ _ _ h; exact h) (by rfl) (by assumption) ?_ ?_
        rotate_left
        · intro W hSw; (try dsimp only at hSw); go_simp; try with_reducible rfl
        simp only [Act.put, List.setIfInBounds_toArray, List.set_cons_zero, List.set_cons_succ]
        refine heldTake 7 (v := ?_) (by simp only [List.getElem?_toArray, List.getElem?_cons_succ, List.getElem?_cons_zero]; rfl) (by kernel_rfl) (by intro _ _ _ h; exact h) (by rfl) (by assumption) ?_ ?_
        rotate_left
        · intro W hSw; (try dsimp only at hSw); go_simp; try with_reducible rfl
        simp only [Act.put, List.setIfInBounds_toArray, List.set_cons_zero, List.set_cons_succ]
        refine heldDone (by kernel_rfl) ?_ _
        have hbz : Below w.heap.size w w16 := hb014.trans (((Below.refl w14.heap.size w14).drew.trans HBX.out).mono hb014.size)
        go_wp2
        go_ret
        exact ⟨rfl, hbz⟩
end Go.Proofs.Ytbmkejiijkbmlaa
