/- Contract of union. -/
import Derived.Test.YtcladmcbhnmhiaaDdT
import Derived.Deep.DeepCutAuto
import Derived.Test.YtcladmcbhnmhiaaKitC
namespace Go.Proofs.Ytcladmcbhnmhiaa
open Go.ChangeShapes Go.WideShapes Go.ChangeAt Go.RowKit Go.Shelf Go.Lib Go.Sort Go.Proofs
set_option linter.unusedVariables false
set_option linter.unusedSimpArgs false

theorem mstep_into {R : List Rg} {f t : Int} (h0 : 0 < R.length) (h : f ≤ (R[R.length - 1]'(by omega)).2) : mstep R (f, t) = R.set (R.length - 1) ((R[R.length - 1]'(by omega)).1, max (R[R.length - 1]'(by omega)).2 t) := by
  rcases rev_cases (A := R) with rfl | ⟨A, l, rfl⟩
  · simp at h0
  · have e : (A ++ [l]).length - 1 = A.length := by simp
    have e2 : (A ++ [l])[(A ++ [l]).length - 1]'(by omega) = l := by simp
    rw [e2] at h ⊢
    rw [e]
    unfold mstep
    simp [h]
theorem mstep_new {R : List Rg} {f t : Int} (h : ∀ h0 : 0 < R.length, ¬ f ≤ (R[R.length - 1]'(by omega)).2) : mstep R (f, t) = R ++ [(f, t)] := by
  rcases rev_cases (A := R) with rfl | ⟨A, l, rfl⟩
  · rfl
  · have e2 : (A ++ [l])[(A ++ [l]).length - 1]'(by simp) = l := by simp
    have h2 := h (by simp)
    rw [e2] at h2
    unfold mstep
    simp [h2]
theorem fold_len (ms : List Rg) : ∀ R : List Rg, (ms.foldl mstep R).length ≤ R.length + ms.length := by
  induction ms with
  | nil => intro R; simp
  | cons r ms ih =>
    intro R
    have h1 : (mstep R r).length ≤ R.length + 1 := by
      unfold mstep
      split
      · split
        · simp
        · simp
      · simp
    have h2 := ih (mstep R r)
    simp only [List.foldl_cons, List.length_cons]
    omega

def UnionNew (w : World) (R : List Rg) (e : Ending) (w' : World) : Prop := ∃ A c, e = .returned (.slice A R.length c) ∧ w'.ownsRow w.heap.size 42 2 (.slice A R.length c) R.length (rgsCells R) ∧ Below w.heap.size w w'
set_option maxHeartbeats 8000000 in
set_option maxRecDepth 100000 in
theorem union_any (Aa Ab : Option Addr) (ca cb : Nat) (a b : List Rg) (w : World) (ha : Reads w w.heap.size 2 Aa a.length (rgsCells a)) (hna : Aa = none → ca = 0) (hb : Reads w w.heap.size 2 Ab b.length (rgsCells b)) (hnb : Ab = none → cb = 0)
    (oka : RowOk 0 a) (okb : RowOk 0 b) (ta : ∀ r ∈ a, r.2 ≤ 1099511627777) (tb : ∀ r ∈ b, r.2 ≤ 1099511627777) (la : a.length < 900000) (lb : b.length < 900000) :
    Calls Try.prog 42 #[.slice Aa a.length ca, .slice Ab b.length cb] w (UnionNew w (mergeR a b)) := by
  obtain ⟨W0, hW0⟩ : ∃ W0, W0 = w.alloc (.cells #[.slice Aa a.length ca, .slice Ab b.length cb] 39) := ⟨_, rfl⟩
  have hb0 : Below w.heap.size w W0 := by rw [hW0]; exact (Below.refl _ w).alloc (Nat.le_refl _) _
  have hpa : PartsAt W0 W0.heap.size (some ⟨w.heap.size, 0, none⟩) [(Aa, ca, a), (Ab, cb, b)] := by
    refine ⟨⟨rfl, fun _ => ⟨w.heap.size, 0, rfl, by rw [hW0]; simp, fun j u hu => ?_⟩⟩, fun p hp => ?_⟩
    · rw [hW0, World.cell?_alloc_at _ _ _ _ rfl]
      simpa [partV] using hu
    · simp at hp
      rcases hp with rfl | rfl
      · exact ⟨(ha.below hb0).more hb0.size, hna⟩
      · exact ⟨(hb.below hb0).more hb0.size, hnb⟩
  have hfl : flatP [(Aa, ca, a), (Ab, cb, b)] = a ++ b := by simp [flatP]
  obtain ⟨L, hLd⟩ : ∃ L, L = a ++ b := ⟨_, rfl⟩
  have hLl : (L.length : Int) < 1800000 := by rw [hLd, List.length_append]; omega
  have hcc := concat_any (some ⟨w.heap.size, 0, none⟩) 2 _ W0 hpa (by rw [hfl, ← hLd]; omega) (by simp)
  unfold ConcatNew at hcc
  rw [hfl, ← hLd] at hcc
  have hLb : ∀ r ∈ L, 0 < r.1 ∧ r.1 ≤ 1099511627777 ∧ r.1 < r.2 ∧ r.2 ≤ 1099511627777 := fun r hr => by
    rw [hLd] at hr
    rcases List.mem_append.1 hr with h | h
    · have h1 := oka.gt r h; have h2 := ta r h; omega
    · have h1 := okb.gt r h; have h2 := tb r h; omega
  have hUE : ∀ ms : List Rg, ms.Perm L → ms.Pairwise (fun x y => x.1 ≤ y.1) → ms.foldl mstep [] = mergeR a b := fun ms hp hs => union_eq oka okb (by rw [← hLd]; exact hp) hs
  have HCC := Lib.hid hcc
  have HLB := Lib.hid hLb
  have HUE := Lib.hid hUE
  have HB0 := Lib.hid hb0
  clear hcc hLb hUE hb0 hpa hfl hLd ha hb ta tb oka okb
  generalize mergeR a b = M at *
  have h2 : (2 : Int) ≤ 2 := by omega
  go_enter Try.func42, Try.ntmps42
  go_wp2_with fail
  rw [← hW0]
  clear hW0
  refine Calls.mono HCC.out ?_
  rintro e w1 ⟨A1, c1, rfl, hown1, hb1⟩
  have hso := usort_any W0.heap.size A1 c1 L w1 (fun r hr => ⟨(HLB.out r hr).1, (HLB.out r hr).2.1⟩) hown1 (by omega)
  have hbase := fun j (hj : (Value.slice A1 L.length c1).ownBlock = some j) => (hown1.lt j hj).1
  have HSO := Lib.hid hso
  have HB1 := Lib.hid (HB0.out.trans (hb1.mono HB0.out.size))
  have HBS := Lib.hid (And.intro hbase hb1.size)
  clear hso hown1 hb1 hbase HCC
  go_wp2_with fail
  refine Calls.mono HSO.out ?_
  rintro e w2 ⟨rfl, ms, hp, hs, hown2, hk2⟩
  have hb2 : Below w.heap.size w w2 := HB1.out.trans (hk2.toBelow HB1.out.size (fun j hj => by have := HBS.out.1 j hj; have := HB0.out.size; omega))
  have hlm : ms.length = L.length := hp.length_eq
  have hrd := Reads.of_own hown2
  have hue := HUE.out ms hp hs
  have hmb : ∀ r ∈ ms, 0 < r.1 ∧ r.1 ≤ 1099511627777 ∧ r.1 < r.2 ∧ r.2 ≤ 1099511627777 := fun r hr => HLB.out r (hp.mem_iff.1 hr)
  have HRD := Lib.hid hrd
  have HB2 := Lib.hid hb2
  have HFE := Lib.hid hue
  have HMB := Lib.hid hmb
  have HLM := Lib.hid hlm
  clear hlm hrd hb2 hue hmb hp hs hown2 hk2 HSO HUE HLB HBS HB1
  go_wp2_with fail
  go_loopg [6, 18] L.length (fun rest s6 s18 wr => ∃ (k : Nat) (A3 : Option Addr) (c3 nR : Nat) (R : List Rg), s18 = .int .i64 k ∧ s6 = .slice A3 nR c3 ∧ Hid (nR = R.length) ∧ Hid (k + rest = L.length) ∧ (k : Int) ≤ 1900000 ∧ Hid (R = (ms.take k).foldl mstep []) ∧ Hid (wr.ownsRow w2.heap.size 42 2 (.slice A3 R.length c3) R.length (rgsCells R)) ∧ Hid (Below w2.heap.size w2 wr))
  case atStart => exact ⟨0, none, 0, 0, [], rfl, rfl, Lib.hid rfl, Lib.hid (by simp), by omega, Lib.hid rfl, Lib.hid (World.ownsRow_nil w2 _ _ _), Lib.hid (Below.refl _ _)⟩
  case round =>
    obtain ⟨k, A3, c3, nR, R, rfl, rfl, HN, HK, hk0, HR, HO, HB⟩ := hrel
    by_cases hk : (k : Int) < (L.length : Int)
    · have hkl : k < ms.length := by have := HLM.out; omega
      obtain ⟨bx, ox, rfl, hbl, hcc⟩ := (HRD.out.below HB.out).2 (by omega)
      obtain ⟨x1, x2⟩ := rgsCells_at hkl
      have y1 := hcc _ _ x1
      have y2 := hcc _ _ x2
      rw [← Nat.add_assoc] at y2
      have hmk := HMB.out _ (List.getElem_mem hkl)
      have hst : (ms.take (k + 1)).foldl mstep [] = mstep R ms[k] := by rw [List.take_succ_eq_append_getElem hkl, List.foldl_append, ← HR.out]; rfl
      have hRl : R.length ≤ k := by
        have := fold_len (ms.take k) []
        rw [← HR.out, List.length_take] at this
        simp at this
        omega
      have HST := Lib.hid hst
      clear hst hcc x1 x2
      generalize ms[k] = rk at *
      obtain ⟨f, t⟩ := rk
      simp only at y1 y2 hmk
      obtain ⟨m1, m2, m3, m4⟩ := hmk
      obtain ⟨W9, hW9⟩ : ∃ W9, W9 = wr.alloc (.cells #[.int .i64 f, .int .i64 t] 42) := ⟨_, rfl⟩
      have z0 : W9.cell? ⟨wr.heap.size, 0, none⟩ = some (.int .i64 f) := by rw [hW9]; simp
      have z1 : W9.cell? ⟨wr.heap.size, 1, none⟩ = some (.int .i64 t) := by rw [hW9]; simp
      have hbw : Below w2.heap.size w2 W9 := by rw [hW9]; exact HB.out.alloc HB.out.size _
      have ho9 : W9.ownsRow w2.heap.size 42 2 (.slice A3 R.length c3) R.length (rgsCells R) := by rw [hW9]; exact HO.out.alloc _
      have HO9 := Lib.hid ho9
      have HBW := Lib.hid hbw
      clear hbw ho9
      obtain ⟨cb2, hcb⟩ : ∃ cb2 : Bool, (cb2 = true → ∃ h0 : 0 < R.length, f ≤ (R[R.length - 1]'(by omega)).2) ∧ (cb2 = false → ∀ h0 : 0 < R.length, ¬ f ≤ (R[R.length - 1]'(by omega)).2) := by
        by_cases h : ∃ h0 : 0 < R.length, f ≤ (R[R.length - 1]'(by omega)).2
        · exact ⟨true, fun _ => h, fun e => by cases e⟩
        · exact ⟨false, fun e => (by cases e), fun _ h0 e => h ⟨h0, e⟩⟩
      have HCB := Lib.hid hcb
      clear hcb
      have hcell : ∀ h0 : 0 < R.length, ∃ g, A3 = some ⟨g, 0, none⟩ ∧ W9.cell? ⟨g, (nR - 1) * 2 + 1, none⟩ = some (.int .i64 (R[R.length - 1]'(by omega)).2) ∧ W9.frozen? ⟨g, (nR - 1) * 2 + 1, none⟩ = false := fun h0 => by
        rw [HN.out]
        obtain ⟨g, cap, hv, -, -⟩ := HO9.out.form h0
        injection hv with e1
        subst e1
        obtain ⟨b', o', e, -, hc⟩ := (Reads.of_own HO9.out).2 h0
        injection e with e
        injection e with e1 e2
        subst e1 e2
        have := hc _ _ (rgsCells_at (R := R) (k := R.length - 1) (by omega)).2
        rw [Nat.zero_add] at this
        obtain ⟨cur, hg, -⟩ := own_block HO9.out
        exact ⟨_, rfl, this, frozen_block hg _⟩
      have HCL := Lib.hid hcell
      clear hcell
      have q1 : (nR : Int) ≤ 1900000 := by have := HN.out; omega
      have q4 : wrap64 ((nR : Int) - 1) = (nR : Int) - 1 := by unfold wrap64; omega
      have q5 : IntKind.i64.wrap ((nR : Int) - 1) = (nR : Int) - 1 := IntWalk.i64_in _ (by omega)
      clear hRl
      go_upto_region 8 with fail
      rw [← hW9]
      clear hW9
      go_cut [36] (fun s36 wx => s36 = .bool cb2 ∧ ∃ m, wx = W9.drewN m)
      case first =>
        by_cases h0 : nR = 0
        · have ecb : cb2 = false := by
            cases cb2 with
            | false => rfl
            | true => obtain ⟨h1, -⟩ := HCB.out.1 rfl; have := HN.out; omega
          subst ecb
          subst h0
          clear HCB HCL HO9 HBW HST HR HO
          go_wp2_with fail
          go_quiet (fail)
          all_goals go_wp2_with fail
          all_goals go_meet
          all_goals exact ⟨rfl, _, rfl⟩
        · obtain ⟨g, rfl, x2, -⟩ := HCL.out (by have := HN.out; omega)
          have hy : (cb2 = true ∧ f ≤ (R[R.length - 1]'(by have := HN.out; omega)).2) ∨ (cb2 = false ∧ ¬ f ≤ (R[R.length - 1]'(by have := HN.out; omega)).2) := by
            cases cb2 with
            | false => exact .inr ⟨rfl, HCB.out.2 rfl (by have := HN.out; omega)⟩
            | true => obtain ⟨h1, e⟩ := HCB.out.1 rfl; exact .inl ⟨rfl, e⟩
          clear HCB HCL HO9 HBW HST HR HO
          generalize (R[R.length - 1]'(by have := HN.out; omega)).2 = l2 at *
          have p1 : (0 : Int) < (nR : Int) := by omega
          have p2 : 0 < nR := by omega
          have p3 : ((nR : Int) - 1).toNat = nR - 1 := by omega
          have p6 : (nR : Int) - 1 < (nR : Int) := by omega
          have p7 : (1 : Int) ≤ (nR : Int) := by omega
          clear HN h0
          rcases hy with ⟨rfl, hfl⟩ | ⟨rfl, hfl⟩
          · go_wp2_with fail
            go_quiet (fail)
            all_goals go_wp2_with fail
            all_goals go_meet
            all_goals exact ⟨rfl, _, rfl⟩
          · have hfl2 : decide (f ≤ l2) = false := decide_eq_false hfl
            go_wp2_with fail
            go_quiet (fail)
            all_goals go_wp2_with fail
            all_goals go_meet
            all_goals exact ⟨rfl, _, rfl⟩
      case rest =>
        obtain ⟨rfl, md, hwx⟩ := hcut
        obtain ⟨wx, hwc⟩ : ∃ wx : World, wx = wc := ⟨_, rfl⟩
        rw [← hwc] at hwx ⊢
        clear hwc
        have ho9' : wx.ownsRow w2.heap.size 42 2 (.slice A3 R.length c3) R.length (rgsCells R) := by rw [hwx]; exact HO9.out
        have hbw' : Below w2.heap.size w2 wx := by rw [hwx]; exact below_drewN HBW.out md
        have z0' : wx.cell? ⟨wr.heap.size, 0, none⟩ = some (.int .i64 f) := by rw [hwx]; exact z0
        have z1' : wx.cell? ⟨wr.heap.size, 1, none⟩ = some (.int .i64 t) := by rw [hwx]; exact z1
        have hcl' : ∀ h0 : 0 < R.length, ∃ g, A3 = some ⟨g, 0, none⟩ ∧ wx.cell? ⟨g, (nR - 1) * 2 + 1, none⟩ = some (.int .i64 (R[R.length - 1]'(by omega)).2) ∧ wx.frozen? ⟨g, (nR - 1) * 2 + 1, none⟩ = false := by rw [hwx]; exact HCL.out
        have HO9 := Lib.hid ho9'
        have HBW := Lib.hid hbw'
        have HCL := Lib.hid hcl'
        clear hwx z0 z1 ho9' hbw' hcl'
        cases cb2 with
        | true =>
          obtain ⟨h0, hle⟩ := HCB.out.1 rfl
          obtain ⟨g, rfl, x2, f1⟩ := HCL.out h0
          have hms := mstep_into (t := t) h0 hle
          obtain ⟨hs1, hs2⟩ := row_set (show wx.drew.ownsRow w2.heap.size 42 2 (.slice (some ⟨g, 0, none⟩) R.length c3) R.length (rgsCells R) from HO9.out) (show R.length - 1 < R.length by omega) 1 (.inr rfl) (max (R[R.length - 1]'(by omega)).2 t)
          simp only [show ¬ ((1 : Nat) = 0) by omega, if_false] at hs1
          rw [← hms] at hs1
          have hlen : (mstep R (f, t)).length = R.length := by rw [hms, List.length_set]
          generalize (R[R.length - 1]'(by omega)).2 = l2 at *
          generalize mstep R (f, t) = R2 at *
          obtain ⟨w4, hw4⟩ : ∃ w4, w4 = wx.drew.setCell ⟨g, (nR - 1) * 2 + 1, none⟩ (.int .i64 (max l2 t)) := ⟨_, rfl⟩
          rw [← HN.out, ← hw4] at hs1 hs2
          have hb4 : Below w2.heap.size w2 w4 := HBW.out.drew.grown hs2 HBW.out.size (fun k hk => (HO9.out.lt k hk).1)
          have HO4 := Lib.hid hs1
          have HB4 := Lib.hid hb4
          have HLE := Lib.hid hlen
          clear hs1 hs2 hb4 hms hlen HCB HCL HO HO9 hle
          have p0 := HN.out
          have p1 : (0 : Int) < (nR : Int) := by omega
          have p3 : ((nR : Int) - 1).toNat = nR - 1 := by omega
          have p6 : (nR : Int) - 1 < (nR : Int) := by omega
          have p7 : (1 : Int) ≤ (nR : Int) := by omega
          clear p0
          go_wp2_with fail
          refine heldStart 14 (S := fun W => W.cell? ⟨g, (nR - 1) * 2 + 1, none⟩ = some (.int .i64 l2) ∧ W.cell? ⟨wr.heap.size, 1, none⟩ = some (.int .i64 t) ∧ W.frozen? ⟨g, (nR - 1) * 2 + 1, none⟩ = false) (by kernel_rfl) ?_ (fun hHeld => ?_)
          · exact ⟨x2, z1', f1⟩
          refine heldTake 0 (v := ?_) (by simp only [List.getElem?_toArray, List.getElem?_cons_succ, List.getElem?_cons_zero]; rfl) (by kernel_rfl) (by intro _ _ _ h; exact h) (by rfl) (by assumption) ?_ ?_
          rotate_left
          · intro W hSw; (try dsimp only at hSw); go_simp; try with_reducible rfl
          simp only [Act.put, List.setIfInBounds_toArray, List.set_cons_zero, List.set_cons_succ]
          refine heldTake 1 (v := ?_) (by simp only [List.getElem?_toArray, List.getElem?_cons_succ, List.getElem?_cons_zero]; rfl) (by kernel_rfl) (by intro _ _ _ h; exact h) (by rfl) (by assumption) ?_ ?_
          rotate_left
          · intro W hSw; (try dsimp only at hSw); go_simp; try with_reducible rfl
          simp only [Act.put, List.setIfInBounds_toArray, List.set_cons_zero, List.set_cons_succ]
          refine heldTake 2 (v := ?_) (by simp only [List.getElem?_toArray, List.getElem?_cons_succ, List.getElem?_cons_zero]; rfl) (by kernel_rfl) (by intro _ _ _ h; exact h) (by rfl) (by assumption) ?_ ?_
          rotate_left
          · intro W hSw; (try dsimp only at hSw); go_simp; try with_reducible rfl
          simp only [Act.put, List.setIfInBounds_toArray, List.set_cons_zero, List.set_cons_succ]
          refine heldTake 3 (v := ?_) (by simp only [List.getElem?_toArray, List.getElem?_cons_succ, List.getElem?_cons_zero]; rfl) (by kernel_rfl) (by intro _ _ _ h; exact h) (by rfl) (by assumption) ?_ ?_
          rotate_left
          · intro W hSw; (try dsimp only at hSw); go_simp; try with_reducible rfl
          simp only [Act.put, List.setIfInBounds_toArray, List.set_cons_zero, List.set_cons_succ]
          refine heldTake 4 (v := ?_) (by simp only [List.getElem?_toArray, List.getElem?_cons_succ, List.getElem?_cons_zero]; rfl) (by kernel_rfl) (by intro _ _ _ h; exact h) (by rfl) (by assumption) ?_ ?_
          rotate_left
          · intro W hSw; (try dsimp only at hSw); go_simp; try with_reducible rfl
          simp only [Act.put, List.setIfInBounds_toArray, List.set_cons_zero, List.set_cons_succ]
          refine heldTake 5 (v := ?_) (by simp only [List.getElem?_toArray, List.getElem?_cons_succ, List.getElem?_cons_zero]; rfl) (by kernel_rfl) (by intro _ _ _ h; exact h) (by rfl) (by assumption) ?_ ?_
          rotate_left
          · intro W hSw; (try dsimp only at hSw); go_simp; try with_reducible rfl
          simp only [Act.put, List.setIfInBounds_toArray, List.set_cons_zero, List.set_cons_succ]
          refine heldTake 6 (v := ?_) (by simp only [List.getElem?_toArray, List.getElem?_cons_succ, List.getElem?_cons_zero]; rfl) (by kernel_rfl) (by intro _ _ _ h; exact h) (by rfl) (by assumption) ?_ ?_
          rotate_left
          · intro W hSw; (try dsimp only at hSw); go_simp; try with_reducible rfl
          simp only [Act.put, List.setIfInBounds_toArray, List.set_cons_zero, List.set_cons_succ]
          refine heldTake 7 (v := ?_) (by simp only [List.getElem?_toArray, List.getElem?_cons_succ, List.getElem?_cons_zero]; rfl) (by kernel_rfl) (by intro _ _ _ h; exact h) (by rfl) (by assumption) ?_ ?_
          rotate_left
          · intro W hSw; (try dsimp only at hSw); go_simp; try with_reducible rfl
          simp only [Act.put, List.setIfInBounds_toArray, List.set_cons_zero, List.set_cons_succ]
          refine heldTake 8 (v := ?_) (by simp only [List.getElem?_toArray, List.getElem?_cons_succ, List.getElem?_cons_zero]; rfl) (by kernel_rfl) (by intro _ _ _ h; exact h) (by rfl) (by assumption) ?_ ?_
          rotate_left
          · intro W hSw; (try dsimp only at hSw); go_simp; try with_reducible rfl
          simp only [Act.put, List.setIfInBounds_toArray, List.set_cons_zero, List.set_cons_succ]
          refine heldTake 9 (v := ?_) (by simp only [List.getElem?_toArray, List.getElem?_cons_succ, List.getElem?_cons_zero]; rfl) (by kernel_rfl) (by intro _ _ _ h; exact h) (by rfl) (by assumption) ?_ ?_
          rotate_left
          · intro W hSw; (try dsimp only at hSw); go_simp; try with_reducible rfl
          simp only [Act.put, List.setIfInBounds_toArray, List.set_cons_zero, List.set_cons_succ]
          refine heldTake 10 (v := ?_) (by simp only [List.getElem?_toArray, List.getElem?_cons_succ, List.getElem?_cons_zero]; rfl) (by kernel_rfl) (by intro _ _ _ h; exact h) (by rfl) (by assumption) ?_ ?_
          rotate_left
          · intro W hSw; (try dsimp only at hSw); go_simp; try with_reducible rfl
          simp only [Act.put, List.setIfInBounds_toArray, List.set_cons_zero, List.set_cons_succ]
          refine heldTake 11 (v := ?_) (by simp only [List.getElem?_toArray, List.getElem?_cons_succ, List.getElem?_cons_zero]; rfl) (by kernel_rfl) (by intro _ _ _ h; exact h) (by rfl) (by assumption) ?_ ?_
          rotate_left
          · intro W hSw; (try dsimp only at hSw); go_simp; try with_reducible rfl
          simp only [Act.put, List.setIfInBounds_toArray, List.set_cons_zero, List.set_cons_succ]
          refine heldTake 12 (v := ?_) (by simp only [List.getElem?_toArray, List.getElem?_cons_succ, List.getElem?_cons_zero]; rfl) (by kernel_rfl) (by intro _ _ _ h; exact h) (by rfl) (by assumption) ?_ ?_
          rotate_left
          · intro W hSw; (try dsimp only at hSw); go_simp; try with_reducible rfl
          simp only [Act.put, List.setIfInBounds_toArray, List.set_cons_zero, List.set_cons_succ]
          refine heldTake 13 (v := ?_) (by simp only [List.getElem?_toArray, List.getElem?_cons_succ, List.getElem?_cons_zero]; rfl) (by kernel_rfl) (by intro _ _ _ h; exact h) (by rfl) (by assumption) ?_ ?_
          rotate_left
          · intro W hSw; (try dsimp only at hSw); go_simp; try with_reducible rfl
          simp only [Act.put, List.setIfInBounds_toArray, List.set_cons_zero, List.set_cons_succ]
          refine heldLast 14 (by simp only [List.getElem?_toArray, List.getElem?_cons_succ, List.getElem?_cons_zero]; rfl) (by kernel_rfl) rfl (fun K hK => ?_)
          go_simp
          refine hK.out _ _ ?_
          clear hK K
          (try simp only [Act.put, List.setIfInBounds_toArray, List.set_cons_zero, List.set_cons_succ])
          refine heldDone (by kernel_rfl) ?_ _
          go_wp2_with fail
          have e4 : w4 = (wx.setCell ⟨g, (nR - 1) * 2 + 1, none⟩ (.int .i64 (max l2 t))).drew := hw4
          rw [← e4]
          clear hw4 e4
          go_roundg (gk - 1)
          case measure => have := HK.out; omega
          case rel => exact ⟨k + 1, _, c3, nR, R2, by go_num, rfl, Lib.hid (by rw [HLE.out]; exact HN.out), Lib.hid (by have := HK.out; omega), by omega, Lib.hid HST.out.symm, Lib.hid (by have := HO4.out; rw [HLE.out, ← HN.out]; exact this), HB4⟩
        | false =>
          have hms := mstep_new (t := t) (HCB.out.2 rfl)
          have HMS := Lib.hid hms
          clear hms HCB HCL
          go_wp2_with (at_builtin; refine wpList_append_one wx rfl (.tmp 51) (.tmp 53) _ rfl w2.heap.size 42 (.agg #[.int .i64 0, .int .i64 0]) 2 16 u_rgs i_rg rfl (by omega) A3 nR c3 _ rfl (by rw [HN.out]; exact HO9.out) (rgCells (f, t)) rfl rfl (fun u hu => rgsCells_one [(f, t)] u (by simpa [rgsCells] using hu)) (by omega) (by unfold maxLen; omega) HBW.out.size ?_; intro A7 c7 w7 hown7 hg7 hb7)
          have HO7 := Lib.hid hown7
          have HB7 := Lib.hid (HBW.out.trans hb7)
          clear hown7 hg7 hb7
          go_wp2_with fail
          go_roundg (gk - 1)
          case measure => have := HK.out; omega
          case rel => exact ⟨k + 1, A7, c7, nR + 1, R ++ [(f, t)], by go_num, rfl, Lib.hid (by rw [List.length_append, HN.out]; rfl), Lib.hid (by have := HK.out; omega), by omega, Lib.hid (by rw [HST.out, HMS.out]), Lib.hid (by rw [List.length_append, rgsCells_append]; have := HO7.out; rw [HN.out] at this; simpa [rgsCells] using this), HB7⟩
    · have hke : k = L.length := by have := HK.out; omega
      have hte : ms.take k = ms := by rw [hke, ← HLM.out, List.take_length]
      have hRM : R = M := by rw [HR.out, hte, HFE.out]
      subst hRM
      have hnl := HN.out
      subst hnl
      clear hte
      go_wp2_with fail
      go_ret
      exact ⟨A3, c3, rfl, own_base HO.out HB2.out.size, HB2.out.trans (HB.out.mono HB2.out.size)⟩
end Go.Proofs.Ytcladmcbhnmhiaa
