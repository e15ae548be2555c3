/- Walk of DedupeRanges. -/
import Derived.Test.YtcladmcbhnmhiaaDdN
namespace Go.Proofs.Ytcladmcbhnmhiaa
open Go.ChangeShapes Go.WideShapes Go.ChangeAt Go.RowKit Go.Shelf Go.Lib Go.Sort Go.Proofs
set_option linter.unusedVariables false
set_option linter.unusedSimpArgs false

theorem RowOk.take_lt {e : Int} {R : List Rg} (h : RowOk e R) {j : Nat} (hj : j < R.length) : ∀ m, memR (R.take j) m → m < R[j].1 - 1 := by
  have hs := h
  rw [← List.take_append_drop j R, RowOk.append, List.drop_eq_getElem_cons hj] at hs
  obtain ⟨h1, h2, -⟩ := hs
  have key : ∀ {e : Int} {A : List Rg}, RowOk e A → ∀ m, memR A m → m < lastTo e A := by
    intro e A
    induction A generalizing e with
    | nil => intro _ m hm; exact absurd hm (memR_nil m)
    | cons r A ih =>
      intro hA m hm
      have e1 : lastTo e (r :: A) = lastTo r.2 A := by simp [lastTo]
      rw [e1]
      have hge : ∀ {e : Int} {A : List Rg}, RowOk e A → e ≤ lastTo e A := by
        intro e A
        induction A generalizing e with
        | nil => intro _; exact Int.le_refl _
        | cons s A ih =>
          intro hA
          have e2 : lastTo e (s :: A) = lastTo s.2 A := by simp [lastTo]
          rw [e2]
          have := ih hA.2.2
          have h3 := hA.1
          have h4 := hA.2.1
          omega
      rcases (memR_cons _ _ _).1 hm with q | q
      · have := hge hA.2.2
        omega
      · exact ih hA.2.2 m q
  intro m hm
  have := key h1 m hm
  omega
/-- The edges of a range. -/
theorem RowOk.edges {e : Int} {R : List Rg} (h : RowOk e R) {j : Nat} (hj : j < R.length) : memR R R[j].1 ∧ memR R (R[j].2 - 1) ∧ ¬ memR R R[j].2 ∧ ¬ memR R (R[j].1 - 1) := by
  have hg := h.gt R[j] (List.getElem_mem hj)
  have hd := h.drop j
  rw [List.drop_eq_getElem_cons hj] at hd
  have hspl : ∀ m, memR R m ↔ memR (R.take j) m ∨ (R[j].1 ≤ m ∧ m < R[j].2) ∨ memR (R.drop (j + 1)) m := fun m => by
    conv => lhs; rw [← List.take_append_drop j R, memR_append, List.drop_eq_getElem_cons hj, memR_cons]
  refine ⟨⟨_, List.getElem_mem hj, by omega, by omega⟩, ⟨_, List.getElem_mem hj, by omega, by omega⟩, fun q => ?_, fun q => ?_⟩
  · rcases (hspl _).1 q with q | q | q
    · have := h.take_lt hj _ q; omega
    · omega
    · have := hd.2.2.memR_gt q; omega
  · rcases (hspl _).1 q with q | q | q
    · have := h.take_lt hj _ q; omega
    · omega
    · have := hd.2.2.memR_gt q; omega

set_option maxHeartbeats 16000000 in
set_option maxRecDepth 100000 in
theorem ranges_walk (A : Option Addr) (c : Nat) (l : List OpD) (w : World) (h : OpsAt w w.heap.size A l) (hl : (l.length : Int) ≤ 9223372036854775807) :
    Calls Try.prog 5 #[.slice A l.length c] w fun e w' => e = .returned (.bool true) ∧ Below w.heap.size w w' := by
  have HL := Lib.hid h
  clear h
  go_enter Try.func5, Try.ntmps5
  go_wp2_with fail
  refine Calls.mono (long_any A c l w HL.out hl) ?_
  rintro e w1 ⟨lb, rfl, hlong, hb1⟩
  have HB1 := Lib.hid hb1
  have HLG := Lib.hid hlong
  clear hb1 hlong
  cases lb with
  | true =>
    go_wp2_with fail
    refine Calls.mono (awake_any w1) ?_
    rintro e w2 ⟨rfl, hb2⟩
    have HB2 := Lib.hid (HB1.out.trans (hb2.mono HB1.out.size))
    clear hb2
    go_wp2
    go_ret
    exact ⟨rfl, HB2.out⟩
  | false =>
  obtain ⟨h80, -⟩ := HLG.out rfl
  go_wp2_with fail
  refine Calls.mono (fill_any A c w.heap.size l w1 (HL.out.below HB1.out) HB1.out.size (by omega)) ?_
  rintro e w2 ⟨sb, A2, c2, xs, G, H, rfl, hO, -, -, -, hG, -, hb2⟩
  have hFO := foldF_ok l
  obtain ⟨F, hF⟩ : ∃ F, F = foldF l := ⟨_, rfl⟩
  rw [← hF] at hO hFO
  clear hF
  have hlen : ∀ k, (F k).length < 900000 := fun k => by have := hFO.len k; omega
  have hB2 : Below w.heap.size w w2 := HB1.out.trans (hb2.mono HB1.out.size)
  have HO := Lib.hid hO
  have HFO := Lib.hid hFO
  have HLEN := Lib.hid hlen
  have HB2 := Lib.hid hB2
  clear hO hFO hlen hB2 hb2 hG
  go_wp2_with fail
  refine Calls.mono (sources_any sb G F w2 HO.out (fun ks hks => by have := HFO.out.keysLen hks; omega)) ?_
  rintro e w3 ⟨A3, c3, ks, rfl, hks, ⟨hst, -⟩, hb3⟩
  have hO3 := (SetObj.own sb F).below HO.out hb3
  have hB3 : Below w.heap.size w w3 := HB2.out.trans (hb3.mono HB2.out.size)
  have hkl := HFO.out.keysLen hks
  have HO3 := Lib.hid hO3
  have HB3 := Lib.hid hB3
  have HKS := Lib.hid hks
  have HST := Lib.hid hst
  have hkl2 : (ks.length : Int) ≤ 80 := by omega
  clear hO3 hB3 hks hst hb3 hkl
  go_wp2_with fail
  go_loopg [5, 24] ks.length (fun rest s5 s24 wr => ∃ i : Nat, s24 = .int .i64 i ∧ s5 = .int .i64 (sumK F (ks.take i)) ∧ Hid (i + rest = ks.length) ∧ (i : Int) ≤ 80 ∧ Hid (Below w3.heap.size w3 wr))
  case atStart => exact ⟨0, rfl, by simp [sumK], Lib.hid (by simp), by omega, Lib.hid (Below.refl _ _)⟩
  case round =>
    obtain ⟨i, rfl, rfl, HI, hi0, HBR⟩ := hrel
    by_cases hi : (i : Int) < (ks.length : Int)
    · have hil : i < ks.length := by omega
      obtain ⟨b, o, rfl, hbl, e1, s1⟩ := (HST.out.below HBR.out).one hil
      have hsk : sumK F (ks.take (i + 1)) = sumK F (ks.take i) + cntR (F ks[i]) := by
        rw [List.take_succ_eq_append_getElem hil]
        unfold sumK
        rw [List.map_append, List.sum_append]
        simp
      have hne := (HKS.out.2 _).1 (List.getElem_mem hil)
      have hsb := sumK_bd HFO.out.ok HFO.out.top (ks.take i)
      have hsl : ((ks.take i).length : Int) ≤ 80 := by rw [List.length_take]; omega
      have HSK := Lib.hid hsk
      have HNE := Lib.hid hne
      clear hsk hne
      generalize ks[i] = key at *
      have hkey := (nameB_iff key).1 (HFO.out.key HNE.out).1
      have hkz : key.size ≤ maxLen := by unfold maxLen; have := hkey.2.1; omega
      have hrb := HFO.out.ok key
      have htop := HFO.out.top key
      have hrl := HLEN.out key
      have hOr := (SetObj.own sb F).below HO3.out HBR.out
      have hq := ranges_any sb G F key wr hOr hkz hrl
      have hx0 : 0 ≤ sumK F (ks.take i) ∧ sumK F (ks.take i) ≤ 1099511627777 * 80 := ⟨hsb.1, by omega⟩
      have HQ := Lib.hid hq
      have HRB := Lib.hid hrb
      have HTOP := Lib.hid htop
      clear hkey hrb htop hq hsb hsl
      obtain ⟨R, hR⟩ : ∃ R, R = F key := ⟨_, rfl⟩
      have HRE := Lib.hid hR
      rw [← hR] at HQ HRB HTOP hrl HSK HNE
      clear hR
      generalize sumK F (ks.take i) = sm at *
      have hcase := fun (W : World) (m : Int) (hb : Below wr.heap.size wr W) => has_any sb G F key m W ((SetObj.own sb F).below hOr hb) hkz (by rw [← HRE.out]; omega)
      have HHAS := Lib.hid hcase
      clear hcase hOr
      go_wp2_with fail
      refine Calls.mono HQ.out ?_
      rintro e w5 ⟨A5, c5, rfl, hrd5, hb5⟩
      have HRD := Lib.hid hrd5
      have HB5 := Lib.hid hb5
      clear hrd5 hb5 HQ
      generalize gk = g1 at *
      generalize wr = w4 at *
      go_wp2_with fail
      (try go_frame)
      go_loopg [5, 8, 32] R.length (fun rest s5 s8 s32 wx => ∃ (j : Nat) (e9 : Int), s32 = .int .i64 j ∧ s8 = .int .i64 e9 ∧ s5 = .int .i64 (sm + cntR (R.take j)) ∧ Hid (j + rest = R.length) ∧ (j : Int) ≤ 900000 ∧ Hid (RowOk e9 (R.drop j)) ∧ 0 ≤ e9 ∧ e9 ≤ 1099511627777 ∧ Hid (0 < j → 0 < e9) ∧ Hid (Below w5.heap.size w5 wx))
      case atStart => exact ⟨0, 0, rfl, rfl, by rw [List.take_zero]; show _ = Value.int .i64 (sm + 0); rw [Int.add_zero], Lib.hid (by simp), by omega, HRB, by omega, by omega, Lib.hid (fun h => by omega), Lib.hid (Below.refl _ _)⟩
      case round =>
        obtain ⟨j, e9, rfl, rfl, rfl, HJ, hj0, HOK, he0, he1, HE9, HBX⟩ := hrel
        by_cases hj : (j : Int) < (R.length : Int)
        · have hjl : j < R.length := by omega
          obtain ⟨b9, o9, rfl, hb9, hc9⟩ := (HRD.out.below HBX.out).2 (by omega)
          obtain ⟨x1, x2⟩ := rgsCells_at hjl
          have y1 := hc9 _ _ x1
          have y2 := hc9 _ _ x2
          rw [← Nat.add_assoc] at y2
          have hok9 := HOK.out
          rw [List.drop_eq_getElem_cons hjl] at hok9
          have ht9 := HTOP.out R[j] (List.getElem_mem hjl)
          have hct : cntR (R.take (j + 1)) = cntR (R.take j) + (R[j].2 - R[j].1) := by rw [List.take_succ_eq_append_getElem hjl, cntR_append, cntR_one]
          have hpart : 0 ≤ cntR (R.take j) ∧ cntR (R.take j) ≤ 1099511627777 := by
            have h1 := HRB.out
            rw [← List.take_append_drop j R] at h1
            have h2 := (RowOk.append.1 h1).1
            have := h2.cnt_le (M := 1099511627777) (fun r hr => HTOP.out r (List.mem_of_mem_take hr)) (by omega)
            exact ⟨h2.cnt_nn, by omega⟩
          have hedge := HRB.out.edges hjl
          have hlo := (HRB.out.gt R[j] (List.getElem_mem hjl)).1
          have HCT := Lib.hid hct
          clear hct hc9 x1 x2
          generalize R[j] = rj at *
          obtain ⟨f, t⟩ := rj
          obtain ⟨k1', k2', k3'⟩ := hok9
          simp only at y1 y2 k1' k2' k3' ht9 hedge hlo
          obtain ⟨d1, d2, d3, d4⟩ := hedge
          rw [HRE.out] at d1 d2 d3 d4
          have D1 : decide (memR (F key) f) = true := by simpa using d1
          have D2 : decide (memR (F key) (t - 1)) = true := by simpa using d2
          have D3 : decide (memR (F key) t) = false := by simpa using d3
          have D4 : decide (memR (F key) (f - 1)) = false := by simpa using d4
          have HK3 := Lib.hid k3'
          have HDD := Lib.hid (And.intro (And.intro D1 D2) (And.intro D3 D4))
          clear d1 d2 d3 d4 D1 D2 D3 D4 k3'
          generalize cntR (R.take j) = cs at *
          obtain ⟨hp1, hp2⟩ := hpart
          have w1' : wrap64 (t - f) = t - f := by unfold wrap64; omega
          have w2' : wrap64 (sm + cs + (t - f)) = sm + cs + (t - f) := by unfold wrap64; omega
          have w3' : wrap64 (t - 1) = t - 1 := by unfold wrap64; omega
          have w4' : wrap64 (f - 1) = f - 1 := by unfold wrap64; omega
          have n1 : ¬ f ≤ e9 := by omega
          have n2 : ¬ t ≤ f := by omega
          have n3 : ¬ f < 1 := by omega
          have n4 : ¬ 1099511627777 < t := by omega
          obtain ⟨W9, hW9⟩ : ∃ W9, W9 = wr.alloc (.cells #[.int .i64 f, .int .i64 t] 42) := ⟨_, rfl⟩
          have z0 : W9.cell? ⟨wr.heap.size, 0, none⟩ = some (.int .i64 f) := by rw [hW9]; simp
          have z1 : W9.cell? ⟨wr.heap.size, 1, none⟩ = some (.int .i64 t) := by rw [hW9]; simp
          have hsz : wr.heap.size < W9.heap.size := by rw [hW9]; simp
          have hbw : Below wr.heap.size wr W9 := by rw [hW9]; exact (Below.refl _ wr).alloc (Nat.le_refl _) _
          have HZ := Lib.hid (And.intro z0 z1)
          have hbr : Below w4.heap.size w4 W9 := (HB5.out.trans (HBX.out.mono HB5.out.size)).trans (hbw.mono (by have := HB5.out.size; have := HBX.out.size; omega))
          have HSZ := Lib.hid hsz
          have HBW := Lib.hid (And.intro hbw hbr)
          have hbox : ∀ W, Below W9.heap.size W9 W → W.cell? ⟨wr.heap.size, 0, none⟩ = some (.int .i64 f) ∧ W.cell? ⟨wr.heap.size, 1, none⟩ = some (.int .i64 t) := fun W hb => ⟨(hb.cell (p := ⟨wr.heap.size, 0, none⟩) HSZ.out).trans HZ.out.1, (hb.cell (p := ⟨wr.heap.size, 1, none⟩) HSZ.out).trans HZ.out.2⟩
          have HBOX := Lib.hid hbox
          have hle : w4.heap.size ≤ W9.heap.size := hbr.size
          clear hsz hbw hbr hbox
          generalize gk = g2 at *
          go_wp2_with fail
          rw [← hW9]
          clear hW9
          refine Calls.mono (HHAS.out W9 f HBW.out.2) ?_
          rintro e v1 ⟨rfl, hv1⟩
          rw [HDD.out.1.1]
          obtain ⟨a0, a1⟩ := HBOX.out v1 hv1
          have HV1 := Lib.hid hv1
          clear hv1 z0 z1
          go_wp2_with fail
          refine Calls.mono (HHAS.out v1 (t - 1) (HBW.out.2.trans (HV1.out.mono hle))) ?_
          rintro e v2 ⟨rfl, hv2⟩
          rw [HDD.out.1.2]
          have hv2' := HV1.out.trans (hv2.mono HV1.out.size)
          obtain ⟨b0, b1⟩ := HBOX.out v2 hv2'
          have HV2 := Lib.hid hv2'
          clear hv2 hv2' a0 a1 HV1
          go_wp2_with fail
          refine Calls.mono (HHAS.out v2 t (HBW.out.2.trans (HV2.out.mono hle))) ?_
          rintro e v3 ⟨rfl, hv3⟩
          rw [HDD.out.2.1]
          have hv3' := HV2.out.trans (hv3.mono HV2.out.size)
          obtain ⟨c0, c1'⟩ := HBOX.out v3 hv3'
          have HV3 := Lib.hid hv3'
          clear hv3 hv3' b0 b1 HV2
          go_wp2_with fail
          refine Calls.mono (HHAS.out v3 (f - 1) (HBW.out.2.trans (HV3.out.mono hle))) ?_
          rintro e v4 ⟨rfl, hv4⟩
          rw [HDD.out.2.2]
          have hv4' := HV3.out.trans (hv4.mono HV3.out.size)
          obtain ⟨f0, f1⟩ := HBOX.out v4 hv4'
          have hfin : Below w5.heap.size w5 v4 := (HBX.out.trans (HBW.out.1.mono HBX.out.size)).trans (hv4'.mono (by have := HBX.out.size; have := HBW.out.1.size; omega))
          have HFN := Lib.hid hfin
          clear hv4 hv4' c0 c1' HV3 hfin
          go_wp2_with fail
          go_roundg (g2 - 1)
          case measure => have := HJ.out; omega
          case rel => exact ⟨j + 1, t, by go_num, rfl, by rw [HCT.out, Int.add_assoc], Lib.hid (by have := HJ.out; omega), by omega, HK3, by omega, ht9, Lib.hid (fun _ => by omega), HFN⟩
        · have hje : j = R.length := by have := HJ.out; omega
          have e2 : cntR (R.take j) = cntR R := by rw [hje, List.take_length]
          rw [e2]
          have hRl : 0 < R.length := List.length_pos_iff.2 HNE.out
          have he : 0 < e9 := HE9.out (by omega)
          have he2 : (e9 == 0) = false := by simp; omega
          have hsum : sm + cntR R = sumK F (ks.take (i + 1)) := by rw [HSK.out]
          rw [hsum]
          have hfin : Below w3.heap.size w3 wr := HBR.out.trans ((HB5.out.trans (HBX.out.mono HB5.out.size)).mono HBR.out.size)
          have HFN := Lib.hid hfin
          clear e2 hsum hfin
          go_wp2_with fail
          go_roundg (g1 - 1)
          case measure => have := HI.out; omega
          case rel => exact ⟨i + 1, by go_num, rfl, Lib.hid (by have := HI.out; omega), by omega, HFN⟩
    · have hie : i = ks.length := by have := HI.out; omega
      have e2 : ks.take i = ks := by rw [hie, List.take_length]
      rw [e2]
      have hOr := (SetObj.own sb F).below HO3.out HBR.out
      have hcn := count_any sb G F wr hOr ks HKS.out (by omega) HFO.out.top HLEN.out
      have HCN := Lib.hid hcn
      clear hcn hOr e2
      obtain ⟨tt, htt⟩ : ∃ tt, tt = sumK F ks := ⟨_, rfl⟩
      rw [← htt] at HCN ⊢
      clear htt
      go_wp2_with fail
      refine Calls.mono HCN.out ?_
      rintro e v1 ⟨rfl, hv1⟩
      have htb : (tt == tt) = true := by simp
      have HV1 := Lib.hid (HB3.out.trans ((HBR.out.trans (hv1.mono HBR.out.size)).mono HB3.out.size))
      clear hv1
      go_wp2_with fail
      refine Calls.mono (awake_any v1) ?_
      rintro e v2 ⟨rfl, hv2⟩
      have HV2 := Lib.hid (HV1.out.trans (hv2.mono HV1.out.size))
      clear hv2
      go_wp2
      go_ret
      exact ⟨rfl, HV2.out⟩
end Go.Proofs.Ytcladmcbhnmhiaa
