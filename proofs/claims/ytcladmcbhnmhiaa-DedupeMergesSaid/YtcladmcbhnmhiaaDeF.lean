/- Walk of DedupeMerges. -/
import Derived.Test.YtcladmcbhnmhiaaDeD
import Derived.Test.YtcladmcbhnmhiaaDdV
namespace Go.Proofs.Ytcladmcbhnmhiaa
open Go.ChangeShapes Go.WideShapes Go.ChangeAt Go.RowKit Go.Shelf Go.Lib Go.Sort Go.Proofs
set_option linter.unusedVariables false
set_option linter.unusedSimpArgs false

def opsOf (ys : List SrcD) : List OpD := ys.flatMap (fun s => s.l.map (fun n => (s.name, n)))
theorem opsOf_snoc (ys : List SrcD) (s : SrcD) : opsOf (ys ++ [s]) = opsOf ys ++ s.l.map (fun n => (s.name, n)) := by unfold opsOf; simp
theorem opsOf_len (ys : List SrcD) : (opsOf ys).length = sumLn ys := by
  induction ys with
  | nil => rfl
  | cons s ys ih =>
    have e : opsOf (s :: ys) = s.l.map (fun n => (s.name, n)) ++ opsOf ys := by unfold opsOf; simp
    have e2 : sumLn (s :: ys) = s.l.length + sumLn ys := by unfold sumLn; simp
    rw [e, e2, List.length_append, ih, List.length_map]
theorem mem_opsOf {ys : List SrcD} {o : OpD} : o ∈ opsOf ys ↔ hasX (ys.map plS) o.1 o.2 := by
  unfold opsOf hasX
  rw [List.mem_flatMap]
  constructor
  · rintro ⟨s, hs, ho⟩
    obtain ⟨n, hn, rfl⟩ := List.mem_map.1 ho
    exact ⟨plS s, List.mem_map.2 ⟨s, hs, rfl⟩, rfl, hn⟩
  · rintro ⟨x, hx, e, hn⟩
    obtain ⟨s, hs, rfl⟩ := List.mem_map.1 hx
    refine ⟨s, hs, List.mem_map.2 ⟨o.2, hn, ?_⟩⟩
    rw [show s.name = o.1 from e]
theorem merged_plain {l m : List OpD} {ys : List SrcD} (hy : ys.map plS = foldX m) : foldF (l ++ opsOf ys) = mergeF (foldF l) (foldF m) := by
  refine (foldF_ok _).unique ((foldF_ok l).merge (foldF_ok m)) (fun o ho => ?_)
  rw [List.mem_append, List.mem_append, mem_opsOf, hy, (foldX_ok m).mem, (foldF_ok m).mem]
  constructor
  · rintro (h | h)
    · exact .inl h
    · exact .inr h.1
  · rintro (h | h)
    · exact .inl h
    · exact .inr ⟨h, ho⟩
/-- As many sources, and numbers, as were put at most. -/
theorem RefOk.lens {X : RefX} {F : RowsF} {l : List OpD} (h : RefOk X F) (hF : SetOk F l) : X.length ≤ l.length ∧ ∀ s ∈ X, s.2.length ≤ l.length := by
  refine ⟨?_, fun s hs => ?_⟩
  · have := hF.keysLen (h.keys hF.ok)
    simpa using this
  · have hn : (s.2.map (fun n => ((s.1, n) : OpD))).Nodup := by
      have h1 : s.2.Nodup := (h.ups s hs).1.imp (fun {a b} h e => by omega)
      exact List.pairwise_map.2 (h1.imp (fun {a b} h e => h (by injection e)))
    have := nodup_len07 hn (m := l) (fun o ho => by
      obtain ⟨n, hn, rfl⟩ := List.mem_map.1 ho
      exact ((hF.mem s.1 n).1 ((h.mem s.1 n).1 ⟨s, hs, rfl, hn⟩)).1)
    simpa using this
set_option maxHeartbeats 8000000 in
set_option maxRecDepth 100000 in
theorem mself_any (sb : Nat) (w : World) : Calls Try.prog 27 #[.pointer (some ⟨sb, 0, none⟩), .pointer (some ⟨sb, 0, none⟩)] w fun e w' => e = .returned (.tuple #[]) ∧ w = w' := by
  have hq := eql_set1 w ⟨sb, 0, none⟩
  go_enter Try.func27, Try.ntmps27
  go_wp2
  (try simp only [Exit.inBlock, Exit.then])
  refine bodyPost_ret (results_none rfl _ _ _) rfl ?_
  exact ⟨rfl, rfl⟩

set_option maxHeartbeats 16000000 in
set_option maxRecDepth 100000 in
theorem merges_walk (A : Option Addr) (c : Nat) (l : List OpD) (B : Option Addr) (cb : Nat) (m : List OpD) (w : World) (h : OpsAt w w.heap.size A l) (hl : (l.length : Int) ≤ 9223372036854775807) (hm : OpsAt w w.heap.size B m) (hml : (m.length : Int) ≤ 9223372036854775807) :
    Calls Try.prog 9 #[.slice A l.length c, .slice B m.length cb] w fun e w' => e = .returned (.bool true) ∧ Below w.heap.size w w' := by
  have HL := Lib.hid h
  have HM := Lib.hid hm
  clear h hm
  go_enter Try.func9, Try.ntmps9
  go_wp2_with fail
  refine Calls.mono (long_any A c l w HL.out hl) ?_
  rintro e w0 ⟨lb, rfl, hlong, hb0⟩
  have HB0 := Lib.hid hb0
  have HLG := Lib.hid hlong
  clear hb0 hlong
  have hgo : ∀ W, Below w.heap.size w W → Calls Try.prog 11 #[] W fun e w' => e = .returned (.bool true) ∧ Below w.heap.size w w' := fun W hW => (awake_any W).mono (by
    rintro e w2 ⟨rfl, hb2⟩
    exact ⟨rfl, hW.trans (hb2.mono hW.size)⟩)
  have HGO := Lib.hid hgo
  clear hgo
  cases lb with
  | true =>
    go_wp2_with fail
    refine Calls.mono (HGO.out w0 HB0.out) ?_
    rintro e w2 ⟨rfl, hb2⟩
    have HB2 := Lib.hid hb2
    clear hb2
    go_wp2
    go_ret
    exact ⟨rfl, HB2.out⟩
  | false =>
  obtain ⟨h80, -⟩ := HLG.out rfl
  clear HLG
  go_wp2_with fail
  refine Calls.mono (long_any B cb m w0 ⟨(HM.out.1.below HB0.out).more HB0.out.size, HM.out.2⟩ hml) ?_
  rintro e w1 ⟨lb, rfl, hlong, hb1⟩
  have HB1 := Lib.hid (HB0.out.trans (hb1.mono HB0.out.size))
  have HLG := Lib.hid hlong
  clear hb1 hlong
  cases lb with
  | true =>
    go_wp2_with fail
    refine Calls.mono (HGO.out w1 HB1.out) ?_
    rintro e w2 ⟨rfl, hb2⟩
    have HB2 := Lib.hid hb2
    clear hb2
    go_wp2
    go_ret
    exact ⟨rfl, HB2.out⟩
  | false =>
  obtain ⟨h80m, -⟩ := HLG.out rfl
  clear HLG
  go_wp2_with fail
  refine Calls.mono (fill_any A c w.heap.size l w1 (HL.out.below HB1.out) HB1.out.size (by omega)) ?_
  rintro e w2 ⟨sa, A2, c2, xs, Ga, H, rfl, hO, hS, hX, hap, hG, hH, hb2⟩
  have hB2 : Below w.heap.size w w2 := HB1.out.trans (hb2.mono HB1.out.size)
  have HO := Lib.hid hO
  have HS := Lib.hid hS
  have HX := Lib.hid hX
  have HAP := Lib.hid hap
  have HGL := Lib.hid (fun q hq => Nat.le_trans HB1.out.size (hG q hq))
  have HB2 := Lib.hid hB2
  clear hO hS hX hap hG hH hb2 hB2
  go_wp2_with fail
  refine Calls.mono (fill_any B cb w.heap.size m w2 (HM.out.below HB2.out) HB2.out.size (by omega)) ?_
  rintro e w4 ⟨sb, A4, c4, ys, Gb, K, rfl, hOb, hY, hYX, hapb, hGb, hK, hb4⟩
  have hB4 : Below w.heap.size w w4 := HB2.out.trans (hb4.mono HB2.out.size)
  have hO4 := (SetObj.own sa _).below HO.out hb4
  have hS4 := (SrcsObj.own A2 xs).below HS.out hb4
  have hGlt := (SetObj.own sa _).lt HO.out
  have hab : Apart Ga Gb := fun q h1 h2 => by have := hGlt q h1; have := hGb q h2; omega
  have hak : Apart Ga K := fun q h1 h2 => by have := hGlt q h1; have := hK q h2; omega
  have hmg := merge_any sa sb Ga Gb (foldF l) (foldF m) w4 hO4 hOb hab ⟨(foldF_ok l).top, fun k => by have := (foldF_ok l).len k; omega⟩ ⟨(foldF_ok m).top, fun k => by have := (foldF_ok m).len k; omega⟩
  have HMG := Lib.hid hmg
  have HOB := Lib.hid hOb
  have HY := Lib.hid hY
  have HYX := Lib.hid hYX
  have HS4 := Lib.hid hS4
  have HB4 := Lib.hid hB4
  have HAB := Lib.hid (And.intro hab hak)
  clear hmg hOb hY hYX hS4 hB4 hab hak hO4 hGlt hb4 hapb hGb hK HO HS HB2
  go_wp2_with fail
  refine Calls.mono HMG.out ?_
  rintro e w5 ⟨Gm, rfl, hM5, hU5⟩
  obtain ⟨hS5, -⟩ := (SrcsObj.own A2 xs).frame hU5 HS4.out HAP.out
  obtain ⟨hB5, -⟩ := (SetObj.own sb _).frame hU5 HOB.out HAB.out.1
  obtain ⟨hY5, -⟩ := (SrcsObj.own A4 ys).frame hU5 HY.out HAB.out.2
  have hBB : Below w.heap.size w w5 := hU5.belowB HB4.out (Nat.le_refl _) HGL.out
  have hmp := merged_plain (l := l) HYX.out
  rw [← hmp] at hM5
  have HM5 := Lib.hid hM5
  have HS5 := Lib.hid hS5.at_
  have HOB5 := Lib.hid hB5
  have HY5 := Lib.hid hY5.at_
  have HB5 := Lib.hid hBB
  have hFm : SetOk (foldF (l ++ opsOf ys)) (l ++ m) := by rw [hmp]; exact (foldF_ok l).merge (foldF_ok m)
  have hXm := foldX_ok (l ++ opsOf ys)
  have HFM := Lib.hid (And.intro hFm hXm)
  obtain ⟨yu, yl, yll⟩ := names_of HYX.out
  have HYU := Lib.hid (And.intro yu (And.intro yl yll))
  have hyl2 : (ys.length : Int) ≤ 80 := by omega
  clear hM5 hU5 hS5 hB5 hY5 hBB hmp hFm hXm HMG HOB HY HS4 HB4 HAB HAP HGL yu yl yll
  go_wp2_with fail
  go_loopg [6, 41] ys.length (fun rest s6 s41 wr => ∃ (i : Nat) (A3 : Option Addr) (c3 : Nat) (zs : List SrcD), s41 = .int .i64 i ∧ s6 = .slice A3 zs.length c3 ∧ Hid (i + rest = ys.length) ∧ (i : Int) ≤ 80 ∧ Hid (SrcsAt wr wr.heap.size A3 zs) ∧ Hid (zs.map plS = foldX (l ++ opsOf (ys.take i))) ∧ Hid (Below w5.heap.size w5 wr))
  case atStart => exact ⟨0, A2, c2, xs, rfl, rfl, Lib.hid (by simp), by omega, HS5, Lib.hid (by simp [opsOf, HX.out]), Lib.hid (Below.refl _ _)⟩
  case round =>
    obtain ⟨i, A3, c3, zs, rfl, rfl, HI, hi0, HZ, HZX, HBR⟩ := hrel
    by_cases hi : (i : Int) < (ys.length : Int)
    · have hil : i < ys.length := by omega
      obtain ⟨b, o, rfl, hbl, y1, y2, hso⟩ := (HY5.out.below HBR.out).one hil
      have hmx := List.getElem_mem hil
      have hsl := HYU.out.2.2 _ hmx
      have hnz : ys[i].name.size ≤ maxLen := by
        have hk : nameB ys[i].name = true := by
          have hX2 := foldX_ok m
          rw [← HYX.out] at hX2
          have h1 := (hX2.keys (foldF_ok m).ok).2 ys[i].name
          exact ((foldF_ok m).key (h1.1 (by rw [List.map_map]; exact List.mem_map.2 ⟨ys[i], hmx, rfl⟩))).1
        have := ((nameB_iff _).1 hk).2.1
        unfold maxLen; omega
      have hsn := opsOf_snoc (ys.take i) ys[i]
      rw [← List.take_succ_eq_append_getElem hil] at hsn
      have hol : (opsOf (ys.take i)).length ≤ 80 * 80 := by
        rw [opsOf_len]
        have h1 := sumLn_bd (xs := ys.take i) (M := 80) (fun s hs => by have := HYU.out.2.2 s (List.mem_of_mem_take hs); omega)
        have h2 : (ys.take i).length * 80 ≤ 80 * 80 := Nat.mul_le_mul_right _ (by rw [List.length_take]; omega)
        omega
      have HSN := Lib.hid hsn
      clear hsn hmx
      generalize ys[i] = s at *
      obtain ⟨name, adr, cp, ls⟩ := s
      simp only at y1 y2 hsl hnz hso HSN
      obtain ⟨W9, hW9⟩ : ∃ W9, W9 = wr.alloc (.cells #[.string name, .slice adr ls.length cp] 38) := ⟨_, rfl⟩
      have z0 : W9.cell? ⟨wr.heap.size, 0, none⟩ = some (.string name) := by rw [hW9]; simp
      have z1 : W9.cell? ⟨wr.heap.size, 1, none⟩ = some (.slice adr ls.length cp) := by rw [hW9]; simp
      have hbw : Below wr.heap.size wr W9 := by rw [hW9]; exact (Below.refl _ wr).alloc (Nat.le_refl _) _
      have hx9 : wr.heap.size < W9.heap.size := by rw [hW9]; simp
      have HBW := Lib.hid (And.intro hbw (And.intro hx9 z0))
      have HZ9 := Lib.hid ((HZ.out.below hbw).more hbw.size)
      have HRD : Hid (Reads W9 W9.heap.size 1 adr ls.length (intC ls)) := Lib.hid ((hso.more HBR.out.size).below hbw |>.more hbw.size)
      have HB9 := Lib.hid (HBR.out.trans (hbw.mono HBR.out.size))
      have hls : (ls.length : Int) ≤ 80 := by omega
      clear hbw hx9 hso z0 HBR
      generalize hbx : wr.heap.size = bx at *
      generalize gk = g1 at *
      go_wp2_with fail
      rw [← hW9]
      clear hW9
      go_wp2_with fail
      (try go_frame)
      go_loopg [6, 48] ls.length (fun rest s6 s48 wx => ∃ (j : Nat) (A5 : Option Addr) (c5 : Nat) (vs : List SrcD), s48 = .int .i64 j ∧ s6 = .slice A5 vs.length c5 ∧ Hid (j + rest = ls.length) ∧ (j : Int) ≤ 80 ∧ Hid (SrcsAt wx wx.heap.size A5 vs) ∧ Hid (vs.map plS = foldX (l ++ opsOf (ys.take i) ++ (ls.take j).map (fun n => (name, n)))) ∧ Hid (Below W9.heap.size W9 wx))
      case atStart => exact ⟨0, A3, c3, zs, rfl, rfl, Lib.hid (by simp), by omega, HZ9, Lib.hid (by simpa using HZX.out), Lib.hid (Below.refl _ _)⟩
      case round =>
        obtain ⟨j, A5, c5, vs, rfl, rfl, HJ, hj0, HV, HVX, HBX⟩ := hrel
        by_cases hj : (j : Int) < (ls.length : Int)
        · have hjl : j < ls.length := by omega
          obtain ⟨b9, o9, rfl, hb9, x1⟩ := int_at (HRD.out.below HBX.out) hjl
          have z3 := (HBX.out.cell (p := ⟨bx, 0, none⟩) HBW.out.2.1).trans HBW.out.2.2
          obtain ⟨vu, vl, vll⟩ := names_of HVX.out
          have hln : (l ++ opsOf (ys.take i) ++ (ls.take j).map (fun n => ((name, n) : OpD))).length ≤ 10000 := by
            rw [List.length_append, List.length_append, List.length_map, List.length_take]
            omega
          have hts := List.take_succ_eq_append_getElem hjl
          have hnx : l ++ opsOf (ys.take i) ++ (ls.take (j + 1)).map (fun n => ((name, n) : OpD)) = (l ++ opsOf (ys.take i) ++ (ls.take j).map (fun n => ((name, n) : OpD))) ++ [(name, ls[j])] := by
            rw [hts, List.map_append]
            simp
          have HNX := Lib.hid hnx
          clear hts hnx
          generalize ls[j] = n at *
          have hp := rput07_any A5 c5 vs name n wr HV.out vu (by omega) (fun s hs => by have := vll s hs; omega) hnz
          have HP := Lib.hid hp
          clear hp vu vl vll hln
          obtain ⟨rb, hrb⟩ : ∃ rb, rb = rputB (vs.map plS) name n := ⟨_, rfl⟩
          have HRB := Lib.hid hrb
          clear hrb
          go_wp2_with fail
          refine Calls.mono HP.out ?_
          rintro e v5 ⟨A6, c6, us, rfl, hus, hue, hb5, -, -⟩
          rw [← HRB.out]
          have HU := Lib.hid hus
          have HUX : Hid (us.map plS = foldX (l ++ opsOf (ys.take i) ++ (ls.take (j + 1)).map (fun n => ((name, n) : OpD)))) := Lib.hid (by rw [HNX.out, foldX_snoc, hue, HVX.out])
          have HB5 := Lib.hid (HBX.out.trans (hb5.mono HBX.out.size))
          clear hus hue hb5
          go_wp2_with fail
          go_roundg (gk - 1)
          case measure => have := HJ.out; omega
          case rel => exact ⟨j + 1, A6, c6, us, by go_num, rfl, Lib.hid (by have := HJ.out; omega), by omega, HU, HUX, HB5⟩
        · have hje : j = ls.length := by have := HJ.out; omega
          have hvx := HVX.out
          rw [hje, List.take_length, List.append_assoc, ← HSN.out] at hvx
          have HVX2 := Lib.hid hvx
          have HB5 := Lib.hid (HB9.out.trans (HBX.out.mono HB9.out.size))
          clear hvx hje
          go_wp2_with fail
          go_roundg (g1 - 1)
          case measure => have := HI.out; omega
          case rel => exact ⟨i + 1, A5, c5, vs, by go_num, rfl, Lib.hid (by have := HI.out; omega), by omega, HV, HVX2, HB5⟩
    · have hie : i = ys.length := by have := HI.out; omega
      have hzx := HZX.out
      rw [hie, List.take_length] at hzx
      have hRm := HFM.out.2
      rw [← hzx] at hRm
      obtain ⟨n1, n2⟩ := hRm.lens HFM.out.1
      have hlm : (l ++ m).length ≤ 160 := by rw [List.length_append]; omega
      have hu1 := fun W (hW : Below wr.heap.size wr W) => unlike_any sa Gm (foldF (l ++ opsOf ys)) A3 c3 zs (l ++ m) W ((SetObj.own sa _).below ((SetObj.own sa _).below HM5.out HBR.out) hW) ((HZ.out.below hW).more hW.size) hRm HFM.out.1 (by omega) (by simp at n1; simp at hlm; omega) (fun s hs => by
        have := n2 (plS s) (List.mem_map.2 ⟨s, hs, rfl⟩)
        simp only [plS] at this
        simp at hlm this
        omega)
      have hX2 := foldX_ok m
      rw [← HYX.out] at hX2
      have hu2 := fun W (hW : Below wr.heap.size wr W) => unlike_any sb Gb (foldF m) A4 c4 ys m W ((SetObj.own sb _).below ((SetObj.own sb _).below HOB5.out HBR.out) hW) (((HY5.out.below HBR.out).more HBR.out.size).below hW |>.more hW.size) hX2 (foldF_ok m) (by omega) (by omega) (fun s hs => by have := HYU.out.2.2 s hs; omega)
      have HU1 := Lib.hid hu1
      have HU2 := Lib.hid hu2
      have hem : ((⟨#[]⟩ : ByteArray).toList == (⟨#[]⟩ : ByteArray).toList) = true := by rw [str_beq]; simp
      have hem2 : ((⟨#[]⟩ : ByteArray).toList != (⟨#[]⟩ : ByteArray).toList) = false := by simp
      clear hu1 hu2 hX2 hRm n1 n2 hlm hzx hie HI
      go_wp2_with fail
      refine Calls.mono (HU1.out wr (Below.refl _ _)) ?_
      rintro e v1 ⟨rfl, hb1⟩
      have HV1 := Lib.hid hb1
      clear hb1
      go_wp2_with fail
      refine Calls.mono (HU2.out v1 HV1.out) ?_
      rintro e v2 ⟨rfl, hb2⟩
      have HV2 := Lib.hid (HV1.out.trans (hb2.mono HV1.out.size))
      clear hb2
      go_wp2_with fail
      refine Calls.mono (mself_any sa v2) ?_
      rintro e v3 ⟨rfl, rfl⟩
      go_wp2_with fail
      refine Calls.mono (HU1.out v2 HV2.out) ?_
      rintro e v4 ⟨rfl, hb4⟩
      have HV4 := Lib.hid (HV2.out.trans (hb4.mono HV2.out.size))
      clear hb4
      go_wp2_with fail
      refine Calls.mono (HGO.out v4 (HB5.out.trans ((HBR.out.trans (HV4.out.mono HBR.out.size)).mono HB5.out.size))) ?_
      rintro e v5 ⟨rfl, hb5⟩
      have HB7 := Lib.hid hb5
      clear hb5
      go_wp2
      go_ret
      exact ⟨rfl, HB7.out⟩
end Go.Proofs.Ytcladmcbhnmhiaa
