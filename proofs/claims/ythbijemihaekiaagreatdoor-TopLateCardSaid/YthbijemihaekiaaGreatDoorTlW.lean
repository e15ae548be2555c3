/- TopLate: its walk. -/
import Derived.Test.YthbijemihaekiaaGreatDoorIkE
namespace Go.Proofs.YthbijemihaekiaaGreatDoor
open Go.ChangeShapes Go.WideShapes Go.ChangeAt Go.RowKit
set_option linter.unusedVariables false
set_option linter.unusedSimpArgs false

def LtR (W2 : World) (B ib : Nat) (E : List EvV) (rest : Nat) (s10 s11 s36 : Value) (wr : World) : Prop :=
  ∃ (k : Nat) (x : InV) (G : Nat → Nat → Prop), s10 = .int .i64 x.mark ∧ s11 = .int .i64 x.L.length ∧ s36 = .int .i64 k ∧ k + rest = E.length ∧ Hid (Objs W2 wr B (inObs x) G) ∧ Hid (InOk x (E.take k)) ∧ Hid (x.ib = ib)
set_option maxRecDepth 20000 in
set_option maxHeartbeats 4000000 in
theorem topLate_walk (A : Option Addr) (c : Nat) (l : List Int) (sl : Int) (w : World) (hr : U8At w w.heap.size A l) (hl : (l.length : Int) ≤ 9223372036854775807) (hs : 0 ≤ sl ∧ sl ≤ 255) (hk : KdAt w) (hmx : MxAt w) :
    Calls Tryz.prog 3 #[.slice A l.length c, .int .u8 sl] w fun e w' => e = .returned (.bool true) ∧ Below w.heap.size w w' := by
  have QB := Lib.hid (begun_any A c l w hr hk hl)
  have HK := Lib.hid hk
  have HMX := Lib.hid hmx
  obtain ⟨n, hn⟩ : ∃ n, n = l.length := ⟨_, rfl⟩
  rw [← hn] at QB ⊢
  have HN := Lib.hid (show (n : Int) ≤ 9223372036854775807 by rw [hn]; exact hl)
  clear hr hk hmx hl hn
  go_enter Tryz.func3, Tryz.ntmps3
  go_wp2_with fail
  refine QB.out.mono ?_
  rintro e w1 ⟨A1, c1, E, cs, en, rfl, hcl, hco, hrd, hev, hE60, hb1⟩
  have HONE := Lib.hid hco
  have HRD := Lib.hid hrd
  have HEV := Lib.hid hev
  have HB1 := Lib.hid hb1
  obtain ⟨x0, x1, x2, x3, x4, x5, x6, x7, x8, x9, y0, y1, y2, y3, y4, y5, y6, y7, y8, y9, z0, z1, rfl⟩ : ∃ x0 x1 x2 x3 x4 x5 x6 x7 x8 x9 y0 y1 y2 y3 y4 y5 y6 y7 y8 y9 z0 z1, cs = [x0, x1, x2, x3, x4, x5, x6, x7, x8, x9, y0, y1, y2, y3, y4, y5, y6, y7, y8, y9, z0, z1] := by
    match cs, hcl with
    | [x0, x1, x2, x3, x4, x5, x6, x7, x8, x9, y0, y1, y2, y3, y4, y5, y6, y7, y8, y9, z0, z1], _ => exact ⟨_, _, _, _, _, _, _, _, _, _, _, _, _, _, _, _, _, _, _, _, _, _, rfl⟩
  obtain ⟨W2, hW2⟩ : ∃ W2, W2 = w1.alloc (.cells #[x0, x1, x2, x3, x4, x5, x6, x7, x8, x9, y0, y1, y2, y3, y4, y5, y6, y7, y8, y9, z0, z1] 32) := ⟨_, rfl⟩
  have hb2 : Below w1.heap.size w1 W2 := by rw [hW2]; exact (Below.refl _ w1).alloc (Nat.le_refl _) _
  have HB2 := Lib.hid (hb1.trans (hb2.mono hb1.size))
  have HRD2 := Lib.hid ((hrd.below hb2).more hb2.size)
  clear hcl hco hrd hev hb1 hb2 HRD QB HB1
  go_upto_region 2 with (refine wpList_store_new rfl 32 _ _ rfl _ _ _ _ (by rfl) (by rfl) (by kernel_rfl) (by rfl) (by exact List.all_eq_true.2 (fun u hu => HONE.out u hu)) (by simp) ?_)
  rw [← hW2]
  clear hW2 HONE
  (try simp only [Act.put])
  have hkW : KdAt W2 := HK.out.below HB2.out
  have HQ := Lib.hid (fun W (hb : Below W2.heap.size W2 W) => parses_any W (hkW.below hb))
  clear hkW
  by_cases h3 : n ≤ 300
  · have hd : decide (n ≤ 300) = true := by simpa using h3
    rw [hd]
    clear hd
    go_wp2_with fail
    refine (HQ.out W2 (Below.refl _ _)).mono ?_
    rintro e w3 ⟨rfl, hb3⟩
    have HB3 := Lib.hid (HB2.out.trans (hb3.mono HB2.out.size))
    have HRD3 := Lib.hid ((HRD2.out.below hb3).more hb3.size)
    have hmx3 := HMX.out.next HB3.out
    have HMX3 := Lib.hid hmx3
    have HLT3 := Lib.hid hmx3.lt
    clear hb3 hmx3 HB2 HRD2 HQ h3 HN
    have hws : IntKind.i64.wrap sl = sl := IntWalk.i64_in _ (by omega)
    go_wp2_with fail
    refine (inew_any sl hs w3).mono ?_
    rintro e w4 ⟨x, G, rfl, ho, hok, hL, hmk⟩
    have HO := Lib.hid ho
    have HOK := Lib.hid hok
    obtain ⟨ib, hib⟩ : ∃ ib, ib = x.ib := ⟨_, rfl⟩
    rw [← hib]
    have QM := Lib.hid (show Calls Tryz.prog 7 #[.pointer (some ⟨ib, 0, none⟩)] w4 _ from by rw [hib]; exact imark_any ho)
    have HIB := Lib.hid hib
    have HL0 := Lib.hid hL
    have HM0 := Lib.hid hmk
    clear ho hok hib hL hmk
    go_wp2_with fail
    refine QM.out.mono ?_
    rintro e w5 ⟨rfl, rfl⟩
    clear QM
    go_wp2_with fail
    go_loopg [10, 11, 36] E.length (LtR w3 w3.heap.size ib E)
    case atStart => exact ⟨0, x, G, rfl, by rw [HL0.out]; rfl, rfl, by omega, HO, by rw [List.take_zero]; exact HOK, Lib.hid HIB.out.symm⟩
    case round =>
      clear HO HOK HIB HL0 HM0
      obtain ⟨k, x, G, rfl, rfl, rfl, hk, HO, HOK, HIB⟩ := hrel
      have HBW : Hid (Below w.heap.size w wr) := Lib.hid (HB3.out.trans (HO.out.bl.mono HB3.out.size))
      by_cases hkl : (k : Int) < (E.length : Int)
      · have hkn : k < E.length := by omega
        obtain ⟨b, o, rfl, hbB, hcc⟩ := HRD3.out.2 (by omega)
        have hone := HEV.out.one hkn hE60
        obtain ⟨ev, hev⟩ : ∃ ev, ev = E[k] := ⟨_, rfl⟩
        rw [← hev] at hone
        have hrg : wr.rangeAt b (o + k * 8) [Value.string ev.src, .int .i64 ev.num, .int .i64 ev.at_, .int .i64 ev.kind, .string ev.person, .string ev.item, .int .i64 ev.value, .string ev.text] := by
          intro j v hv
          have hj : j < 8 := (List.getElem?_eq_some_iff.1 hv).1
          have h1 := ev_at hkn j hj
          rw [← hev] at h1
          have h2 := hcc (k * 8 + j) v (h1.trans hv)
          rw [← Nat.add_assoc] at h2
          exact (HO.out.bl.cell (p := ⟨b, o + k * 8 + j, none⟩) hbB).trans h2
        have htk : E.take (k + 1) = E.take k ++ [ev] := by rw [List.take_succ_eq_append_getElem hkn, hev]
        have HTK := Lib.hid htk
        have HRG := Lib.hid hrg
        have HEVK := Lib.hid hone
        clear hcc hrg htk hev hone
        obtain ⟨W5, hW5⟩ : ∃ W5, W5 = wr.alloc (.cells #[Value.string ev.src, .int .i64 ev.num, .int .i64 ev.at_, .int .i64 ev.kind, .string ev.person, .string ev.item, .int .i64 ev.value, .string ev.text] 41) := ⟨_, rfl⟩
        have hb5 : Below wr.heap.size wr W5 := by rw [hW5]; exact (Below.refl _ wr).alloc (Nat.le_refl _) _
        have hbx : W5.heap[wr.heap.size]? = some (.cells #[Value.string ev.src, .int .i64 ev.num, .int .i64 ev.at_, .int .i64 ev.kind, .string ev.person, .string ev.item, .int .i64 ev.value, .string ev.text] 41 (0, 0)) := by rw [hW5]; exact heap_alloc_new wr _
        have o5 : ∃ G5, Objs w3 W5 w3.heap.size (inObs x ++ [kOb wr.heap.size (bxE ev)]) G5 := HO.out.new (kOb wr.heap.size (bxE ev)) hb5 ⟨rfl, hbx⟩ (by rintro q rfl; exact Nat.le_refl _)
        obtain ⟨G5, o5⟩ := o5
        have hoff := offer_any o5 HOK.out ev HEVK.out.1 HEVK.out.2.1 HEVK.out.2.2 (by rw [List.length_take]; omega) HMX3.out HLT3.out (kind_ne HEVK.out.1)
        rw [HIB.out] at hoff
        have HOFF := Lib.hid (show Calls Tryz.prog 8 #[.pointer (some ⟨ib, 0, none⟩), .agg #[.string ev.src, .int .i64 ev.num, .int .i64 ev.at_, .int .i64 ev.kind, .string ev.person, .string ev.item, .int .i64 ev.value, .string ev.text], .int .i64 0] W5 (OfNew (kOb wr.heap.size (bxE ev)) w3 w3.heap.size x (E.take k) ev) from hoff)
        have HBX := Lib.hid hbx
        obtain ⟨xb, hxb⟩ : ∃ xb, wr.heap.size = xb := ⟨_, rfl⟩
        have hxlt : xb < W5.heap.size := by rw [← hxb]; exact (Array.getElem?_eq_some_iff.1 hbx).1
        have hxge : w3.heap.size ≤ xb := by rw [← hxb]; exact HO.out.bl.size
        have HIB2 := Lib.hid HIB.out
        clear hb5 o5 hoff hbx HO HOK HIB
        go_upto_region 9 with (first | (refine wpList_load_mid rfl _ _ rfl b (o + k * 8) (by rfl) _ _ HRG.out Tryz.underlying41 (by rfl) (by kernel_rfl) ?_) | (refine wpList_store_new rfl 41 _ _ rfl _ _ _ _ (by rfl) (by rfl) (by kernel_rfl) (by rfl) (by exact List.all_eq_true.2 (fun u hu => evCells_one ev u hu)) (by simp) ?_))
        rw [← hW5]
        clear hW5
        (try simp only [Act.put])
        rw [hxb] at HBX HOFF
        go_wp2_with (refine wpList_load_row rfl _ _ rfl _ (by rfl) _ _ _ _ HBX.out Tryz.underlying41 (by rfl) (by kernel_rfl) ?_)
        refine HOFF.out.mono ?_
        rintro e w6 ⟨x6, G6, v, rfl, o6, hok6, hib6, hmk6, hv⟩
        have hb6 : w6.heap[xb]? = some (bxE ev) := (o6.get (i := 7) rfl).2
        unfold bxE at hb6
        have a2 : w6.cell? ⟨xb, 2, none⟩ = some (.int .i64 ev.at_) := by rw [cell_of_row w6 xb 2 _ _ _ hb6]; rfl
        have hib7 : x6.ib = ib := hib6.trans HIB2.out
        have QM : Calls Tryz.prog 7 #[.pointer (some ⟨ib, 0, none⟩)] w6 fun e w' => e = .returned (.int .i64 x6.mark) ∧ w6 = w' := by
          have q := imark_any o6.pre
          rwa [hib7] at q
        have QM := Lib.hid QM
        have HO6 := Lib.hid o6.pre
        have HOK6 := Lib.hid (show InOk x6 (E.take (k + 1)) by rw [HTK.out]; exact hok6)
        have HIB6 := Lib.hid hib7
        have HKK := Lib.hid (show x6.mark < 9223372036854775808 ∧ x6.L.length ≤ 60 by
          have := ((o6.get (i := 0) rfl).2).bd
          have h2 := hok6.cnt
          have h3 := hok6.bd
          exact ⟨by omega, by omega⟩)
        clear o6 hok6 hib6 hib7 hb6 HOFF HBX HRG
        have hmk7 : ¬ x6.mark < x.mark := by omega
        rcases hv with ⟨rfl, hl6, hat⟩ | ⟨rfl, hl6, hat⟩
        · have hat2 : ¬ x.mark < ev.at_ := by omega
          have hl60 : x.L.length ≤ 60 := by have := HKK.out; omega
          have HL6 := Lib.hid hl6
          clear hl6
          go_wp2_with fail
          refine QM.out.mono ?_
          rintro e w7 ⟨rfl, rfl⟩
          go_wp2_with fail
          refine QM.out.mono ?_
          rintro e w7 ⟨rfl, rfl⟩
          go_wp2_with fail
          go_roundg (gk - 1)
          case measure => omega
          case rel => exact ⟨k + 1, x6, _, rfl, by rw [HL6.out]; go_num, by go_num, by omega, HO6, HOK6, HIB6⟩
        · have hat2 : ¬ ev.at_ ≤ x.mark := by omega
          have HL6 := Lib.hid hl6
          clear hl6
          go_wp2_with fail
          refine QM.out.mono ?_
          rintro e w7 ⟨rfl, rfl⟩
          go_wp2_with fail
          refine QM.out.mono ?_
          rintro e w7 ⟨rfl, rfl⟩
          go_wp2_with fail
          go_roundg (gk - 1)
          case measure => omega
          case rel => exact ⟨k + 1, x6, _, rfl, by rw [HL6.out], by go_num, by omega, HO6, HOK6, HIB6⟩
      · have hkn : k = E.length := by omega
        have hE2 : E.take k = E := List.take_of_length_le (by omega)
        have hcnt := HOK.out.cnt
        rw [hE2] at hcnt
        have QL := Lib.hid (ilate_any HO.out (by omega))
        have o0 := HO.out
        rw [HIB.out] at QL
        have HCNT := Lib.hid hcnt
        clear hcnt hE2 HOK
        have hTL : x.T.length ≤ 60 ∧ x.L.length ≤ 60 := by have := HCNT.out; omega
        go_wp2_with fail
        refine QL.out.mono ?_
        rintro e w6 ⟨⟨A6, c6, rfl⟩, hb6⟩
        have o6 := o0.below hb6
        have QT := itaken_any o6 (by omega)
        rw [HIB.out] at QT
        have QT := Lib.hid QT
        have HB6 := Lib.hid (HBW.out.trans (hb6.mono HBW.out.size))
        clear o0 o6 hb6 QL
        go_wp2_with fail
        refine QT.out.mono ?_
        rintro e w7 ⟨⟨A7, c7, rfl⟩, hb7⟩
        have HB7 := Lib.hid (HB6.out.trans (hb7.mono HB6.out.size))
        have hsum : (x.T.length : Int) + (x.L.length : Int) = (E.length : Int) := by have := HCNT.out; omega
        clear hb7 QT
        go_wp2_with fail
        go_ret
        exact ⟨rfl, HB7.out⟩
  · have hd : decide (n ≤ 300) = false := by simpa using h3
    rw [hd]
    clear hd
    go_wp2_with fail
    refine (HQ.out W2 (Below.refl _ _)).mono ?_
    rintro e w3 ⟨rfl, hb3⟩
    go_wp2_with fail
    refine (HQ.out w3 hb3).mono ?_
    rintro e w4 ⟨rfl, hb4⟩
    go_wp2_with fail
    go_ret
    have q := HB2.out.trans (hb3.mono HB2.out.size)
    exact ⟨rfl, q.trans (hb4.mono q.size)⟩
end Go.Proofs.YthbijemihaekiaaGreatDoor
