/- Contract of kin.Among. -/
import Derived.Test.YtbmkejiijkbmlaaPrW
namespace Go.Proofs.Ytbmkejiijkbmlaa
open Go.ChangeShapes Go.WideShapes Go.ChangeAt Go.RowKit Go.Shelf Go.Lib Go.Sort Go.Proofs
set_option linter.unusedVariables false
set_option linter.unusedSimpArgs false

def AmongNew (w : World) (L : List (List ByteArray)) (items : List ByteArray) (n floor : Int) (e : Ending) (w' : World) : Prop :=
  ∃ A c T ms, e = .returned (.slice A (topN n (List.length ms)) c) ∧ ThingsOf items T ∧ AmongOf L T floor ms ∧ w'.ownsRow w.heap.size 45 3 (.slice A (topN n ms.length) c) (topN n ms.length) ((ms.take (topN n ms.length)).flatMap nearEnc) ∧ Below w.heap.size w w'

theorem near_at {w : World} {base : Nat} {A : Option Addr} {rs : List NearV} (h : Reads w base 3 A rs.length (rs.flatMap nearEnc)) {j : Nat} (hj : j < rs.length) : ∃ b o, A = some ⟨b, o, none⟩ ∧ b < base ∧ w.cell? ⟨b, o + j * 3, none⟩ = some (.string rs[j].item) ∧ w.cell? ⟨b, o + j * 3 + 1, none⟩ = some (.int .i64 rs[j].num) ∧ w.cell? ⟨b, o + j * 3 + 2, none⟩ = some (.int .i64 rs[j].den) := by
  obtain ⟨b, o, e, hb, hc⟩ := h.2 (by omega)
  have f := fun i (hi : i < 3) => flat_getE (e := nearEnc) (k := 3) (fun _ => rfl) rs j i hj hi
  refine ⟨b, o, e, hb, ?_, ?_, ?_⟩
  · have := hc (j * 3 + 0) _ (by rw [f 0 (by omega)]; rfl)
    simpa using this
  · have := hc (j * 3 + 1) _ (by rw [f 1 (by omega)]; rfl)
    simpa [Nat.add_assoc] using this
  · have := hc (j * 3 + 2) _ (by rw [f 2 (by omega)]; rfl)
    simpa [Nat.add_assoc] using this

set_option maxRecDepth 20000 in
set_option maxHeartbeats 8000000 in
theorem among_any (pb : Nat) (F : Nat → Prop) (L : List (List ByteArray)) (A : Option Addr) (c B : Nat) (items : List ByteArray) (n floor : Int) (w : World) (h : PRd w pb F L) (hit : StrsAt w B A items) (hB : B ≤ w.heap.size) (hl : (items.length : Int) ≤ 1000) (hL : (L.length : Int) ≤ 100000) (hLf : (L.flatten.length : Int) ≤ 100000) (hn : n ≤ 9223372036854775807) :
    Calls Try.prog 17 #[.pointer (some ⟨pb, 0, none⟩), .slice A items.length c, .int .i64 n, .int .i64 floor] w (AmongNew w L items n floor) := by
  obtain ⟨W2, hW2⟩ : ∃ W2, W2 = w.alloc (.cells #[.slice A items.length c] 32) := ⟨_, rfl⟩
  have hb2 : Below w.heap.size w W2 := by rw [hW2]; exact (Below.refl _ w).alloc (Nat.le_refl _) _
  have hz2 : W2.heap.size = w.heap.size + 1 := by rw [hW2]; simp
  have d2 : W2.cell? ⟨w.heap.size, 0, none⟩ = some (.slice A items.length c) := by rw [hW2]; simp
  have hs2 := hit.below (hb2.mono hB)
  have q1 := values_any A items.length c w
  have q2 := sortedValues_any A c B w.heap.size items W2 d2 (by omega) hs2 (by omega) (by omega)
  have Q1 := Lib.hid q1
  have Q2 := Lib.hid q2
  have HW2 := Lib.hid hW2
  have HOK := Lib.hid hit.2
  have HP := Lib.hid h
  clear q1 q2 hW2 hit hs2 d2 h
  go_enter Try.func17, Try.ntmps17
  go_wp2_with fail
  refine Q1.out.mono ?_
  rintro e w3 ⟨rfl, rfl⟩
  rw [← HW2.out]
  go_wp2_with fail
  refine Q2.out.mono ?_
  rintro e w4 ⟨A', c', m, rfl, hp, hso, ho, hb4⟩
  have hmok : ∀ s ∈ m, s.size ≤ maxLen := fun s hs => HOK.out s (hp.mem_iff.2 hs)
  have hth := compact_things m hso
  obtain ⟨T, hT⟩ : ∃ T, T = (compact (m.map (fun s : ByteArray => s.data.toList))).map mkS := ⟨_, rfl⟩
  rw [← hT] at hth
  have q3 := compactStr (P := Try.prog) Try.compS W2.heap.size 9 A' c' m w4 ho (by have := hp.length_eq; omega) hmok T hT
  have hbase := fun j (hj : (Value.slice A' m.length c').ownBlock = some j) => (ho.lt j hj).1
  have Q3 := Lib.hid q3
  have HTH : Hid (ThingsOf items T) := Lib.hid ⟨hth.1, fun x => (hth.2 x).trans hp.mem_iff.symm⟩
  have HTL : Hid ((T.length : Int) ≤ 1000) := Lib.hid (by
    have := nodup_len HTH.out.nodup (fun x hx => (HTH.out.2 x).1 hx)
    omega)
  have hb5 : Below w.heap.size w w4 := hb2.trans (hb4.mono (by omega))
  have HB5 := Lib.hid hb5
  have HLT : Hid (∀ j, (Value.slice A' m.length c').ownBlock = some j → w.heap.size ≤ j) := Lib.hid (fun j hj => by have := hbase j hj; omega)
  clear q3 hth hbase ho hso hp hmok hb5 hT hb4 Q1 Q2 hb2 hz2 HW2 HOK
  go_wp2_with fail
  refine Q3.out.mono ?_
  rintro e w5 ⟨rfl, hs5, hk5⟩
  have hb6 : Below w.heap.size w w5 := HB5.out.trans (hk5.toBelow HB5.out.size (fun j hj => HLT.out j hj))
  have HS5 := Lib.hid hs5
  have HP5 := Lib.hid ((PRd.own pb L).below HP.out hb6)
  clear hs5 hk5 HB5 HLT Q3
  have hmm := @run_makeMap Try.prog
  obtain ⟨W6, hW6⟩ : ∃ W6, W6 = w5.alloc (.map #[] 0) := ⟨_, rfl⟩
  have hb56 : Below w5.heap.size w5 W6 := by rw [hW6]; exact (Below.refl _ _).alloc (Nat.le_refl _) _
  have hm6 : MapIs W6 strKf ratVf strOk w5.heap.size [] := by rw [hW6]; exact MapIs.made w5 _ _ _
  have HM6 := Lib.hid hm6
  have htl := HTL.out
  clear hm6
  go_wp2_with fail
  rw [← hW6]
  clear hW6 hmm
  obtain ⟨mb, hmb⟩ : ∃ mb, mb = w5.heap.size := ⟨_, rfl⟩
  have HMB := Lib.hid hmb
  rw [← hmb] at HM6 ⊢
  clear hmb
  (try go_frame)
  go_loopg [29] T.length (fun rest i wr => ∃ (k : Nat) (M : BestL), i = .int .i64 k ∧ Hid (k + rest = T.length) ∧ Hid (MapIs wr strKf ratVf strOk mb M ∧ ∀ x, mget M x = bestF L T floor (T.take k) x) ∧ Hid (Below w5.heap.size w5 wr))
  case atStart => exact ⟨0, [], rfl, Lib.hid (by simp), Lib.hid ⟨HM6.out, fun x => rfl⟩, Lib.hid hb56⟩
  case round =>
    clear HM6 hb56
    obtain ⟨k, M, rfl, HK, HM, HB⟩ := hrel
    by_cases hk : (k : Int) < (T.length : Int)
    · have hkl : k < T.length := by omega
      obtain ⟨b0, o0, rfl, hbl, hcell, hs0⟩ := (HS5.out.below HB.out).one hkl
      have hsz := HS5.out.2 _ (List.getElem_mem hkl)
      have htk := List.take_succ_eq_append_getElem hkl
      have hq := near_any pb F L T[k] floor wr ((PRd.own pb L).below HP5.out HB.out) hsz hL hLf
      generalize T[k] = a at *
      have HQ := Lib.hid hq
      have HTK := Lib.hid htk
      clear hq htk hsz hs0
      go_wp2_with fail
      refine HQ.out.mono ?_
      rintro e w6 ⟨Ar, cr, ks, rs, rfl, hks, hrs, hkok, hown, hb6'⟩
      have hmlt := HM.out.1.lt
      have hM6 : MapIs w6 strKf ratVf strOk mb M := HM.out.1.keep (Keeps.ofBelow hb6' (fun _ => False)) (fun e => e)
      have hnd : ks.Nodup := hks.1.imp (fun {x y} h e => by subst e; rw [sLt_irrefl] at h; cases h)
      have hitn : (rs.map (·.item)).Nodup := by rw [hrs]; exact nearL_items hnd
      have hmem : ∀ r ∈ rs, 0 < pairF L a r.item ∧ floor ≤ cnt2 L a r.item ∧ r.num = likeNum L a r.item ∧ r.den = likeDen L a r.item ∧ r.item.size ≤ maxLen := fun r hr => by
        rw [hrs] at hr
        unfold nearL at hr
        obtain ⟨x, hx, rfl⟩ := List.mem_map.1 hr
        obtain ⟨hx1, hx2⟩ := List.mem_filter.1 hx
        exact ⟨(hks.2 x).1 hx1, show floor ≤ cnt2 L a x by simpa using hx2, rfl, rfl, hkok x hx1⟩
      have hall : ∀ x, x ∉ rs.map (·.item) → ¬ Told L T floor a x := fun x hx ht => by
        apply hx
        rw [hrs]
        unfold nearL
        rw [List.map_map]
        exact List.mem_map.2 ⟨x, List.mem_filter.2 ⟨(hks.2 x).2 ht.2.1, by simpa using ht.2.2⟩, rfl⟩
      have hrl : (rs.length : Int) ≤ 100000 := by
        have h1 := nearL_len L a floor ks
        have h2 := hks.len
        rw [hrs]; omega
      have HRD := Lib.hid (Reads.of_own hown)
      have HBK : Hid (∀ b o sp, Ar = some ⟨b, o, sp⟩ → ¬ (fun q => q = mb) b) := Lib.hid (fun b o sp e hq => by
        have h1 := (hown.lt b (by rw [e]; rfl)).1
        simp only at hq
        omega)
      have HB6 : Hid (Below w5.heap.size w5 w6) := Lib.hid (HB.out.trans (hb6'.mono HB.out.size))
      have HMEM := Lib.hid hmem
      have HALL := Lib.hid hall
      have HITN := Lib.hid hitn
      have HM6 := Lib.hid hM6
      have HMX := Lib.hid HM.out.2
      have HKK := HK
      have hml6 : mb < w6.heap.size := hM6.lt
      clear hmem hall hitn hnd hM6 hks hrs hkok hown hb6' HM HB hcell HQ hmlt HK
      go_wp2_with fail
      (try go_frame)
      go_loopg [38] rs.length (fun rest i wr => ∃ (j : Nat) (M' : BestL), i = .int .i64 j ∧ Hid (j + rest = rs.length) ∧ Hid (MapIs wr strKf ratVf strOk mb M' ∧ BestIn L T floor (T.take k) a ((rs.take j).map (·.item)) M') ∧ Hid (Keeps (fun q => q = mb) w6 wr))
      case atStart => exact ⟨0, M, rfl, Lib.hid (by simp), Lib.hid ⟨HM6.out, BestIn.start HMX.out⟩, Lib.hid (Keeps.refl _ _)⟩
      case round =>
        clear HM6
        obtain ⟨j, M', rfl, HJ, HM', HKP⟩ := hrel
        obtain ⟨w7, rfl⟩ : ∃ w7 : World, w7 = wr := ⟨_, rfl⟩
        by_cases hj : (j : Int) < (rs.length : Int)
        · have hjl : j < rs.length := by omega
          obtain ⟨br, or_, rfl, hbrl, e0, e1, e2⟩ := near_at (HKP.out.reads HRD.out (Nat.le_refl _) HBK.out) hjl
          have hfx := HMEM.out _ (List.getElem_mem hjl)
          have htj : (rs.take (j + 1)).map (·.item) = (rs.take j).map (·.item) ++ [rs[j].item] := by
            rw [List.take_succ_eq_append_getElem hjl, List.map_append]; rfl
          have hnot : rs[j].item ∉ (rs.take j).map (·.item) := fun hin => by
            have hn := HITN.out
            have e3 : rs.map (·.item) = (rs.take j).map (·.item) ++ (rs.drop j).map (·.item) := by rw [← List.map_append, List.take_append_drop]
            rw [e3, List.nodup_append] at hn
            exact hn.2.2 _ hin _ (List.mem_map.2 ⟨rs[j], by rw [List.drop_eq_getElem_cons hjl]; exact List.mem_cons_self, rfl⟩) rfl
          generalize rs[j] = x at *
          obtain ⟨it, nn, dd⟩ := x
          simp only at e0 e1 e2 hfx htj hnot
          obtain ⟨f1, f2, f3, f4, f5⟩ := hfx
          have hok : strOk it := f5
          obtain ⟨on, od, okb, hval, hcase⟩ : ∃ (on od : Int) (okb : Bool), ((((mget M' it).map ratVf).getD (.agg #[.int .i64 0, .int .i64 0]) = .agg #[.int .i64 on, .int .i64 od]) ∧ (mget M' it).isSome = okb) ∧ ((okb = false ∧ mget M' it = none) ∨ (okb = true ∧ mget M' it = some (on, od) ∧ 0 ≤ on ∧ on ≤ 10000000000 ∧ 1 ≤ od ∧ od ≤ 10000000000)) := by
            cases hg : mget M' it with
            | none => exact ⟨0, 0, false, ⟨rfl, rfl⟩, .inl ⟨rfl, rfl⟩⟩
            | some r =>
              obtain ⟨r1, r2⟩ := r
              have hbo := HM'.out.2.old hnot
              rw [hg] at hbo
              obtain ⟨a', -, -, z1, z2⟩ := bestF_some hbo.symm
              have b1 := likeNum_bd L a' it hL
              have b2 := likeDen_bd L a' it hL
              exact ⟨r1, r2, true, ⟨rfl, rfl⟩, .inr ⟨rfl, rfl, by omega, by omega, by omega, by omega⟩⟩
          obtain ⟨W1, hW1⟩ : ∃ W1, W1 = w7.alloc (.cells #[.string it, .int .i64 nn, .int .i64 dd] 45) := ⟨_, rfl⟩
          have hk71 : Keeps (fun q => q = mb) w7 W1 := by rw [hW1]; exact (Keeps.refl _ _).alloc _
          have hM1 : MapIs W1 strKf ratVf strOk mb M' := by rw [hW1]; exact HM'.out.1.alloc _
          have hlook : (Instr.lookup 72 (.map (some mb)) (.string it) true).run Try.prog W1 = .ok (.tuple #[.agg #[.int .i64 on, .int .i64 od], .bool okb]) W1 := by
            have hlk := hM1.lookOk strKey Try.underlying72 zero_rat hok
            rw [hval.1, hval.2] at hlk
            exact hlk
          obtain ⟨W2, hW2⟩ : ∃ W2, W2 = W1.alloc (.cells #[.int .i64 on, .int .i64 od] 28) := ⟨_, rfl⟩
          have hk72 : Keeps (fun q => q = mb) w7 W2 := by rw [hW2]; exact hk71.alloc _
          have hM2 : MapIs W2 strKf ratVf strOk mb M' := by rw [hW2]; exact hM1.alloc _
          have hz1 : W1.heap.size = w7.heap.size + 1 := by rw [hW1]; simp
          have hz2 : W2.heap.size = w7.heap.size + 2 := by rw [hW2]; simp [hz1]
          have x0 : W2.cell? ⟨w7.heap.size, 0, none⟩ = some (.string it) := by rw [hW2, hW1]; simp
          have x1 : W2.cell? ⟨w7.heap.size, 1, none⟩ = some (.int .i64 nn) := by rw [hW2, hW1]; simp
          have x2 : W2.cell? ⟨w7.heap.size, 2, none⟩ = some (.int .i64 dd) := by rw [hW2, hW1]; simp
          have y0 : W2.cell? ⟨w7.heap.size + 1, 0, none⟩ = some (.int .i64 on) := by rw [hW2, ← hz1]; simp
          have y1 : W2.cell? ⟨w7.heap.size + 1, 1, none⟩ = some (.int .i64 od) := by rw [hW2, ← hz1]; simp
          have hk62 : Keeps (fun q => q = mb) w6 W2 := HKP.out.trans hk72 (fun _ _ e => e)
          have hb52 : Below w5.heap.size w5 W2 := HB6.out.trans (hk62.toBelow HB6.out.size (fun q hq => by rw [hq]; exact Nat.le_of_eq HMB.out.symm))
          have qb := binS_any (some ⟨b0, o0, none⟩) c' w5.heap.size T it W2 (HS5.out.below hb52) HTH.out.1 (by omega)
          have HX := Lib.hid (And.intro x0 (And.intro x1 (And.intro x2 (And.intro y0 y1))))
          have HM2 := Lib.hid hM2
          have HK62 := Lib.hid hk62
          have HZ2 := Lib.hid hz2
          have HTJ := Lib.hid htj
          have HNT := Lib.hid hnot
          have HF := Lib.hid (And.intro f1 (And.intro f2 (And.intro f3 f4)))
          clear x0 x1 x2 y0 y1 hM2 hk62 hk72 hk71 hM1 hz1 hz2 htj hnot hb52 hval f1 f2 f3 f4
          have QB := Lib.hid qb
          clear qb
          subst hW1
          have HW2 := Lib.hid hW2
          clear hW2
          go_wp2_with fail
          rw [← HW2.out]
          refine QB.out.mono ?_
          rintro e w8 ⟨bi, rfl, q, hw8⟩
          have hM8 : MapIs w8 strKf ratVf strOk mb M' := by rw [hw8]; exact HM2.out.drewN q
          have hk68 : Keeps (fun q => q = mb) w6 w8 := by rw [hw8]; exact HK62.out.drewN q
          have hz8 : w8.heap.size = w7.heap.size + 2 := by rw [hw8]; exact HZ2.out
          obtain ⟨x0, x1, x2, y0, y1⟩ : w8.cell? ⟨w7.heap.size, 0, none⟩ = some (.string it) ∧ w8.cell? ⟨w7.heap.size, 1, none⟩ = some (.int .i64 nn) ∧ w8.cell? ⟨w7.heap.size, 2, none⟩ = some (.int .i64 dd) ∧ w8.cell? ⟨w7.heap.size + 1, 0, none⟩ = some (.int .i64 on) ∧ w8.cell? ⟨w7.heap.size + 1, 1, none⟩ = some (.int .i64 od) := by rw [hw8]; exact HX.out
          have HM8 := Lib.hid hM8
          have HK68 := Lib.hid hk68
          have HZ8 := Lib.hid hz8
          clear hw8 hM8 hk68 hz8 hlook QB HW2 HM2 HK62 HX HZ2 e0 e1 e2
          obtain ⟨xb, hxb⟩ : ∃ xb, xb = w7.heap.size := ⟨_, rfl⟩
          obtain ⟨f1, f2, f3, f4⟩ := HF.out
          by_cases hkT : it ∈ T
          · have hdT : decide (it ∈ T) = true := by simp [hkT]
            have hst := HM'.out.2.skip hkT
            rw [← HTJ.out] at hst
            have HST := Lib.hid hst
            clear hst hkT
            generalize decide (it ∈ T) = tb at *
            subst hdT
            go_wp2
            go_roundg (gk - 1)
            case measure => have := HJ.out; omega
            case rel => exact ⟨j + 1, M', by go_num, Lib.hid (by have := HJ.out; omega), Lib.hid ⟨HM8.out, HST.out⟩, HK68⟩
          · have hdT : decide (it ∈ T) = false := by simp [hkT]
            have htold : Told L T floor a it := ⟨hkT, f1, f2⟩
            have HTD := Lib.hid htold
            clear hkT htold
            generalize decide (it ∈ T) = tb at *
            subst hdT
            have hnd1 := likeNum_bd L a it hL
            have hnd2 := likeDen_bd L a it hL
            rw [← f3] at hnd1
            rw [← f4] at hnd2
            have hput : ∀ W, MapIs W strKf ratVf strOk mb M' → ∃ w', (Instr.mapUpdate 72 (.map (some mb)) (.string it) (.agg #[.int .i64 nn, .int .i64 dd])).run Try.prog W = .ok () w' ∧ MapIs w' strKf ratVf strOk mb (mput M' it (nn, dd)) ∧ Keeps (fun q => q = mb) W w' := fun W hW => by
              obtain ⟨w', h1, h2, h3, -⟩ := hW.put strKey Try.underlying72 (x := it) hok (nn, dd)
              exact ⟨w', h1, h2, h3⟩
            rcases hcase with ⟨rfl, hnone⟩ | ⟨rfl, hsome, g1, g2, g3, g4⟩
            · obtain ⟨w9, hrun, hM9, hk9⟩ := hput w8 HM8.out
              have hst := HM'.out.2.set HNT.out HTD.out (fun r hr => by rw [hnone] at hr; cases hr)
              rw [← HTJ.out, ← f3, ← f4] at hst
              have HST := Lib.hid (And.intro hM9 hst)
              have HK9 := Lib.hid (HK68.out.trans hk9 (fun _ _ e => e))
              clear hst hM9 hk9 hput hnone f3 f4
              go_wp2
              go_roundg (gk - 1)
              case measure => have := HJ.out; omega
              case rel => exact ⟨j + 1, _, by go_num, Lib.hid (by have := HJ.out; omega), HST, HK9⟩
            · have qc := compare_any nn dd on od (by omega) (by omega) (by omega) (by omega) (by omega) (by omega) (by omega) (by omega) w8
              have QC := Lib.hid qc
              have HPUT := Lib.hid hput
              have hset := fun hc => HM'.out.2.set HNT.out HTD.out (fun r hr => by
                rw [hsome] at hr
                obtain rfl := Option.some.inj hr
                rw [← f3, ← f4]
                exact hc)
              have hstay := fun hc => HM'.out.2.stay HNT.out HTD.out hsome (by rw [← f3, ← f4]; exact hc)
              simp only at hset hstay
              rw [← HTJ.out] at hset hstay
              rw [← f3, ← f4] at hset
              have HSET := Lib.hid hset
              have HSTAY := Lib.hid hstay
              clear qc hput hset hstay f3 f4
              generalize cmpInt (nn * od) (on * dd) = cc at *
              go_wp2_with fail
              refine QC.out.mono ?_
              rintro e w9 ⟨rfl, hg⟩
              have hb89 : Below w8.heap.size w8 w9 := hg.below
              have hlt8 : xb + 1 < w8.heap.size := by have := HZ8.out; omega
              have hx8 : ∀ q : Nat, w9.cell? ⟨xb, q, none⟩ = w8.cell? ⟨xb, q, none⟩ := fun q => hb89.cell (p := ⟨xb, q, none⟩) (by show xb < _; omega)
              have hx0 : w9.cell? ⟨w7.heap.size, 0, none⟩ = some (.string it) := by rw [← hxb, hx8 0, hxb]; exact x0
              have hx1 : w9.cell? ⟨w7.heap.size, 1, none⟩ = some (.int .i64 nn) := by rw [← hxb, hx8 1, hxb]; exact x1
              have hx2 : w9.cell? ⟨w7.heap.size, 2, none⟩ = some (.int .i64 dd) := by rw [← hxb, hx8 2, hxb]; exact x2
              have hM9 : MapIs w9 strKf ratVf strOk mb M' := HM8.out.keep (Keeps.ofBelow hb89 (fun _ => False)) (fun e => e)
              have hk69 : Keeps (fun q => q = mb) w6 w9 := HK68.out.trans (Keeps.ofBelow hb89 (fun _ => False)) (fun _ _ e => e.elim)
              have HK69 := Lib.hid hk69
              obtain ⟨wa, hrun, hMa, hka⟩ := HPUT.out w9 hM9
              have HM9 := Lib.hid hM9
              have HMA := Lib.hid hMa
              have HKA := Lib.hid (hk69.trans hka (fun _ _ e => e))
              clear hM9 hk69 hMa hka hx8 hlt8 hb89 hg x0 x1 x2 y0 y1 QC HPUT
              by_cases hcc : 0 < cc
              · have hst := HSET.out hcc
                have HST := Lib.hid (And.intro HMA.out hst)
                clear hst
                go_wp2
                go_roundg (gk - 1)
                case measure => have := HJ.out; omega
                case rel => exact ⟨j + 1, _, by go_num, Lib.hid (by have := HJ.out; omega), HST, HKA⟩
              · have hst := HSTAY.out (by omega)
                have HST := Lib.hid (And.intro HM9.out hst)
                clear hst
                go_wp2
                go_roundg (gk - 1)
                case measure => have := HJ.out; omega
                case rel => exact ⟨j + 1, _, by go_num, Lib.hid (by have := HJ.out; omega), HST, HK69⟩
        · have hje : j = rs.length := by have := HJ.out; omega
          have hout := HM'.out.2
          rw [hje, List.take_length] at hout
          have hbo := hout.out HALL.out
          rw [← HTK.out] at hbo
          have HMO := Lib.hid (And.intro HM'.out.1 hbo)
          have hb57 : Below w5.heap.size w5 w7 := HB6.out.trans (HKP.out.toBelow HB6.out.size (fun q hq => by rw [hq]; exact Nat.le_of_eq HMB.out.symm))
          have HB57 := Lib.hid hb57
          clear hout hbo hb57
          go_wp2
          go_roundg (T.length - (k + 1))
          case measure => have := HKK.out; omega
          case rel => exact ⟨k + 1, M', by go_num, Lib.hid (by omega), HMO, HB57⟩
    · have hke : k = T.length := by have := HK.out; omega
      have hmx := HM.out.2
      rw [hke, List.take_length] at hmx
      have hM1 := HM.out.1
      have HMX := Lib.hid (And.intro hmx hM1.nodup)
      have HB0 := HB
      obtain ⟨w6, rfl⟩ : ∃ w6 : World, w6 = wr := ⟨_, rfl⟩
      have HMOK := Lib.hid hM1.ok
      clear hmx HM HK
      have hlM := (best_ok hL HMX.out.1 HMX.out.2 (List.Perm.refl _)).2.2
      rw [List.length_map] at hlM
      have hmlt := hM1.lt
      have hbw6 : Below w.heap.size w w6 := hb6.trans (HB0.out.mono hb6.size)
      go_wp2_with (at_range; refine wpList_range_is rfl _ _ rfl Try.underlying72 rfl hM1 ?_; intro w7 hrg7 hb7 hz7)
      have hbw7 : Below w.heap.size w w7 := hbw6.trans (hb7.mono hbw6.size)
      have HRG := Lib.hid hrg7
      obtain ⟨r, hr⟩ : ∃ r, r = w6.heap.size := ⟨_, rfl⟩
      rw [← hr] at HRG ⊢
      have hrw : w.heap.size ≤ r ∧ mb < r ∧ w7.heap.size = r + 1 := by have := hbw6.size; omega
      have HRW := Lib.hid hrw
      clear hrg7 hb7 hz7 hr hrw hmlt hM1 HB0
      (try go_frame)
      go_loopg [19] M.length (fun rest s wr => ∃ (left : BestL) (A : Option Addr) (c : Nat) (rs : List NearV), s = .slice A rs.length c ∧ Hid (rest = left.length) ∧ Hid (RangeAt wr strKf ratVf r (some mb) left) ∧ Hid ((rs ++ left.map toNear).Perm (M.map toNear)) ∧ Hid (wr.ownsRow w7.heap.size 45 3 (.slice A rs.length c) rs.length (rs.flatMap nearEnc)) ∧ Hid (Below w.heap.size w wr) ∧ Hid (w7.heap.size ≤ wr.heap.size))
      case atStart => exact ⟨M, none, 0, [], rfl, Lib.hid rfl, HRG, Lib.hid (by simp), Lib.hid (World.ownsRow_nil _ _ _ _), Lib.hid hbw7, Lib.hid (Nat.le_refl _)⟩
      case round =>
        clear HRG
        obtain ⟨left, Al, cl, rs, rfl, HLN, HRG, HPM, HOW, HBW, HZ⟩ := hrel
        obtain ⟨w8, rfl⟩ : ∃ w8 : World, w8 = wr := ⟨_, rfl⟩
        have hlen : rs.length + left.length = M.length := by have := HPM.out.length_eq; simp at this; exact this
        go_wp2_with (at_next; refine wpList_next_is rfl _ rfl rfl HRG.out ?_ ?_)
        · intro h0
          subst h0
          have hpm := HPM.out
          simp only [List.map_nil, List.append_nil] at hpm
          obtain ⟨k1, k2, k3⟩ := best_ok hL HMX.out.1 HMX.out.2 hpm
          have q := first_any w7.heap.size Al cl rs n w8 k1 k2 HOW.out HZ.out (by omega) hn
          have Q := Lib.hid q
          have HPM' := Lib.hid hpm
          clear q hpm k1 k2 k3
          (try go_frame)
          go_wp2_with fail
          refine Q.out.mono ?_
          rintro e w9 ⟨A9, c9, ms, rfl, hp, hs, ho, hk⟩
          have hA : AmongOf L T floor ms := amongOf_of HMX.out.1 HMX.out.2 HPM'.out hp hs
          have hle := hp.length_eq
          have hb9 : Below w.heap.size w w9 := HBW.out.trans (hk.toBelow HBW.out.size (fun j hj => by have := HRW.out; omega))
          have HO := Lib.hid ho
          have HA := Lib.hid hA
          have HLE := Lib.hid hle
          clear ho hp hs hk hA hle
          go_wp2
          go_ret
          exact ⟨A9, c9, T, ms, by rw [← HLE.out]; rfl, HTH.out, HA.out, own_base (by rw [← HLE.out]; exact HO.out) (by have := HRW.out; omega), hb9⟩
        · intro x vn vd w9 hmem hrg9 hk9 hz9 hen
          have hml := mdel_len HRG.out.nodup (p := (x, (vn, vd))) hmem
          simp only at hml
          have hperm := (mdel_perm HRG.out.nodup hmem).map toNear
          have HPM2 : Hid (((rs ++ [(⟨x, vn, vd⟩ : NearV)]) ++ (mdel left x).map toNear).Perm (M.map toNear)) := Lib.hid (by
            refine List.Perm.trans ?_ HPM.out
            rw [List.append_assoc]
            refine List.Perm.append_left _ ?_
            exact hperm.symm)
          have hkn : ∀ j, (Value.slice Al rs.length cl).ownBlock = some j → ¬ (fun q => q = r) j := fun j hj e => by
            have h1 := (HOW.out.lt j hj).1
            have h2 := HRW.out
            simp only at e
            omega
          have hown9 : w9.ownsRow w7.heap.size 45 3 (.slice Al rs.length cl) rs.length (rs.flatMap nearEnc) := hk9.own HOW.out hkn
          have hownA : (w9.alloc (.cells #[.int .i64 vn, .int .i64 vd] 28)).ownsRow w7.heap.size 45 3 (.slice Al rs.length cl) rs.length (rs.flatMap nearEnc) := ((Keeps.refl (fun _ => False) w9).alloc _).own hown9 (fun _ _ h => h)
          have hzA : w7.heap.size ≤ (w9.alloc (.cells #[.int .i64 vn, .int .i64 vd] 28)).heap.size := by have := HZ.out; simp; omega
          have hbA : Below w9.heap.size w9 (w9.alloc (.cells #[.int .i64 vn, .int .i64 vd] 28)) := (Below.refl _ _).alloc (Nat.le_refl _) _
          have hb89 : Below w.heap.size w w9 := HBW.out.trans (hk9.toBelow HBW.out.size (fun j e => by have := HRW.out; omega))
          simp only [strKf, ratVf] at hen
          have HML := Lib.hid hml
          have HRG9 := Lib.hid hrg9
          have HB89 := Lib.hid hb89
          have HBA := Lib.hid hbA
          have HZ9 : Hid (w7.heap.size ≤ w9.heap.size) := Lib.hid (by have := HZ.out; omega)
          clear hml hperm hkn hown9 hrg9 hk9 hz9 hb89 hbA
          (try go_frame)
          go_wp2_with (at_builtin; refine wpList_append_one (w9.alloc (.cells #[.int .i64 vn, .int .i64 vd] 28)) rfl _ _ _ rfl w7.heap.size 45 (.agg #[.string ByteArray.empty, .int .i64 0, .int .i64 0]) 3 32 Try.underlying41 near_infoK rfl (by decide) Al rs.length cl _ rfl hownA [.string x, .int .i64 vn, .int .i64 vd] (by rw [World.size_alloc]; rfl) rfl (by intro u hu; simp at hu; rcases hu with rfl | rfl | rfl <;> rfl) (by omega) (by unfold maxLen; omega) hzA ?_; intro A5 c5 w5' hown5 hg5 hb5)
          have hl5 : (rs ++ [(⟨x, vn, vd⟩ : NearV)]).length = rs.length + 1 := by simp
          have HO5 : Hid (w5'.ownsRow w7.heap.size 45 3 (.slice A5 (rs ++ [(⟨x, vn, vd⟩ : NearV)]).length c5) (rs ++ [(⟨x, vn, vd⟩ : NearV)]).length ((rs ++ [(⟨x, vn, vd⟩ : NearV)]).flatMap nearEnc)) := Lib.hid (by
            rw [hl5, List.flatMap_append]
            exact hown5)
          have hbx : Below w7.heap.size w9 w5' := (HBA.out.mono HZ9.out).trans hb5
          have HRG5 : Hid (RangeAt w5' strKf ratVf r (some mb) (mdel left x)) := Lib.hid (HRG9.out.keep (Keeps.below hbx) (by have := HRW.out; omega) (fun b e => by injection e with e; have := HRW.out; omega))
          have HB5' : Hid (Below w.heap.size w w5') := Lib.hid (HB89.out.trans (hbx.mono (by have := HRW.out; omega)))
          have HZ5 : Hid (w7.heap.size ≤ w5'.heap.size) := Lib.hid (Nat.le_trans HZ9.out hbx.size)
          clear hown5 hg5 hb5 hownA hzA hbx
          go_wp2
          go_roundg (mdel left x).length
          case measure => have := HML.out; have := HLN.out; omega
          case rel => exact ⟨mdel left x, A5, c5, rs ++ [⟨x, vn, vd⟩], by rw [hl5], Lib.hid rfl, HRG5, HPM2, HO5, HB5', HZ5⟩
end Go.Proofs.Ytbmkejiijkbmlaa
