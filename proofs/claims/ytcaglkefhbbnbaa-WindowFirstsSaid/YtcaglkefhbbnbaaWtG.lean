/- The walk of the statement WindowFirsts. -/
import Derived.Test.YtcaglkefhbbnbaaWtF
namespace Go.Proofs.Ytcaglkefhbbnbaa
open Go.ChangeShapes Go.WideShapes Go.ChangeAt Go.RowKit Go.Shelf Go.Lib Go.Sort Go.Proofs
set_option linter.unusedVariables false
set_option linter.unusedSimpArgs false

theorem zero_bool (w : World) : (zeroValue 4).run Try.prog w = .ok (.bool false) w := by kernel_rfl
theorem look_met {w : World} {mb : Nat} {M : KeyM} (h : MapIs w strKf boolVf strOk mb M) {k : ByteArray} (hk : strOk k) :
    (Instr.lookup 55 (.map (some mb)) (.string k) false).run Try.prog w = .ok (.bool ((mget M k).getD false)) w := by
  have := h.look strKey Try.underlying55 zero_bool hk
  have e : ((mget M k).map boolVf).getD (.bool false) = .bool ((mget M k).getD false) := by cases mget M k <;> rfl
  rw [e] at this
  exact this
/-- What the round of the first loop reads: the spec's box, the count's box, the count ahead. -/
def FrAt (z bx b oy : Nat) (s h : Int) (y x : CntV) (W : World) : Prop :=
  W.cell? ⟨z, 0, none⟩ = some (.int .i64 s) ∧ W.cell? ⟨z, 1, none⟩ = some (.int .i64 h) ∧ W.cell? ⟨bx, 0, none⟩ = some (.string y.key) ∧ W.cell? ⟨bx, 1, none⟩ = some (.int .i64 y.n) ∧
  W.cell? ⟨b, oy, none⟩ = some (.string x.key) ∧ W.cell? ⟨b, oy + 1, none⟩ = some (.int .i64 x.n)
theorem FrAt.below {z bx b oy : Nat} {s h : Int} {y x : CntV} {W W' : World} (hf : FrAt z bx b oy s h y x W) (hb : Below W.heap.size W W') (h1 : z < W.heap.size) (h2 : bx < W.heap.size) (h3 : b < W.heap.size) : FrAt z bx b oy s h y x W' :=
  ⟨(hb.cell (p := ⟨z, 0, none⟩) h1).trans hf.1, (hb.cell (p := ⟨z, 1, none⟩) h1).trans hf.2.1, (hb.cell (p := ⟨bx, 0, none⟩) h2).trans hf.2.2.1, (hb.cell (p := ⟨bx, 1, none⟩) h2).trans hf.2.2.2.1,
    (hb.cell (p := ⟨b, oy, none⟩) h3).trans hf.2.2.2.2.1, (hb.cell (p := ⟨b, oy + 1, none⟩) h3).trans hf.2.2.2.2.2⟩
theorem atV_bd {w : World} {pb : Nat} {F : Nat → Prop} {wd : Int} {hist : List AddD} (hO : PaneObj w pb F wd hist) (s h : Int) (k : ByteArray) (e : Int) : 0 ≤ atV wd hist s h k e ∧ atV wd hist s h k e ≤ 1099511627776 := by
  unfold atV
  split
  · exact hO.tot_bd2 _ _ _
  · omega

set_option maxRecDepth 20000 in
set_option maxHeartbeats 1000000 in
theorem wfirsts_walk (width : Int) (A : Option Addr) (c : Nat) (l : List AddD) (s h e n : Int) (w : World) (hl : AddsAt w w.heap.size A l) (hlen : (l.length : Int) ≤ 9223372036854775807) (hn : n ≤ 9223372036854775807) :
    Calls Try.prog 10 #[.int .i64 width, .slice A l.length c, .agg #[.int .i64 s, .int .i64 h], .int .i64 e, .int .i64 n] w fun r w' => r = .returned (.bool true) ∧ Below w.heap.size w w' := by
  have hb0 : Below w.heap.size w (w.alloc (.cells #[.int .i64 s, .int .i64 h] 23)) := (Below.refl _ _).alloc (Nat.le_refl _) _
  have HL := Lib.hid hl
  have HB0 := Lib.hid hb0
  by_cases g1 : longB l = true
  · go_enter Try.func10, Try.ntmps10
    go_wp2_with fail
    refine (long_any A c l _ ((HL.out.below HB0.out).more HB0.out.size) hlen).mono ?_
    rintro r w1 ⟨rfl, hb1⟩
    have HB1 : Hid (Below w.heap.size w w1) := Lib.hid (HB0.out.trans (hb1.mono HB0.out.size))
    go_wp2_with fail
    refine (awake_any _).mono ?_
    rintro r w2 ⟨rfl, hb2⟩
    go_wp2
    go_ret
    exact ⟨rfl, HB1.out.trans (hb2.mono HB1.out.size)⟩
  · have g1' : longB l = false := by simpa using g1
    have hno := Lib.hid (longB_no g1').1
    have HSZ := Lib.hid (longB_no g1').2
    clear g1
    go_enter Try.func10, Try.ntmps10
    go_wp2_with fail
    refine (long_any A c l _ ((HL.out.below HB0.out).more HB0.out.size) hlen).mono ?_
    rintro r w1 ⟨rfl, hb1⟩
    have hB1 : Below w.heap.size w w1 := HB0.out.trans (hb1.mono HB0.out.size)
    have s0 : w1.cell? ⟨w.heap.size, 0, none⟩ = some (.int .i64 s) := (hb1.cell (by simp)).trans (by simp)
    have s1 : w1.cell? ⟨w.heap.size, 1, none⟩ = some (.int .i64 h) := (hb1.cell (by simp)).trans (by simp)
    have hz1 : w.heap.size < w1.heap.size := by have := hb1.size; simp at this; omega
    clear hb1
    go_wp2_with fail
    refine (fill_any width A c l _ ((HL.out.below hB1).more hB1.size) hno.out).mono ?_
    rintro r w2 ⟨pb, F, rfl, hO, hF, hb2⟩
    have hB2 : Below w.heap.size w w2 := hB1.trans (hb2.mono hB1.size)
    have s0 := (hb2.cell (p := ⟨w.heap.size, 0, none⟩) hz1).trans s0
    have s1 := (hb2.cell (p := ⟨w.heap.size, 1, none⟩) hz1).trans s1
    have hz2 : w.heap.size < w2.heap.size := by have := hb2.size; omega
    have HO := Lib.hid hO
    have hfl : ((l.filter rightB).length : Int) ≤ 60 := by
      have h1 := List.length_filter_le rightB l
      have := hno.out
      omega
    clear hO hF hb2 hB1
    generalize widthOf width = wd at *
    go_wp2_with fail
    refine (wtop_any pb F wd (l.filter rightB) s h e 1000 w2 HO.out (by omega)).mono ?_
    rintro r w3 ⟨A3, c3, all, rfl, hall, hown3, hb3, hl3⟩
    have hB3 : Below w.heap.size w w3 := hB2.trans (hb3.mono hB2.size)
    have s0 := (hb3.cell (p := ⟨w.heap.size, 0, none⟩) hz2).trans s0
    have s1 := (hb3.cell (p := ⟨w.heap.size, 1, none⟩) hz2).trans s1
    have hz3 : w.heap.size < w3.heap.size := by have := hb3.size; omega
    have HO3 := Lib.hid (HO.out.below hb3)
    have hcap := own_capC hown3
    have hat3 : CntsAt w3 w3.heap.size A3 all := Reads.of_own hown3
    have HALL := Lib.hid hall
    have HAT3 := Lib.hid hat3
    have hal : (all.length : Int) ≤ 60 := by omega
    clear hown3 hall hat3 hb3 hB2 hz1 hz2 hl3 HO
    go_wp2_with fail
    refine (wtop_any pb F wd (l.filter rightB) s h e n w3 HO3.out hn).mono ?_
    rintro r w4 ⟨A4, c4, ts, rfl, hts, hown4, hb4, hl4⟩
    have hsm := firsts_same HALL.out hts (by omega)
    have hlt : (all.take (topM n all.length)).length = topM n all.length := by rw [List.length_take]; have := topM_le n all.length; omega
    have hB4 : Below w.heap.size w w4 := hB3.trans (hb4.mono hB3.size)
    have s0 := (hb4.cell (p := ⟨w.heap.size, 0, none⟩) hz3).trans s0
    have s1 := (hb4.cell (p := ⟨w.heap.size, 1, none⟩) hz3).trans s1
    have hz4 : w.heap.size < w4.heap.size := by have := hb4.size; omega
    have HO4 := Lib.hid (HO3.out.below hb4)
    have hat4 : CntsAt w4 w4.heap.size A3 all := Reads.more (HAT3.out.below hb4) hb4.size
    have HAT4 := Lib.hid hat4
    clear hat4
    have hatt : CntsAt w4 w4.heap.size A4 ts := Reads.of_own hown4
    have hatA : CntsAt w4 w4.heap.size A3 ts := by
      rw [hsm]
      unfold CntsAt
      rw [hlt]
      exact CntsAt.take HAT4.out _ (topM_le _ _)
    have hq := csame_any A4 A3 c4 c3 ts w4 hatt hatA (by omega)
    have htl : ts.length = topM n all.length := by rw [hsm, hlt]
    rw [htl] at hq
    have HQ := Lib.hid hq
    have HTL := Lib.hid htl
    clear hq hatt hatA hsm hlt hown4 hts hb4 hz3 HO3 HAT3 hl4
    rw [HTL.out]
    go_wp2_with fail
    refine (cfirst_any A3 c3 all.length n w4 hcap (by omega)).mono ?_
    rintro r w5 ⟨rfl, rfl⟩
    go_wp2_with fail
    refine HQ.out.mono ?_
    rintro r w5 ⟨rfl, hb5⟩
    have hB5 : Below w.heap.size w w5 := hB4.trans (hb5.mono hB4.size)
    have s0 := (hb5.cell (p := ⟨w.heap.size, 0, none⟩) hz4).trans s0
    have s1 := (hb5.cell (p := ⟨w.heap.size, 1, none⟩) hz4).trans s1
    have hz5 : w.heap.size < w5.heap.size := by have := hb5.size; omega
    have HO5 := Lib.hid (HO4.out.below hb5)
    have hat5 : CntsAt w5 w5.heap.size A3 all := Reads.more (HAT4.out.below hb5) hb5.size
    have HAT5 := Lib.hid hat5
    clear hat5
    have hac := AllC.of HALL.out (by omega)
    have HAC := Lib.hid hac
    have hpb := HO5.out.pb_lt
    have HB5 := Lib.hid hB5
    have hwat := fun key (hk : key.size ≤ maxLen) W (hb : Below w5.heap.size w5 W) => wat_any pb F wd (l.filter rightB) s h key e W (HO5.out.below hb) hk (by have := hb.size; omega)
    have hbd := fun k => atV_bd HO5.out s h k e
    have HWAT := Lib.hid hwat
    have HBD := Lib.hid hbd
    clear hwat hbd hac hb5 hB3 hB4 hB5 HALL HQ HTL HO4 HAT4 hz4
    go_wp2_with fail
    go_loopg [13, 44] all.length (fun rest q i wr => ∃ (k : Nat), i = .int .i64 k ∧ Hid (k + rest = all.length) ∧ q = .int .i64 (sumC (all.take k)) ∧ Below w5.heap.size w5 wr)
    case atStart => exact ⟨0, rfl, Lib.hid (by simp), rfl, Below.refl _ _⟩
    case round =>
      obtain ⟨k, rfl, HK, rfl, hb⟩ := hrel
      have hz := hb.size
      have t0 := (hb.cell (p := ⟨w.heap.size, 0, none⟩) hz5).trans s0
      have t1 := (hb.cell (p := ⟨w.heap.size, 1, none⟩) hz5).trans s1
      by_cases hk : (k : Int) < (all.length : Int)
      · have hkl : k < all.length := by omega
        obtain ⟨b, o, rfl, hbl, c1, c2⟩ := (HAT5.out.below hb).one hkl
        have hv := HAC.out.vals all[k] (List.getElem_mem hkl)
        have hkey : all[k].key.size ≤ maxLen := by
          have h1 : 0 < atV wd (l.filter rightB) s h all[k].key e := by omega
          have h0 : 0 < histTot wd (l.filter rightB) all[k].key ((e - s) / wd) (e / wd) := by
            unfold atV at h1
            split at h1
            · exact h1
            · omega
          have := HO5.out.key_sz2 h0
          unfold maxLen
          omega
        have hsn := sumC_take all hkl
        have hsb := sumC_bd (cs := all) (fun r hr => by have h1 := HAC.out.vals r hr; have h2 := HBD.out r.key; omega) k
        have hnb : all[k].n ≤ 1099511627776 := by have h2 := HBD.out all[k].key; omega
        have hq := HWAT.out all[k].key hkey
        rw [← hv.1] at hq
        have hn1 := hv.2
        by_cases h0 : (k : Int) = 0
        · have hk0 : k = 0 := by omega
          subst hk0
          generalize all[0] = y at *
          have c1' : wr.cell? ⟨b, o, none⟩ = some (.string y.key) := by simpa using c1
          have c2' : wr.cell? ⟨b, o + 1, none⟩ = some (.int .i64 y.n) := by simpa using c2
          have HQ := Lib.hid hq
          have HSN := Lib.hid hsn
          generalize sumC (all.take 0) = sm at *
          clear c1 c2 h0 hq hsn hv
          go_wp2_with fail
          have hW1 : ∃ W1, W1 = wr.alloc (Obj.cells #[Value.string y.key, Value.int .i64 y.n] 53) := ⟨_, rfl⟩
          obtain ⟨W1, hW1⟩ := hW1
          have hFr : FrAt w.heap.size wr.heap.size wr.heap.size 0 s h y y W1 := by
            have hbw : Below wr.heap.size wr W1 := by rw [hW1]; exact (Below.refl _ wr).alloc (Nat.le_refl _) _
            refine ⟨(hbw.cell (p := ⟨w.heap.size, 0, none⟩) (by show w.heap.size < _; omega)).trans t0, (hbw.cell (p := ⟨w.heap.size, 1, none⟩) (by show w.heap.size < _; omega)).trans t1, ?_, ?_, ?_, ?_⟩ <;> (rw [hW1]; simp)
          have hzz : wr.heap.size < W1.heap.size := by rw [hW1]; simp
          have HB7 : Hid (Below w5.heap.size w5 W1) := Lib.hid (by rw [hW1]; exact hb.alloc hz _)
          rw [← hW1]
          clear hW1 c1' c2'
          have hKe : Below W1.heap.size W1 W1.drew := (Below.refl _ _).drew
          have hbx : w.heap.size < W1.heap.size := by omega
          have HFR := Lib.hid hFr
          have hne : (y.n != y.n) = false := by simp
          have hlt1 : decide (y.n < 1) = false := by simp; omega
          clear hFr
          refine heldStart 28 (S := fun W => W.cell? ⟨w.heap.size, 0, none⟩ = some (.int .i64 s) ∧ W.cell? ⟨w.heap.size, 1, none⟩ = some (.int .i64 h) ∧ W.cell? ⟨wr.heap.size, 0, none⟩ = some (.string y.key) ∧ W.cell? ⟨wr.heap.size, 1, none⟩ = some (.int .i64 y.n)) (by kernel_rfl) ?_ (fun hHeld => ?_)
          · exact (fun q => ⟨q.1, q.2.1, q.2.2.1, q.2.2.2.1⟩) (HFR.out.below hKe hbx hzz hzz)
          refine heldTake 0 (v := ?_) (by simp only [List.getElem?_toArray, List.getElem?_cons_succ, List.getElem?_cons_zero]; rfl) (by kernel_rfl) (by intro _ _ _ h; exact h) (by rfl) (by assumption) ?_ ?_
          rotate_left
          · intro W hSw; (try dsimp only at hSw); go_simp; try with_reducible rfl
          simp only [Act.put, List.setIfInBounds_toArray, List.set_cons_zero, List.set_cons_succ]
          refine heldTake 1 (v := ?_) (by simp only [List.getElem?_toArray, List.getElem?_cons_succ, List.getElem?_cons_zero]; rfl) (by kernel_rfl) (by intro _ _ _ h; exact h) (by rfl) (by assumption) ?_ ?_
          rotate_left
          · intro W hSw; (try dsimp only at hSw); go_simp; try with_reducible rfl
          simp only [Act.put, List.setIfInBounds_toArray, List.set_cons_zero, List.set_cons_succ]
          refine heldTake 2 (v := ?_) (by simp only [List.getElem?_toArray, List.getElem?_cons_succ, List.getElem?_cons_zero]; rfl) (by kernel_rfl) (by intro _ _ _ h; exact h) (by rfl) (by assumption) ?_ ?_
          rotate_left
          · intro W hSw; (try dsimp only at hSw); go_simp; try with_reducible rfl
          simp only [Act.put, List.setIfInBounds_toArray, List.set_cons_zero, List.set_cons_succ]
          refine heldSkip 3 (by simp only [List.getElem?_toArray, List.getElem?_cons_succ, List.getElem?_cons_zero]; rfl) (by kernel_rfl) (by intro _ _ _ h; exact h) (by rfl) (by assumption) ?_
          simp only [Act.put, List.setIfInBounds_toArray, List.set_cons_zero, List.set_cons_succ]
          refine heldSkip 4 (by simp only [List.getElem?_toArray, List.getElem?_cons_succ, List.getElem?_cons_zero]; rfl) (by kernel_rfl) (by intro _ _ _ h; exact h) (by rfl) (by assumption) ?_
          simp only [Act.put, List.setIfInBounds_toArray, List.set_cons_zero, List.set_cons_succ]
          refine heldSkip 5 (by simp only [List.getElem?_toArray, List.getElem?_cons_succ, List.getElem?_cons_zero]; rfl) (by kernel_rfl) (by intro _ _ _ h; exact h) (by rfl) (by assumption) ?_
          simp only [Act.put, List.setIfInBounds_toArray, List.set_cons_zero, List.set_cons_succ]
          refine heldSkip 6 (by simp only [List.getElem?_toArray, List.getElem?_cons_succ, List.getElem?_cons_zero]; rfl) (by kernel_rfl) (by intro _ _ _ h; exact h) (by rfl) (by assumption) ?_
          simp only [Act.put, List.setIfInBounds_toArray, List.set_cons_zero, List.set_cons_succ]
          refine heldSkip 7 (by simp only [List.getElem?_toArray, List.getElem?_cons_succ, List.getElem?_cons_zero]; rfl) (by kernel_rfl) (by intro _ _ _ h; exact h) (by rfl) (by assumption) ?_
          simp only [Act.put, List.setIfInBounds_toArray, List.set_cons_zero, List.set_cons_succ]
          refine heldSkip 8 (by simp only [List.getElem?_toArray, List.getElem?_cons_succ, List.getElem?_cons_zero]; rfl) (by kernel_rfl) (by intro _ _ _ h; exact h) (by rfl) (by assumption) ?_
          simp only [Act.put, List.setIfInBounds_toArray, List.set_cons_zero, List.set_cons_succ]
          refine heldSkip 9 (by simp only [List.getElem?_toArray, List.getElem?_cons_succ, List.getElem?_cons_zero]; rfl) (by kernel_rfl) (by intro _ _ _ h; exact h) (by rfl) (by assumption) ?_
          simp only [Act.put, List.setIfInBounds_toArray, List.set_cons_zero, List.set_cons_succ]
          refine heldSkip 10 (by simp only [List.getElem?_toArray, List.getElem?_cons_succ, List.getElem?_cons_zero]; rfl) (by kernel_rfl) (by intro _ _ _ h; exact h) (by rfl) (by assumption) ?_
          simp only [Act.put, List.setIfInBounds_toArray, List.set_cons_zero, List.set_cons_succ]
          refine heldTake 11 (v := ?_) (by simp only [List.getElem?_toArray, List.getElem?_cons_succ, List.getElem?_cons_zero]; rfl) (by kernel_rfl) (by intro _ _ _ h; exact h) (by rfl) (by assumption) ?_ ?_
          rotate_left
          · intro W hSw; (try dsimp only at hSw); go_simp; try with_reducible rfl
          simp only [Act.put, List.setIfInBounds_toArray, List.set_cons_zero, List.set_cons_succ]
          refine heldTake 12 (v := ?_) (by simp only [List.getElem?_toArray, List.getElem?_cons_succ, List.getElem?_cons_zero]; rfl) (by kernel_rfl) (by intro _ _ _ h; exact h) (by rfl) (by assumption) ?_ ?_
          rotate_left
          · intro W hSw; (try dsimp only at hSw); go_simp; try with_reducible rfl
          simp only [Act.put, List.setIfInBounds_toArray, List.set_cons_zero, List.set_cons_succ]
          refine heldTake 13 (v := ?_) (by simp only [List.getElem?_toArray, List.getElem?_cons_succ, List.getElem?_cons_zero]; rfl) (by kernel_rfl) (by intro _ _ _ h; exact h) (by rfl) (by assumption) ?_ ?_
          rotate_left
          · intro W hSw; (try dsimp only at hSw); go_simp; try with_reducible rfl
          simp only [Act.put, List.setIfInBounds_toArray, List.set_cons_zero, List.set_cons_succ]
          refine heldTake 14 (v := ?_) (by simp only [List.getElem?_toArray, List.getElem?_cons_succ, List.getElem?_cons_zero]; rfl) (by kernel_rfl) (by intro _ _ _ h; exact h) (by rfl) (by assumption) ?_ ?_
          rotate_left
          · intro W hSw; (try dsimp only at hSw); go_simp; try with_reducible rfl
          simp only [Act.put, List.setIfInBounds_toArray, List.set_cons_zero, List.set_cons_succ]
          refine heldTake 15 (v := ?_) (by simp only [List.getElem?_toArray, List.getElem?_cons_succ, List.getElem?_cons_zero]; rfl) (by kernel_rfl) (by intro _ _ _ h; exact h) (by rfl) (by assumption) ?_ ?_
          rotate_left
          · intro W hSw; (try dsimp only at hSw); go_simp; try with_reducible rfl
          simp only [Act.put, List.setIfInBounds_toArray, List.set_cons_zero, List.set_cons_succ]
          refine heldTake 16 (v := ?_) (by simp only [List.getElem?_toArray, List.getElem?_cons_succ, List.getElem?_cons_zero]; rfl) (by kernel_rfl) (by intro _ _ _ h; exact h) (by rfl) (by assumption) ?_ ?_
          rotate_left
          · intro W hSw; (try dsimp only at hSw); go_simp; try with_reducible rfl
          simp only [Act.put, List.setIfInBounds_toArray, List.set_cons_zero, List.set_cons_succ]
          refine heldTake 17 (v := ?_) (by simp only [List.getElem?_toArray, List.getElem?_cons_succ, List.getElem?_cons_zero]; rfl) (by kernel_rfl) (by intro _ _ _ h; exact h) (by rfl) (by assumption) ?_ ?_
          rotate_left
          · intro W hSw; (try dsimp only at hSw); go_simp; try with_reducible rfl
          simp only [Act.put, List.setIfInBounds_toArray, List.set_cons_zero, List.set_cons_succ]
          refine heldTake 18 (v := ?_) (by simp only [List.getElem?_toArray, List.getElem?_cons_succ, List.getElem?_cons_zero]; rfl) (by kernel_rfl) (by intro _ _ _ h; exact h) (by rfl) (by assumption) ?_ ?_
          rotate_left
          · intro W hSw; (try dsimp only at hSw); go_simp; try with_reducible rfl
          simp only [Act.put, List.setIfInBounds_toArray, List.set_cons_zero, List.set_cons_succ]
          refine heldTake 19 (v := ?_) (by simp only [List.getElem?_toArray, List.getElem?_cons_succ, List.getElem?_cons_zero]; rfl) (by kernel_rfl) (by intro _ _ _ h; exact h) (by rfl) (by assumption) ?_ ?_
          rotate_left
          · intro W hSw; (try dsimp only at hSw); go_simp; try with_reducible rfl
          simp only [Act.put, List.setIfInBounds_toArray, List.set_cons_zero, List.set_cons_succ]
          refine heldTake 20 (v := ?_) (by simp only [List.getElem?_toArray, List.getElem?_cons_succ, List.getElem?_cons_zero]; rfl) (by kernel_rfl) (by intro _ _ _ h; exact h) (by rfl) (by assumption) ?_ ?_
          rotate_left
          · intro W hSw; (try dsimp only at hSw); go_simp; try with_reducible rfl
          simp only [Act.put, List.setIfInBounds_toArray, List.set_cons_zero, List.set_cons_succ]
          refine heldTake 21 (v := ?_) (by simp only [List.getElem?_toArray, List.getElem?_cons_succ, List.getElem?_cons_zero]; rfl) (by kernel_rfl) (by intro _ _ _ h; exact h) (by rfl) (by assumption) ?_ ?_
          rotate_left
          · intro W hSw; (try dsimp only at hSw); go_simp; try with_reducible rfl
          simp only [Act.put, List.setIfInBounds_toArray, List.set_cons_zero, List.set_cons_succ]
          refine heldTake 22 (v := ?_) (by simp only [List.getElem?_toArray, List.getElem?_cons_succ, List.getElem?_cons_zero]; rfl) (by kernel_rfl) (by intro _ _ _ h; exact h) (by rfl) (by assumption) ?_ ?_
          rotate_left
          · intro W hSw; (try dsimp only at hSw); go_simp; try with_reducible rfl
          simp only [Act.put, List.setIfInBounds_toArray, List.set_cons_zero, List.set_cons_succ]
          refine heldTake 24 (v := ?_) (by simp only [List.getElem?_toArray, List.getElem?_cons_succ, List.getElem?_cons_zero]; rfl) (by kernel_rfl) (by intro _ _ _ h; exact h) (by rfl) (by assumption) ?_ ?_
          rotate_left
          · intro W hSw; (try dsimp only at hSw); go_simp; try with_reducible rfl
          simp only [Act.put, List.setIfInBounds_toArray, List.set_cons_zero, List.set_cons_succ]
          refine heldTake 25 (v := ?_) (by simp only [List.getElem?_toArray, List.getElem?_cons_succ, List.getElem?_cons_zero]; rfl) (by kernel_rfl) (by intro _ _ _ h; exact h) (by rfl) (by assumption) ?_ ?_
          rotate_left
          · intro W hSw; (try dsimp only at hSw); go_simp; try with_reducible rfl
          simp only [Act.put, List.setIfInBounds_toArray, List.set_cons_zero, List.set_cons_succ]
          refine heldCall 23 (by simp only [List.getElem?_toArray, List.getElem?_cons_succ, List.getElem?_cons_zero]; rfl) (by kernel_rfl) (fun K hK => ?_)
          go_simp
          refine (HQ.out _ (HB7.out.trans (hKe.mono HB7.out.size))).mono ?_
          rintro r w7 ⟨rfl, hb7⟩
          have hK0 : Below W1.heap.size W1 w7 := hKe.trans (hb7.mono hKe.size)
          clear hKe hb7
          have hKe := hK0
          clear hK0
          go_wp2_with fail
          refine hK.out _ _ ?_ (fun hHeld => ?_)
          · exact (fun q => ⟨q.1, q.2.1, q.2.2.1, q.2.2.2.1⟩) (HFR.out.below hKe hbx hzz hzz)
          clear hK K
          (try simp only [Act.put, List.setIfInBounds_toArray, List.set_cons_zero, List.set_cons_succ])
          refine heldTake 26 (v := ?_) (by simp only [List.getElem?_toArray, List.getElem?_cons_succ, List.getElem?_cons_zero]; rfl) (by kernel_rfl) (by intro _ _ _ h; exact h) (by rfl) (by assumption) ?_ ?_
          rotate_left
          · intro W hSw; (try dsimp only at hSw); go_simp; try with_reducible rfl
          simp only [Act.put, List.setIfInBounds_toArray, List.set_cons_zero, List.set_cons_succ]
          refine heldTake 27 (v := ?_) (by simp only [List.getElem?_toArray, List.getElem?_cons_succ, List.getElem?_cons_zero]; rfl) (by kernel_rfl) (by intro _ _ _ h; exact h) (by rfl) (by assumption) ?_ ?_
          rotate_left
          · intro W hSw; (try dsimp only at hSw); go_simp; try with_reducible rfl
          simp only [Act.put, List.setIfInBounds_toArray, List.set_cons_zero, List.set_cons_succ]
          refine heldDone (by kernel_rfl) ?_ _
          obtain ⟨r0, r1, r2, r3, r4, r5⟩ := HFR.out.below hKe hbx hzz hzz
          have HB8 : Hid (Below w5.heap.size w5 w7) := Lib.hid (HB7.out.trans (hKe.mono HB7.out.size))
          clear hKe hHeld HFR HB7
          go_wp2
          go_roundg (gk - 1)
          case measure => have := HK.out; omega
          case rel => exact ⟨0 + 1, by go_num, Lib.hid (by have := HK.out; omega), by rw [HSN.out], HB8.out⟩
        · have hk1 : ¬ k = 0 := by omega
          have hm : k - 1 < all.length := by omega
          obtain ⟨b', o', e', hbl', d1, d2⟩ := (HAT5.out.below hb).one hm
          injection e' with e'
          injection e' with e1 e2
          subst e1 e2
          have hlt : cntLt all[k - 1] all[k] = true := (List.pairwise_iff_getElem.1 HAC.out.sorted) (k - 1) k hm hkl (by omega)
          have hj3 : ((k : Int) - 1).toNat = k - 1 := by omega
          have hw1 : IntKind.i64.wrap ((k : Int) - 1) = (k : Int) - 1 := IntWalk.i64_in _ (by omega)
          have hix : 0 ≤ (k : Int) - 1 ∧ (k : Int) - 1 < (all.length : Int) := by omega
          have hgt : decide (0 < (k : Int)) = true := by simp; omega
          have hgtN : decide (0 < k) = true := by simp; omega
          have hgtP : 0 < k := by omega
          have hgtI : (0 : Int) < (k : Int) := by omega
          have hix1 : (0 : Int) ≤ (k : Int) - 1 := by omega
          have hix3 : (1 : Int) ≤ (k : Int) := by omega
          have hix2 : (k : Int) - 1 < (all.length : Int) := by omega
          generalize all[k] = y at *
          generalize all[k - 1] = x at *
          have HQ := Lib.hid hq
          have HSN := Lib.hid hsn
          have HLT := Lib.hid hlt
          generalize sumC (all.take k) = sm at *
          clear h0 hq hsn hv hlt
          go_wp2_with fail
          have hW1 : ∃ W1, W1 = wr.alloc (Obj.cells #[Value.string y.key, Value.int .i64 y.n] 53) := ⟨_, rfl⟩
          obtain ⟨W1, hW1⟩ := hW1
          have hFr : FrAt w.heap.size wr.heap.size b (o + (k - 1) * 2) s h y x W1 := by
            have hbw : Below wr.heap.size wr W1 := by rw [hW1]; exact (Below.refl _ wr).alloc (Nat.le_refl _) _
            refine ⟨(hbw.cell (p := ⟨w.heap.size, 0, none⟩) (by show w.heap.size < _; omega)).trans t0, (hbw.cell (p := ⟨w.heap.size, 1, none⟩) (by show w.heap.size < _; omega)).trans t1, by rw [hW1]; simp, by rw [hW1]; simp, (hbw.cell (p := ⟨b, o + (k - 1) * 2, none⟩) (by show b < _; omega)).trans d1, (hbw.cell (p := ⟨b, o + (k - 1) * 2 + 1, none⟩) (by show b < _; omega)).trans d2⟩
          have hzz : wr.heap.size < W1.heap.size := by rw [hW1]; simp
          have HB7 : Hid (Below w5.heap.size w5 W1) := Lib.hid (by rw [hW1]; exact hb.alloc hz _)
          rw [← hW1]
          clear hW1 c1 c2 d1 d2
          have hKe : Below W1.heap.size W1 W1.drew := (Below.refl _ _).drew
          have hbx : w.heap.size < W1.heap.size := by omega
          have hbb : b < W1.heap.size := by omega
          have HFR := Lib.hid hFr
          have hne : (y.n != y.n) = false := by simp
          have hlt1 : decide (y.n < 1) = false := by simp; omega
          clear hFr
          refine heldStart 28 (S := fun W => W.cell? ⟨w.heap.size, 0, none⟩ = some (.int .i64 s) ∧ W.cell? ⟨w.heap.size, 1, none⟩ = some (.int .i64 h) ∧ W.cell? ⟨wr.heap.size, 0, none⟩ = some (.string y.key) ∧ W.cell? ⟨wr.heap.size, 1, none⟩ = some (.int .i64 y.n) ∧ W.cell? ⟨b, o + (k - 1) * 2, none⟩ = some (.string x.key) ∧ W.cell? ⟨b, o + (k - 1) * 2 + 1, none⟩ = some (.int .i64 x.n)) (by kernel_rfl) ?_ (fun hHeld => ?_)
          · exact HFR.out.below hKe hbx hzz hbb
          refine heldTake 0 (v := ?_) (by simp only [List.getElem?_toArray, List.getElem?_cons_succ, List.getElem?_cons_zero]; rfl) (by kernel_rfl) (by intro _ _ _ h; exact h) (by rfl) (by assumption) ?_ ?_
          rotate_left
          · intro W hSw; (try dsimp only at hSw); go_simp; try with_reducible rfl
          simp only [Act.put, List.setIfInBounds_toArray, List.set_cons_zero, List.set_cons_succ]
          refine heldTake 1 (v := ?_) (by simp only [List.getElem?_toArray, List.getElem?_cons_succ, List.getElem?_cons_zero]; rfl) (by kernel_rfl) (by intro _ _ _ h; exact h) (by rfl) (by assumption) ?_ ?_
          rotate_left
          · intro W hSw; (try dsimp only at hSw); go_simp; try with_reducible rfl
          simp only [Act.put, List.setIfInBounds_toArray, List.set_cons_zero, List.set_cons_succ]
          refine heldTake 2 (v := ?_) (by simp only [List.getElem?_toArray, List.getElem?_cons_succ, List.getElem?_cons_zero]; rfl) (by kernel_rfl) (by intro _ _ _ h; exact h) (by rfl) (by assumption) ?_ ?_
          rotate_left
          · intro W hSw; (try dsimp only at hSw); go_simp; try with_reducible rfl
          simp only [Act.put, List.setIfInBounds_toArray, List.set_cons_zero, List.set_cons_succ]
          refine heldTake 3 (v := ?_) (by simp only [List.getElem?_toArray, List.getElem?_cons_succ, List.getElem?_cons_zero]; rfl) (by kernel_rfl) (by intro _ _ _ h; exact h) (by rfl) (by assumption) ?_ ?_
          rotate_left
          · intro W hSw; (try dsimp only at hSw); go_simp; try with_reducible rfl
          simp only [Act.put, List.setIfInBounds_toArray, List.set_cons_zero, List.set_cons_succ]
          refine heldTake 4 (v := ?_) (by simp only [List.getElem?_toArray, List.getElem?_cons_succ, List.getElem?_cons_zero]; rfl) (by kernel_rfl) (by intro _ _ _ h; exact h) (by rfl) (by assumption) ?_ ?_
          rotate_left
          · intro W hSw; (try dsimp only at hSw); go_simp; try with_reducible rfl
          simp only [Act.put, List.setIfInBounds_toArray, List.set_cons_zero, List.set_cons_succ]
          refine heldTake 5 (v := ?_) (by simp only [List.getElem?_toArray, List.getElem?_cons_succ, List.getElem?_cons_zero]; rfl) (by kernel_rfl) (by intro _ _ _ h; exact h) (by rfl) (by assumption) ?_ ?_
          rotate_left
          · intro W hSw; (try dsimp only at hSw); go_simp; try with_reducible rfl
          simp only [Act.put, List.setIfInBounds_toArray, List.set_cons_zero, List.set_cons_succ]
          refine heldTake 6 (v := ?_) (by simp only [List.getElem?_toArray, List.getElem?_cons_succ, List.getElem?_cons_zero]; rfl) (by kernel_rfl) (by intro _ _ _ h; exact h) (by rfl) (by assumption) ?_ ?_
          rotate_left
          · intro W hSw; (try dsimp only at hSw); go_simp; try with_reducible rfl
          simp only [Act.put, List.setIfInBounds_toArray, List.set_cons_zero, List.set_cons_succ]
          refine heldTake 7 (v := ?_) (by simp only [List.getElem?_toArray, List.getElem?_cons_succ, List.getElem?_cons_zero]; rfl) (by kernel_rfl) (by intro _ _ _ h; exact h) (by rfl) (by assumption) ?_ ?_
          rotate_left
          · intro W hSw; (try dsimp only at hSw); go_simp; try with_reducible rfl
          simp only [Act.put, List.setIfInBounds_toArray, List.set_cons_zero, List.set_cons_succ]
          refine heldTake 8 (v := ?_) (by simp only [List.getElem?_toArray, List.getElem?_cons_succ, List.getElem?_cons_zero]; rfl) (by kernel_rfl) (by intro _ _ _ h; exact h) (by rfl) (by assumption) ?_ ?_
          rotate_left
          · intro W hSw; (try dsimp only at hSw); go_simp; try with_reducible rfl
          simp only [Act.put, List.setIfInBounds_toArray, List.set_cons_zero, List.set_cons_succ]
          refine heldCall 9 (by simp only [List.getElem?_toArray, List.getElem?_cons_succ, List.getElem?_cons_zero]; rfl) (by kernel_rfl) (fun K hK => ?_)
          go_simp
          refine (cless_any x y _).mono ?_
          rintro r w6 ⟨rfl, hb6⟩
          rw [HLT.out]
          have hK0 : Below W1.heap.size W1 w6 := hKe.trans (hb6.mono hKe.size)
          clear hKe hb6
          have hKe := hK0
          clear hK0
          go_wp2_with fail
          refine hK.out _ _ ?_ (fun hHeld => ?_)
          · exact HFR.out.below hKe hbx hzz hbb
          clear hK K
          (try simp only [Act.put, List.setIfInBounds_toArray, List.set_cons_zero, List.set_cons_succ])
          refine heldTake 10 (v := ?_) (by simp only [List.getElem?_toArray, List.getElem?_cons_succ, List.getElem?_cons_zero]; rfl) (by kernel_rfl) (by intro _ _ _ h; exact h) (by rfl) (by assumption) ?_ ?_
          rotate_left
          · intro W hSw; (try dsimp only at hSw); go_simp; try with_reducible rfl
          simp only [Act.put, List.setIfInBounds_toArray, List.set_cons_zero, List.set_cons_succ]
          refine heldTake 11 (v := ?_) (by simp only [List.getElem?_toArray, List.getElem?_cons_succ, List.getElem?_cons_zero]; rfl) (by kernel_rfl) (by intro _ _ _ h; exact h) (by rfl) (by assumption) ?_ ?_
          rotate_left
          · intro W hSw; (try dsimp only at hSw); go_simp; try with_reducible rfl
          simp only [Act.put, List.setIfInBounds_toArray, List.set_cons_zero, List.set_cons_succ]
          refine heldTake 12 (v := ?_) (by simp only [List.getElem?_toArray, List.getElem?_cons_succ, List.getElem?_cons_zero]; rfl) (by kernel_rfl) (by intro _ _ _ h; exact h) (by rfl) (by assumption) ?_ ?_
          rotate_left
          · intro W hSw; (try dsimp only at hSw); go_simp; try with_reducible rfl
          simp only [Act.put, List.setIfInBounds_toArray, List.set_cons_zero, List.set_cons_succ]
          refine heldTake 13 (v := ?_) (by simp only [List.getElem?_toArray, List.getElem?_cons_succ, List.getElem?_cons_zero]; rfl) (by kernel_rfl) (by intro _ _ _ h; exact h) (by rfl) (by assumption) ?_ ?_
          rotate_left
          · intro W hSw; (try dsimp only at hSw); go_simp; try with_reducible rfl
          simp only [Act.put, List.setIfInBounds_toArray, List.set_cons_zero, List.set_cons_succ]
          refine heldTake 14 (v := ?_) (by simp only [List.getElem?_toArray, List.getElem?_cons_succ, List.getElem?_cons_zero]; rfl) (by kernel_rfl) (by intro _ _ _ h; exact h) (by rfl) (by assumption) ?_ ?_
          rotate_left
          · intro W hSw; (try dsimp only at hSw); go_simp; try with_reducible rfl
          simp only [Act.put, List.setIfInBounds_toArray, List.set_cons_zero, List.set_cons_succ]
          refine heldTake 15 (v := ?_) (by simp only [List.getElem?_toArray, List.getElem?_cons_succ, List.getElem?_cons_zero]; rfl) (by kernel_rfl) (by intro _ _ _ h; exact h) (by rfl) (by assumption) ?_ ?_
          rotate_left
          · intro W hSw; (try dsimp only at hSw); go_simp; try with_reducible rfl
          simp only [Act.put, List.setIfInBounds_toArray, List.set_cons_zero, List.set_cons_succ]
          refine heldTake 16 (v := ?_) (by simp only [List.getElem?_toArray, List.getElem?_cons_succ, List.getElem?_cons_zero]; rfl) (by kernel_rfl) (by intro _ _ _ h; exact h) (by rfl) (by assumption) ?_ ?_
          rotate_left
          · intro W hSw; (try dsimp only at hSw); go_simp; try with_reducible rfl
          simp only [Act.put, List.setIfInBounds_toArray, List.set_cons_zero, List.set_cons_succ]
          refine heldTake 17 (v := ?_) (by simp only [List.getElem?_toArray, List.getElem?_cons_succ, List.getElem?_cons_zero]; rfl) (by kernel_rfl) (by intro _ _ _ h; exact h) (by rfl) (by assumption) ?_ ?_
          rotate_left
          · intro W hSw; (try dsimp only at hSw); go_simp; try with_reducible rfl
          simp only [Act.put, List.setIfInBounds_toArray, List.set_cons_zero, List.set_cons_succ]
          refine heldTake 18 (v := ?_) (by simp only [List.getElem?_toArray, List.getElem?_cons_succ, List.getElem?_cons_zero]; rfl) (by kernel_rfl) (by intro _ _ _ h; exact h) (by rfl) (by assumption) ?_ ?_
          rotate_left
          · intro W hSw; (try dsimp only at hSw); go_simp; try with_reducible rfl
          simp only [Act.put, List.setIfInBounds_toArray, List.set_cons_zero, List.set_cons_succ]
          refine heldTake 19 (v := ?_) (by simp only [List.getElem?_toArray, List.getElem?_cons_succ, List.getElem?_cons_zero]; rfl) (by kernel_rfl) (by intro _ _ _ h; exact h) (by rfl) (by assumption) ?_ ?_
          rotate_left
          · intro W hSw; (try dsimp only at hSw); go_simp; try with_reducible rfl
          simp only [Act.put, List.setIfInBounds_toArray, List.set_cons_zero, List.set_cons_succ]
          refine heldTake 20 (v := ?_) (by simp only [List.getElem?_toArray, List.getElem?_cons_succ, List.getElem?_cons_zero]; rfl) (by kernel_rfl) (by intro _ _ _ h; exact h) (by rfl) (by assumption) ?_ ?_
          rotate_left
          · intro W hSw; (try dsimp only at hSw); go_simp; try with_reducible rfl
          simp only [Act.put, List.setIfInBounds_toArray, List.set_cons_zero, List.set_cons_succ]
          refine heldTake 21 (v := ?_) (by simp only [List.getElem?_toArray, List.getElem?_cons_succ, List.getElem?_cons_zero]; rfl) (by kernel_rfl) (by intro _ _ _ h; exact h) (by rfl) (by assumption) ?_ ?_
          rotate_left
          · intro W hSw; (try dsimp only at hSw); go_simp; try with_reducible rfl
          simp only [Act.put, List.setIfInBounds_toArray, List.set_cons_zero, List.set_cons_succ]
          refine heldTake 22 (v := ?_) (by simp only [List.getElem?_toArray, List.getElem?_cons_succ, List.getElem?_cons_zero]; rfl) (by kernel_rfl) (by intro _ _ _ h; exact h) (by rfl) (by assumption) ?_ ?_
          rotate_left
          · intro W hSw; (try dsimp only at hSw); go_simp; try with_reducible rfl
          simp only [Act.put, List.setIfInBounds_toArray, List.set_cons_zero, List.set_cons_succ]
          refine heldTake 24 (v := ?_) (by simp only [List.getElem?_toArray, List.getElem?_cons_succ, List.getElem?_cons_zero]; rfl) (by kernel_rfl) (by intro _ _ _ h; exact h) (by rfl) (by assumption) ?_ ?_
          rotate_left
          · intro W hSw; (try dsimp only at hSw); go_simp; try with_reducible rfl
          simp only [Act.put, List.setIfInBounds_toArray, List.set_cons_zero, List.set_cons_succ]
          refine heldTake 25 (v := ?_) (by simp only [List.getElem?_toArray, List.getElem?_cons_succ, List.getElem?_cons_zero]; rfl) (by kernel_rfl) (by intro _ _ _ h; exact h) (by rfl) (by assumption) ?_ ?_
          rotate_left
          · intro W hSw; (try dsimp only at hSw); go_simp; try with_reducible rfl
          simp only [Act.put, List.setIfInBounds_toArray, List.set_cons_zero, List.set_cons_succ]
          refine heldCall 23 (by simp only [List.getElem?_toArray, List.getElem?_cons_succ, List.getElem?_cons_zero]; rfl) (by kernel_rfl) (fun K hK => ?_)
          go_simp
          refine (HQ.out _ (HB7.out.trans (hKe.mono HB7.out.size))).mono ?_
          rintro r w7 ⟨rfl, hb7⟩
          have hK0 : Below W1.heap.size W1 w7 := hKe.trans (hb7.mono hKe.size)
          clear hKe hb7
          have hKe := hK0
          clear hK0
          go_wp2_with fail
          refine hK.out _ _ ?_ (fun hHeld => ?_)
          · exact HFR.out.below hKe hbx hzz hbb
          clear hK K
          (try simp only [Act.put, List.setIfInBounds_toArray, List.set_cons_zero, List.set_cons_succ])
          refine heldTake 26 (v := ?_) (by simp only [List.getElem?_toArray, List.getElem?_cons_succ, List.getElem?_cons_zero]; rfl) (by kernel_rfl) (by intro _ _ _ h; exact h) (by rfl) (by assumption) ?_ ?_
          rotate_left
          · intro W hSw; (try dsimp only at hSw); go_simp; try with_reducible rfl
          simp only [Act.put, List.setIfInBounds_toArray, List.set_cons_zero, List.set_cons_succ]
          refine heldTake 27 (v := ?_) (by simp only [List.getElem?_toArray, List.getElem?_cons_succ, List.getElem?_cons_zero]; rfl) (by kernel_rfl) (by intro _ _ _ h; exact h) (by rfl) (by assumption) ?_ ?_
          rotate_left
          · intro W hSw; (try dsimp only at hSw); go_simp; try with_reducible rfl
          simp only [Act.put, List.setIfInBounds_toArray, List.set_cons_zero, List.set_cons_succ]
          refine heldDone (by kernel_rfl) ?_ _
          obtain ⟨r0, r1, r2, r3, r4, r5⟩ := HFR.out.below hKe hbx hzz hbb
          have HB8 : Hid (Below w5.heap.size w5 w7) := Lib.hid (HB7.out.trans (hKe.mono HB7.out.size))
          clear hKe hHeld HFR HB7
          go_wp2
          go_roundg (gk - 1)
          case measure => have := HK.out; omega
          case rel => exact ⟨k + 1, by go_num, Lib.hid (by have := HK.out; omega), by rw [HSN.out], HB8.out⟩
      · have hall : all.take k = all := List.take_of_length_le (by omega)
        rw [hall]
        have hmm := @run_makeMap Try.prog
        have hb6 : Below w5.heap.size w5 (wr.alloc (Obj.map #[] 0)) := hb.alloc hz _
        have hM6 : MapIs (wr.alloc (Obj.map #[] 0)) strKf boolVf strOk wr.heap.size [] := MapIs.made wr _ _ _
        have hz6 : wr.heap.size < (wr.alloc (Obj.map #[] 0)).heap.size := by simp
        have HSM : Hid (∀ M want, MetK (fun k => atV wd (l.filter rightB) s h k e) l M want → sumC all = want) := Lib.hid (fun M want hm => hm.fin HAC.out (fun k => (HBD.out k).1))
        have HB6 := Lib.hid hb6
        have HM6 := Lib.hid hM6
        generalize sumC all = tot at *
        clear hall HK hb6 hM6 hb
        go_wp2_with fail
        clear hk
        generalize hW6 : wr.alloc (Obj.map #[] 0) = W6 at *
        clear hW6
        have hmw : w5.heap.size ≤ wr.heap.size := hz
        generalize wr.heap.size = mb at *
        obtain ⟨V, hV⟩ : ∃ V : ByteArray → Int, V = fun k => atV wd (l.filter rightB) s h k e := ⟨_, rfl⟩
        have HBV : Hid (∀ k, 0 ≤ V k ∧ V k ≤ 1099511627776) := Lib.hid (by rw [hV]; exact HBD.out)
        have HWV : Hid (∀ key, key.size ≤ maxLen → ∀ W, Below w5.heap.size w5 W → Calls Try.prog 22 #[.pointer (some ⟨pb, 0, none⟩), .agg #[.int .i64 s, .int .i64 h], .string key, .int .i64 e] W fun r w' => r = .returned (.int .i64 (V key)) ∧ Below W.heap.size W w') := Lib.hid (by rw [hV]; exact HWAT.out)
        rw [← hV] at HSM
        clear hV HBD HWAT
        go_loopg [17, 85] l.length (fun rest q i wr => ∃ (k : Nat) (M : KeyM) (want : Int), i = .int .i64 k ∧ Hid (k + rest = l.length) ∧ q = .int .i64 want ∧ Hid (MetK V (l.take k) M want) ∧ Hid (MapIs wr strKf boolVf strOk mb M) ∧ Below w5.heap.size w5 wr ∧ mb < wr.heap.size)
        case atStart => exact ⟨0, [], 0, rfl, Lib.hid (by simp), rfl, Lib.hid (MetK.nil V), HM6, HB6.out, hz6⟩
        case round =>
          obtain ⟨k, M, want, rfl, HK, rfl, HME, HM, hb, hmb⟩ := hrel
          have hz := hb.size
          have t0 := (hb.cell (p := ⟨w.heap.size, 0, none⟩) hz5).trans s0
          have t1 := (hb.cell (p := ⟨w.heap.size, 1, none⟩) hz5).trans s1
          by_cases hk : (k : Int) < (l.length : Int)
          · have hkl : k < l.length := by omega
            obtain ⟨b, o, rfl, hbl, c1, c2, c3⟩ := (HL.out.below (HB5.out.trans (hb.mono HB5.out.size))).one hkl
            have hsz : l[k].key.size ≤ maxLen := by have := HSZ.out _ (List.getElem_mem hkl); unfold maxLen; omega
            have hkt : l.take (k + 1) = l.take k ++ [l[k]] := List.take_succ_eq_append_getElem hkl
            have hwb : 0 ≤ want ∧ want ≤ 65970697666560 := by
              have h1 := sum_bdC HBV.out M
              have h2 := HME.out.len
              have h3 := List.length_take_le k l
              rw [HME.out.sum]
              have := hno.out
              omega
            have hold := fun (hx : (mget M l[k].key).isSome = true) => HME.out.old (a := l[k]) hx
            have hnew := fun (hx : ¬ (mget M l[k].key).isSome = true) => HME.out.new (a := l[k]) hx
            rw [← hkt] at hold hnew
            generalize l[k] = x at *
            have c3' : wr.cell? ⟨b, o + k * 3 + 2, none⟩ = some (.int .i64 x.n) := c3
            have hMa := HM.out.alloc (Obj.cells #[Value.string x.key, Value.int .i64 x.at_, Value.int .i64 x.n] 41)
            have hlk := look_met hMa hsz
            have hbA : Below w5.heap.size w5 (wr.alloc (Obj.cells #[Value.string x.key, Value.int .i64 x.at_, Value.int .i64 x.n] 41)) := hb.alloc hz _
            by_cases hin : (mget M x.key).isSome
            · have hg : (mget M x.key).getD false = true := (HME.out.has _).2 hin
              rw [hg] at hlk
              have HOLD := Lib.hid (hold hin)
              have HMA := Lib.hid hMa
              have HBA := Lib.hid hbA
              clear hold hnew hMa hbA hg hin
              go_wp2
              go_roundg (gk - 1)
              case measure => have := HK.out; omega
              case rel => exact ⟨k + 1, M, want, by go_num, Lib.hid (by have := HK.out; omega), rfl, HOLD, HMA, HBA.out, by simp; omega⟩
            · have hg : (mget M x.key).getD false = false := by
                cases hgg : (mget M x.key).getD false with
                | false => rfl
                | true => exact absurd ((HME.out.has _).1 hgg) hin
              rw [hg] at hlk
              obtain ⟨W8, hrun, hM8, hK8, hz8⟩ := hMa.put strKey Try.underlying55 (x := x.key) hsz true
              have hrun' : (Instr.mapUpdate 55 (.map (some mb)) (.string x.key) (.bool true)).run Try.prog (wr.alloc (Obj.cells #[Value.string x.key, Value.int .i64 x.at_, Value.int .i64 x.n] 41)) = .ok () W8 := hrun
              have HNEW := Lib.hid (hnew hin)
              have hvb := HBV.out x.key
              have hb8 : Below w5.heap.size w5 W8 := hbA.trans (hK8.toBelow hbA.size (fun k e => by rw [e]; exact hmw))
              have HM8 := Lib.hid hM8
              have HB8 := Lib.hid hb8
              have u0 : W8.cell? ⟨w.heap.size, 0, none⟩ = some (.int .i64 s) := (hb8.cell (p := ⟨w.heap.size, 0, none⟩) hz5).trans s0
              have u1 : W8.cell? ⟨w.heap.size, 1, none⟩ = some (.int .i64 h) := (hb8.cell (p := ⟨w.heap.size, 1, none⟩) hz5).trans s1
              have u2 : W8.cell? ⟨wr.heap.size, 0, none⟩ = some (.string x.key) := (hK8.cell (p := ⟨wr.heap.size, 0, none⟩) (by simp) (by show ¬ wr.heap.size = mb; omega)).trans (by simp)
              have hsz8 : wr.heap.size < W8.heap.size := by rw [hz8]; simp
              have q := HWV.out x.key hsz W8 hb8
              have Q := Lib.hid q
              generalize V x.key = v at *
              clear hold hnew hMa hbA hg hin hrun hM8 hK8 hb8 hz8 q
              go_wp2_with fail
              refine Q.out.mono ?_
              rintro r w9 ⟨rfl, hb9⟩
              have HM9 := Lib.hid (HM8.out.below hb9 HM8.out.lt)
              have HB9 : Hid (Below w5.heap.size w5 w9) := Lib.hid (HB8.out.trans (hb9.mono HB8.out.size))
              have hmb9 : mb < w9.heap.size := by have := hb9.size; omega
              clear hb9 Q
              go_wp2
              go_roundg (gk - 1)
              case measure => have := HK.out; omega
              case rel => exact ⟨k + 1, mput M x.key true, want + v, by go_num, Lib.hid (by have := HK.out; omega), rfl, HNEW, HM9, HB9.out, hmb9⟩
          · have hall2 : l.take k = l := List.take_of_length_le (by omega)
            have hme := HME.out
            rw [hall2] at hme
            have hT := HSM.out M want hme
            subst hT
            have hee : (tot == tot) = true := by simp
            clear hme hall2 HME
            go_wp2_with fail
            refine (awake_any _).mono ?_
            rintro r w8 ⟨rfl, hb8⟩
            go_wp2
            go_ret
            exact ⟨rfl, (HB5.out.trans (hb.mono HB5.out.size)).trans (hb8.mono (by have := HB5.out.size; omega))⟩
end Go.Proofs.Ytcaglkefhbbnbaa
