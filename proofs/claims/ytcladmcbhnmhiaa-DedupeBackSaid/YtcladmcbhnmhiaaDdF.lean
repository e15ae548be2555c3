/- Contract of Count. -/
import Derived.Test.YtcladmcbhnmhiaaDdE
namespace Go.Proofs.Ytcladmcbhnmhiaa
open Go.ChangeShapes Go.WideShapes Go.ChangeAt Go.RowKit Go.Shelf Go.Lib Go.Sort Go.Proofs
set_option linter.unusedVariables false
set_option linter.unusedSimpArgs false

theorem cntR_append (A B : List Rg) : cntR (A ++ B) = cntR A + cntR B := by unfold cntR; rw [List.map_append, List.sum_append]
theorem cntR_one (r : Rg) : cntR [r] = r.2 - r.1 := by unfold cntR; simp
theorem RowOk.cnt_nn {e : Int} {R : List Rg} (h : RowOk e R) : 0 ≤ cntR R := by
  induction R generalizing e with
  | nil => exact Int.le_refl _
  | cons r R ih =>
    have e1 : cntR (r :: R) = (r.2 - r.1) + cntR R := by unfold cntR; simp
    have := ih h.2.2
    have := h.2.1
    omega
/-- As many numbers as lie between. -/
theorem RowOk.cnt_le {e M : Int} {R : List Rg} (h : RowOk e R) (hb : ∀ r ∈ R, r.2 ≤ M) (he : e ≤ M) : cntR R ≤ M - e := by
  induction R generalizing e with
  | nil => show (0 : Int) ≤ _; omega
  | cons r R ih =>
    have e1 : cntR (r :: R) = (r.2 - r.1) + cntR R := by unfold cntR; simp
    have h1 := hb r List.mem_cons_self
    have := ih h.2.2 (fun s hs => hb s (List.mem_cons_of_mem _ hs)) h1
    have := h.1
    omega
def sumK (F : RowsF) (ks : List ByteArray) : Int := (ks.map (fun k => cntR (F k))).sum
theorem sumK_perm {F : RowsF} {ks ks' : List ByteArray} (h : ks.Perm ks') : sumK F ks = sumK F ks' := by
  unfold sumK
  induction h with
  | nil => rfl
  | cons x _ ih => simp only [List.map_cons, List.sum_cons, ih]
  | swap x y l => simp only [List.map_cons, List.sum_cons]; omega
  | trans _ _ h1 h2 => exact h1.trans h2
theorem sumK_cons (F : RowsF) (k : ByteArray) (ks : List ByteArray) : sumK F (k :: ks) = cntR (F k) + sumK F ks := by unfold sumK; simp
theorem sumK_bd {F : RowsF} (hok : ∀ k, RowOk 0 (F k)) (hb : ∀ k, ∀ r ∈ F k, r.2 ≤ 1099511627777) : ∀ ks, 0 ≤ sumK F ks ∧ sumK F ks ≤ 1099511627777 * (ks.length : Int)
  | [] => ⟨Int.le_refl _, by simp [sumK]⟩
  | k :: ks => by
    have ih := sumK_bd hok hb ks
    have h1 := (hok k).cnt_nn
    have h2 := (hok k).cnt_le (hb k) (by omega)
    rw [sumK_cons, List.length_cons]
    refine ⟨by omega, ?_⟩
    have : (1099511627777 : Int) * ((ks.length + 1 : Nat) : Int) = 1099511627777 * (ks.length : Int) + 1099511627777 := by push_cast; rw [Int.mul_add]; omega
    omega

set_option maxHeartbeats 8000000 in
set_option maxRecDepth 100000 in
theorem count_any (sb : Nat) (G : Nat → Prop) (F : RowsF) (w : World) (h : SetObj w sb G F) (ks : List ByteArray) (hks : KeysF F ks) (hN : (ks.length : Int) ≤ 100000) (hb : ∀ k, ∀ r ∈ F k, r.2 ≤ 1099511627777) (hl : ∀ k, (F k).length < 900000) :
    Calls Try.prog 23 #[.pointer (some ⟨sb, 0, none⟩)] w fun e w' => e = .returned (.int .i64 (sumK F ks)) ∧ Below w.heap.size w w' := by
  obtain ⟨mb, D, hD, -⟩ := h
  have c1 := hD.cells
  have hm := hD.mp
  have hperm : (D.map (·.1)).Perm ks := by
    refine (List.perm_ext_iff_of_nodup hm.nodup (hks.1.imp (fun {x y} h e => by subst e; rw [sLt_irrefl] at h; cases h))).2 (fun k => ?_)
    rw [hks.2 k, List.mem_map]
    constructor
    · rintro ⟨p, hp, rfl⟩
      exact (hD.rows p hp).2
    · intro hk
      cases hm : mget D k with
      | none => exact absurd (hD.no k hm) hk
      | some s => exact ⟨(k, s), mget_some_mem hm, rfl⟩
  have hDl : (D.length : Int) ≤ 100000 := by have := hperm.length_eq; simp at this; omega
  have hsum : sumK F ks = sumK F (D.map (·.1)) := (sumK_perm hperm).symm
  rw [hsum]
  obtain ⟨T, hT⟩ : ∃ T, T = sumK F (D.map (·.1)) := ⟨_, rfl⟩
  rw [← hT]
  have hbd := fun (l : SlotL) => sumK_bd hD.ok hb (l.map (·.1))
  have HBD := Lib.hid hbd
  have HT := Lib.hid hT
  have HD := Lib.hid hD
  have HLN := Lib.hid hl
  have HB := Lib.hid hb
  clear hbd hT hperm hsum hks hl
  go_enter Try.func23, Try.ntmps23
  go_wp2_with (at_range; refine wpList_range_is rfl _ _ rfl Try.underlying64 rfl hm ?_; intro w0 hrg0 hb0 hs0)
  clear hm
  go_frame
  go_loopg [3] D.length (fun rest s3 wr => ∃ (left : SlotL) (x : Int), s3 = .int .i64 x ∧ RangeAt wr strKf slotVf w.heap.size (some mb) left ∧ Hid (∀ q ∈ left, q ∈ D) ∧ Hid (x + sumK F (left.map (·.1)) = T) ∧ Hid (rest = left.length) ∧ 0 ≤ x ∧ Hid (Keeps (fun k => k = w.heap.size) w0 wr))
  case atStart => exact ⟨D, 0, rfl, hrg0, Lib.hid (fun _ h => h), Lib.hid (by rw [HT.out]; omega), Lib.hid rfl, Int.le_refl _, Lib.hid (Keeps.refl _ _)⟩
  case round =>
    obtain ⟨left, x, rfl, hrg, HS, HX, HL, hx0, HK⟩ := hrel
    go_wp2_with (at_next; refine wpList_next_is rfl _ rfl rfl hrg ?_ ?_)
    · intro h0
      subst h0
      have hxT : x = T := by have := HX.out; simp [sumK] at this; exact this
      subst hxT
      (try go_frame)
      go_wp2
      go_ret
      refine ⟨rfl, ?_⟩
      exact hb0.trans (HK.out.toBelow hb0.size (fun q hq => by rw [hq]; exact Nat.le_refl _))
    · intro key g n c w2 hmem hrg2 hk2 hz2 hen
      have hDm := HS.out _ hmem
      have hml : (mdel left key).length + 1 = left.length := mdel_len hrg.nodup (p := (key, (g, n, c))) hmem
      have HS2 : Hid (∀ q ∈ mdel left key, q ∈ D) := Lib.hid (fun q hq => HS.out _ ((List.mem_filter.1 hq).1))
      have hpm : sumK F (left.map (·.1)) = cntR (F key) + sumK F ((mdel left key).map (·.1)) := by
        rw [sumK_perm ((mdel_perm hrg.nodup hmem).map (·.1)), List.map_cons, sumK_cons]
      have hB0 : Below w.heap.size w wr := hb0.trans (HK.out.toBelow hb0.size (fun q hq => by rw [hq]; exact Nat.le_refl _))
      have hB2 : Below w.heap.size w w2 := hB0.trans (hk2.toBelow hB0.size (fun q hq => by rw [hq]; exact Nat.le_refl _))
      have hD2 : SetAt w2 sb mb D F := HD.out.keep (Keeps.ofBelow hB2 (fun _ => False)) (fun _ _ e => e)
      obtain ⟨⟨hn, hown⟩, hne⟩ := hD2.rows _ hDm
      simp only at hn hown hne
      subst hn
      have hrd := own_reads hown
      have hbdl := HBD.out (mdel left key)
      have hbl := HBD.out left
      have hk0 := (HD.out.ok key).cnt_nn
      have hk1 := (HD.out.ok key).cnt_le (HB.out key) (by omega)
      have hlk := HLN.out key
      have hpart : ∀ j, 0 ≤ cntR ((F key).take j) ∧ cntR ((F key).take j) ≤ 1099511627777 := fun j => by
        have h1 : RowOk 0 ((F key).take j ++ (F key).drop j) := by rw [List.take_append_drop]; exact HD.out.ok key
        have h2 := (RowOk.append.1 h1).1
        have := h2.cnt_le (M := 1099511627777) (fun r hr => HB.out key r (List.mem_of_mem_take hr)) (by omega)
        exact ⟨h2.cnt_nn, by omega⟩
      have HPT := Lib.hid hpart
      have HML := Lib.hid hml
      have HPM := Lib.hid hpm
      have hxb : x ≤ 1099511627777 * 100000 := by
        have h1 := HX.out
        have h2 := (HBD.out D).2
        rw [← HT.out, List.length_map] at h2
        have h3 := hbl.1
        have : (1099511627777 : Int) * (D.length : Int) ≤ 1099511627777 * 100000 := Int.mul_le_mul_of_nonneg_left hDl (by omega)
        omega
      have hgr : g ≠ w.heap.size := by
        have h1 := (HD.out.rows _ hDm).1.lt
        simp only at h1
        omega
      have HGR := Lib.hid hgr
      simp only [strKf, slotVf] at hen
      have HRG2 := Lib.hid hrg2
      have HK2 := Lib.hid (HK.out.trans hk2 (fun k _ e => e))
      have HRDS := Lib.hid hrd
      have hok := HD.out.ok key
      have HOK := Lib.hid hok
      clear hz2 hpart hml hpm hbdl hbl hk0 hk1 hB0 hB2 hD2 hown hne hDm hmem hk2 hrg2 hrg HK HS hrd hgr hok
      generalize F key = R at *
      (try go_frame)
      go_wp2_with fail
      generalize gk = g1 at *
      (try go_frame)
      go_loopg [3, 19] R.length (fun rest s3 s19 wx => ∃ (j : Nat), s19 = .int .i64 j ∧ s3 = .int .i64 (x + cntR (R.take j)) ∧ Hid (j + rest = R.length) ∧ (j : Int) ≤ 900000 ∧ Hid (Below w2.heap.size w2 wx))
      case atStart => exact ⟨0, rfl, by rw [List.take_zero]; show _ = Value.int .i64 (x + 0); rw [Int.add_zero], Lib.hid (by simp), by omega, Lib.hid (Below.refl _ _)⟩
      case round =>
        obtain ⟨j, rfl, rfl, HJ, hj0, HBX⟩ := hrel
        by_cases hj : (j : Int) < (R.length : Int)
        · have hjl : j < R.length := by omega
          obtain ⟨b, o, e1, hbl, hcc⟩ := HRDS.out.2 (by omega)
          injection e1 with e1
          injection e1 with e1 e2
          subst e1 e2
          obtain ⟨x1, x2⟩ := rgsCells_at hjl
          have y1 := (HBX.out.cell (p := ⟨g, 0 + j * 2, none⟩) hbl).trans (hcc _ _ x1)
          have y2 := (HBX.out.cell (p := ⟨g, 0 + (j * 2 + 1), none⟩) hbl).trans (hcc _ _ x2)
          rw [Nat.zero_add] at y1 y2
          have hct : cntR (R.take (j + 1)) = cntR (R.take j) + (R[j].2 - R[j].1) := by rw [List.take_succ_eq_append_getElem hjl, cntR_append, cntR_one]
          have p1 := HPT.out j
          have p2 := HPT.out (j + 1)
          have hin := HOK.out.gt R[j] (List.getElem_mem hjl)
          have HCT := Lib.hid hct
          clear hcc x1 x2
          rw [hct] at p2
          clear hct
          generalize R[j].1 = f at *
          generalize R[j].2 = t at *
          generalize cntR (R.take j) = y at *
          have hw1 : wrap64 (t - f) = t - f := by unfold wrap64; omega
          have hw2 : wrap64 (x + y + (t - f)) = x + y + (t - f) := by unfold wrap64; omega
          go_wp2_with fail
          go_roundg (gk - 1)
          case measure => have := HJ.out; omega
          case rel => exact ⟨j + 1, by go_num, by rw [HCT.out, Int.add_assoc], Lib.hid (by have := HJ.out; omega), by have := HJ.out; omega, Lib.hid (HBX.out.alloc HBX.out.size _)⟩
        · have hje : j = R.length := by have := HJ.out; omega
          have p1 := HPT.out j
          have e2 : cntR (R.take j) = cntR R := by rw [hje, List.take_length]
          rw [e2]
          clear e2
          go_wp2_with fail
          go_roundg (g1 - 1)
          case measure => have := HL.out; have := HML.out; omega
          case rel =>
            have hbx := HBX.out
            have hk0 := HPT.out R.length
            rw [List.take_length] at hk0
            refine ⟨mdel left key, x + cntR R, rfl, HRG2.out.keep (Keeps.ofBelow hbx (fun _ => False)) (fun e => e) (fun _ _ e => e), HS2, Lib.hid (by have := HX.out; have := HPM.out; omega), Lib.hid (by have := HL.out; have := HML.out; omega), by omega, Lib.hid (HK2.out.trans (Keeps.ofBelow hbx (fun k => k = w.heap.size)) (fun k _ e => e))⟩
end Go.Proofs.Ytcladmcbhnmhiaa
