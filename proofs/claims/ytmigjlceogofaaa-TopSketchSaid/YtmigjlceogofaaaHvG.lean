/- Contract of heavy.Merge. -/
import Derived.Test.YtmigjlceogofaaaHvE
import Derived.Test.YtmigjlceogofaaaKitH
namespace Go.Proofs.Ytmigjlceogofaaa
open Go.ChangeShapes Go.WideShapes Go.ChangeAt Go.RowKit Go.Shelf Go.Lib Go.Sort Go.Proofs
set_option linter.unusedVariables false
set_option linter.unusedSimpArgs false

theorem nthV_permH {S T : CntrL} (h : S.Perm T) (r : Nat) : nthV S r = nthV T r := by
  have : NthV S r = NthV T r := funext fun c => propext (nth_perm h r c)
  unfold nthV
  rw [this]
theorem cutC_permH {S T : CntrL} (h : S.Perm T) (room : Int) : cutC room S = cutC room T := by
  unfold cutC
  rw [h.length_eq, nthV_permH h]
theorem cutS_permH {S T : CntrL} (h : S.Perm T) (room : Int) : (cutS room S).Perm (cutS room T) := by
  unfold cutS
  rw [h.length_eq, nthV_permH h]
  split
  · exact takeL_perm h _
  · exact h
theorem cell_other {W : World} {b j b' i : Nat} {v u : Value} (h : W.cell? ⟨b', i, none⟩ = some u) (hn : i ≠ j) : (W.setCell ⟨b, j, none⟩ v).cell? ⟨b', i, none⟩ = some u :=
  (World.cell?_setCell_other W ⟨b, j, none⟩ ⟨b', i, none⟩ _ (by intro e; injection e with _ e _; exact hn e.symm)).trans h

/-- What a merge leaves. -/
def MergeH (w : World) (hb cb : Nat) (s o : HvS) (e : Ending) (w' : World) : Prop :=
  e = .returned (.bool true) ∧ ∃ cb' S', HeavyAt w' hb cb' (mergeH s o).room (mergeH s o).added (mergeH s o).total (mergeH s o).slack S' ∧ List.Perm S' (mergeH s o).S ∧ cb' ≠ hb ∧ (cb' = cb ∨ w.heap.size ≤ cb') ∧ Keeps (fun k => k = hb ∨ k = cb) w w'

set_option maxHeartbeats 1000000 in
theorem hmerge_nil {w : World} {hb : Nat} : Calls Try.prog 26 #[.pointer (some ⟨hb, 0, none⟩), .pointer none] w fun e w' => e = .returned (.bool false) ∧ Below w.heap.size w w' := by
  go_enter Try.func26, Try.ntmps26
  go_wp2_with fail
  go_quiet (fail)
  go_wp2
  go_ret
  exact ⟨rfl, below_drewN (Below.refl _ _) _⟩
set_option maxHeartbeats 1000000 in
theorem hmerge_room {w : World} {hb cb ob co : Nat} {r1 a1 t1 s1 r2 a2 t2 s2 : Int} {S So : CntrL} (h : HeavyAt w hb cb r1 a1 t1 s1 S) (k : HeavyAt w ob co r2 a2 t2 s2 So) (hne : r2 ≠ r1) :
    Calls Try.prog 26 #[.pointer (some ⟨hb, 0, none⟩), .pointer (some ⟨ob, 0, none⟩)] w fun e w' => e = .returned (.bool false) ∧ Below w.heap.size w w' := by
  obtain ⟨c0, c1, c2, c3, c4⟩ := h.cells
  obtain ⟨d0, d1, d2, d3, d4⟩ := k.cells
  have hne1 : (r2 != r1) = true := by simpa using hne
  clear hne h k
  go_enter Try.func26, Try.ntmps26
  go_wp2_with fail
  go_quiet (fail)
  go_wp2
  go_ret
  exact ⟨rfl, below_drewN (Below.refl _ _) _⟩

set_option maxRecDepth 20000 in
set_option maxHeartbeats 8000000 in
theorem hmerge_core {hb cb ob co : Nat} {s o : HvS} {S So : CntrL} {w : World} (hA : HeavyAt w hb cb s.room s.added s.total s.slack S) (hp : S.Perm s.S) (hi : HvInv s) (hO : HeavyAt w ob co o.room o.added o.total o.slack So) (hpo : So.Perm o.S) (hio : HvInv o) (hne : cb ≠ hb) (h1 : co ≠ hb) (hr : o.room = s.room) (ha : s.added + o.added ≤ 1048576) :
    Calls Try.prog 26 #[.pointer (some ⟨hb, 0, none⟩), .pointer (some ⟨ob, 0, none⟩)] w (MergeH w hb cb s o) := by
  have hbl : hb < w.heap.size := (Array.getElem?_eq_some_iff.1 hA.blk).1
  have hcbl := hA.cnt.lt
  have hcol := hO.cnt.lt
  have hsl := hi.sl
  have hso := hio.sl
  have hSn : (S.map (·.1)).Nodup := hA.cnt.nodup
  have hSp : PosS S := fun p hp' => hi.pos p (hp.subset hp')
  have hOn : (So.map (·.1)).Nodup := hO.cnt.nodup
  have hOp : PosS So := fun p hp' => hio.pos p (hpo.subset hp')
  have hs1 : sumS S ≤ 1099511627776 := by rw [sumS_perm hp]; omega
  have hs2 : sumS So ≤ 1099511627776 := by rw [sumS_perm hpo]; omega
  have hms := mergeH_sum hi hio hr
  have hl1 : (S.length : Int) ≤ 4096 := by have := hp.length_eq; have := hi.len; have := hi.r2; omega
  have hl2 : (So.length : Int) ≤ 4096 := by have := hpo.length_eq; have := hio.len; have := hio.r2; omega
  have hki : HvInv (mergeH s o) := mergeH_inv hi hio hr ha
  have hmt : s.total + o.total ≤ 1099511627776 := by have := hi.t1; have := hio.t1; have : (s.added + o.added) * 1048576 ≤ 1048576 * 1048576 := Int.mul_le_mul_of_nonneg_right ha (by omega); omega
  have hss0 := hi.s0
  have hos0 := hio.s0
  have hr1 := hi.r1
  have hr2 := hi.r2
  have hpall : (plusAll S So).Perm (plusAll s.S o.S) := plusAll_perm hp hpo hSn hOn hSp hOp
  have hsall : sumS (plusAll S So) + (s.room + 1) * (s.slack + o.slack) ≤ s.total + o.total := by rw [sumS_perm hpall]; exact hms
  have hsl2 : s.slack + o.slack ≤ 1099511627776 ∧ sumS (plusAll S So) ≤ 1099511627776 := by
    have q1 := sumS_nonneg (plusAll_pos hSp hOp)
    have q2 : (0 + 1) * (s.slack + o.slack) ≤ (s.room + 1) * (s.slack + o.slack) := Int.mul_le_mul_of_nonneg_right (by omega) (by omega)
    have q3 : (0 : Int) ≤ (s.room + 1) * (s.slack + o.slack) := Int.mul_nonneg (by omega) (by omega)
    constructor <;> omega
  rw [hr] at hO
  have hw1 : IntKind.i64.wrap (s.added + o.added) = s.added + o.added := IntWalk.i64_in _ (by have := hi.a0; have := hio.a0; omega)
  have hw2 : IntKind.i64.wrap (s.total + o.total) = s.total + o.total := IntWalk.i64_in _ (by have := hi.t0; have := hio.t0; omega)
  have hw3 : IntKind.i64.wrap (s.slack + o.slack) = s.slack + o.slack := IntWalk.i64_in _ (by omega)
  have hne1 : (s.room != s.room) = false := by simp
  have hgt : decide (1048576 < s.added + o.added) = false := by simp; omega
  obtain ⟨⟨c0, c1, c2, c3, c4⟩, f1, f3, f4⟩ := heavy_cells hA.blk
  obtain ⟨⟨d0, d1, d2, d3, d4⟩, -, -, -⟩ := heavy_cells hO.blk
  have HBL := Lib.hid hA.blk
  have HCN := Lib.hid hA.cnt
  have HOC := Lib.hid hO.cnt
  have HPA := Lib.hid hpall
  have HKI := Lib.hid hki
  have HR := Lib.hid hr
  have HPO := Lib.hid hpo
  have HPP := Lib.hid hp
  clear hA hO hp hpo hi hio hms hpall hki hr ha
  go_enter Try.func26, Try.ntmps26
  go_wp2_with fail
  go_quiet (fail)
  go_wp2_with fail
  have hk0 : Keeps (fun k => k = hb ∨ k = cb) w (w.drewN nq) := (Keeps.refl _ _).drewN nq
  have hbx : (w.drewN nq).heap[hb]? = some (.cells #[.int .i64 s.room, .int .i64 s.added, .map (some cb), .int .i64 s.total, .int .i64 s.slack] 126 (0, 0)) := HBL.out
  have hcn := HCN.out.drewN nq
  have hoc := HOC.out.drewN nq
  replace d1 : (w.drewN nq).cell? ⟨ob, 1, none⟩ = some (.int .i64 o.added) := d1
  replace d2 : (w.drewN nq).cell? ⟨ob, 2, none⟩ = some (.map (some co)) := d2
  replace d3 : (w.drewN nq).cell? ⟨ob, 3, none⟩ = some (.int .i64 o.total) := d3
  replace d4 : (w.drewN nq).cell? ⟨ob, 4, none⟩ = some (.int .i64 o.slack) := d4
  clear c0 c1 c2 c3 c4 f1 f3 f4 d0 HBL HCN HOC
  generalize w.drewN nq = W0 at *
  obtain ⟨⟨c0, c1, c2, c3, c4⟩, f1, f3, f4⟩ := heavy_cells hbx
  go_region
  have hbx1 : (W0.setCell ⟨hb, 1, none⟩ (.int .i64 (s.added + o.added))).drew.heap[hb]? = some (.cells #[.int .i64 s.room, .int .i64 (s.added + o.added), .map (some cb), .int .i64 s.total, .int .i64 s.slack] 126 (0, 0)) := (heavy_set hbx).1 _
  have hkk : Keeps (fun k => k = hb) W0 (W0.setCell ⟨hb, 1, none⟩ (.int .i64 (s.added + o.added))).drew := Keeps.drew (Keeps.setCell (F := fun k => k = hb) (p := ⟨hb, 1, none⟩) (Keeps.refl _ _) (.inr rfl) _)
  have hcn1 := hcn.keep hkk hne
  have hoc1 := hoc.keep hkk h1
  have hkw1 : Keeps (fun k => k = hb ∨ k = cb) w (W0.setCell ⟨hb, 1, none⟩ (.int .i64 (s.added + o.added))).drew := hk0.trans hkk (fun _ _ e => .inl e)
  have dd2 : (W0.setCell ⟨hb, 1, none⟩ (.int .i64 (s.added + o.added))).drew.cell? ⟨ob, 2, none⟩ = some (.map (some co)) := cell_other d2 (by decide)
  have dd3 : (W0.setCell ⟨hb, 1, none⟩ (.int .i64 (s.added + o.added))).drew.cell? ⟨ob, 3, none⟩ = some (.int .i64 o.total) := cell_other d3 (by decide)
  have dd4 : (W0.setCell ⟨hb, 1, none⟩ (.int .i64 (s.added + o.added))).drew.cell? ⟨ob, 4, none⟩ = some (.int .i64 o.slack) := cell_other d4 (by decide)
  clear hkk hbx hcn hoc hk0 c0 c1 c2 c3 c4 f1 f3 f4 d1 d2 d3 d4
  have hbx := hbx1
  have hcn := hcn1
  have hoc := hoc1
  have hk0 := hkw1
  have d2 := dd2
  have d3 := dd3
  have d4 := dd4
  clear hbx1 hcn1 hoc1 hkw1 dd2 dd3 dd4
  generalize (W0.setCell ⟨hb, 1, none⟩ (.int .i64 (s.added + o.added))).drew = W1 at *
  obtain ⟨⟨c0, c1, c2, c3, c4⟩, f1, f3, f4⟩ := heavy_cells hbx
  go_wp2_with fail
  go_region
  have hbx2 : (W1.setCell ⟨hb, 3, none⟩ (.int .i64 (s.total + o.total))).drew.heap[hb]? = some (.cells #[.int .i64 s.room, .int .i64 (s.added + o.added), .map (some cb), .int .i64 (s.total + o.total), .int .i64 s.slack] 126 (0, 0)) := (heavy_set hbx).2.1 _
  have hkk : Keeps (fun k => k = hb) W1 (W1.setCell ⟨hb, 3, none⟩ (.int .i64 (s.total + o.total))).drew := Keeps.drew (Keeps.setCell (F := fun k => k = hb) (p := ⟨hb, 3, none⟩) (Keeps.refl _ _) (.inr rfl) _)
  have hcn2 := hcn.keep hkk hne
  have hoc2 := hoc.keep hkk h1
  have hkw2 : Keeps (fun k => k = hb ∨ k = cb) w (W1.setCell ⟨hb, 3, none⟩ (.int .i64 (s.total + o.total))).drew := hk0.trans hkk (fun _ _ e => .inl e)
  have dd2 : (W1.setCell ⟨hb, 3, none⟩ (.int .i64 (s.total + o.total))).drew.cell? ⟨ob, 2, none⟩ = some (.map (some co)) := cell_other d2 (by decide)
  have dd4 : (W1.setCell ⟨hb, 3, none⟩ (.int .i64 (s.total + o.total))).drew.cell? ⟨ob, 4, none⟩ = some (.int .i64 o.slack) := cell_other d4 (by decide)
  clear hkk hbx hcn hoc hk0 c0 c1 c2 c3 c4 f1 f3 f4 d2 d3 d4
  have hbx := hbx2
  have hcn := hcn2
  have hoc := hoc2
  have hk0 := hkw2
  have d2 := dd2
  have d4 := dd4
  clear hbx2 hcn2 hoc2 hkw2 dd2 dd4
  generalize (W1.setCell ⟨hb, 3, none⟩ (.int .i64 (s.total + o.total))).drew = W2 at *
  obtain ⟨⟨c0, c1, c2, c3, c4⟩, f1, f3, f4⟩ := heavy_cells hbx
  go_wp2_with fail
  go_region
  have hbx3 : (W2.setCell ⟨hb, 4, none⟩ (.int .i64 (s.slack + o.slack))).drew.heap[hb]? = some (.cells #[.int .i64 s.room, .int .i64 (s.added + o.added), .map (some cb), .int .i64 (s.total + o.total), .int .i64 (s.slack + o.slack)] 126 (0, 0)) := (heavy_set hbx).2.2 _
  have hkk : Keeps (fun k => k = hb) W2 (W2.setCell ⟨hb, 4, none⟩ (.int .i64 (s.slack + o.slack))).drew := Keeps.drew (Keeps.setCell (F := fun k => k = hb) (p := ⟨hb, 4, none⟩) (Keeps.refl _ _) (.inr rfl) _)
  have hcn3 := hcn.keep hkk hne
  have hoc3 := hoc.keep hkk h1
  have hkw3 : Keeps (fun k => k = hb ∨ k = cb) w (W2.setCell ⟨hb, 4, none⟩ (.int .i64 (s.slack + o.slack))).drew := hk0.trans hkk (fun _ _ e => .inl e)
  have dd2 : (W2.setCell ⟨hb, 4, none⟩ (.int .i64 (s.slack + o.slack))).drew.cell? ⟨ob, 2, none⟩ = some (.map (some co)) := cell_other d2 (by decide)
  clear hkk hbx hcn hoc hk0 c0 c1 c2 c3 c4 f1 f3 f4 d2 d4
  have hbx := hbx3
  have hcn := hcn3
  have hoc := hoc3
  have hk0 := hkw3
  have d2 := dd2
  clear hbx3 hcn3 hoc3 hkw3 dd2
  generalize (W2.setCell ⟨hb, 4, none⟩ (.int .i64 (s.slack + o.slack))).drew = W3 at *
  obtain ⟨⟨c0, c1, c2, c3, c4⟩, f1, f3, f4⟩ := heavy_cells hbx
  go_wp2_with fail
  have hz3 := hk0.size
  refine (mapsClone_any (P := Try.prog) Try.cloH hoc).mono ?_
  rintro e w4 ⟨rfl, hm4, hb4, hz4⟩
  go_wp2_with (at_range; refine wpList_range_is rfl _ _ rfl Try.underlying57 rfl hm4 ?_; intro w5 hrg5 hb5 hz5)
  have hcb3 : cb < W3.heap.size := by omega
  have hhb3 : hb < W3.heap.size := by omega
  have hB35 : Below W3.heap.size W3 w5 := hb4.trans (hb5.mono (by omega))
  have hbx5 : w5.heap[hb]? = some (.cells #[.int .i64 s.room, .int .i64 (s.added + o.added), .map (some cb), .int .i64 (s.total + o.total), .int .i64 (s.slack + o.slack)] 126 (0, 0)) := (hB35.block hb hhb3).trans hbx
  have hcn5 := hcn.below hB35 hcb3
  have hk5 : Keeps (fun k => k = hb ∨ k = cb) w w5 := hk0.trans (Keeps.ofBelow hB35 (fun k => k = hb ∨ k = cb)) (fun _ _ e => e)
  obtain ⟨r1, hre⟩ : ∃ r1, r1 = w4.heap.size := ⟨_, rfl⟩
  obtain ⟨cm, hcme⟩ : ∃ cm, cm = W3.heap.size := ⟨_, rfl⟩
  have hrc : cb < cm ∧ hb < cm ∧ cm < r1 ∧ w.heap.size ≤ cm := by omega
  have HKO := Lib.hid hoc.ok
  rw [← hre, ← hcme] at hrg5
  rw [← hre]
  have HRG5 := Lib.hid hrg5
  have HBX5 := Lib.hid hbx5
  have HCN5 := Lib.hid hcn5
  have HK5 := Lib.hid hk5
  clear hre hcme hrg5 hbx5 hcn5 hk5 hB35 hm4 hb4 hz4 hb5 hz5 hbx hcn hoc hk0 d2 c0 c1 c2 c3 c4 f1 f3 f4 hhb3 hcb3 hz3
  go_frame
  go_loopg [] So.length (fun rest wr => ∃ (left S1 : CntrL), Hid (rest = List.length left) ∧ Hid (RangeAt wr strKf intVf r1 (some cm) left) ∧ Hid (∃ dn, S1 = plusAll S dn ∧ List.Perm (dn ++ left) So) ∧ Hid (MapIs wr strKf intVf strOk cb S1) ∧ Hid (wr.heap[hb]? = some (.cells #[.int .i64 s.room, .int .i64 (s.added + o.added), .map (some cb), .int .i64 (s.total + o.total), .int .i64 (s.slack + o.slack)] 126 (0, 0))) ∧ Hid (Keeps (fun k => k = hb ∨ k = cb) w wr))
  case atStart => exact ⟨So, S, Lib.hid rfl, HRG5, Lib.hid ⟨[], rfl, by simp⟩, HCN5, HBX5, HK5⟩
  case round =>
    clear HRG5 HBX5 HCN5 HK5
    obtain ⟨left, S1, HL, HRG, HD, HM, HB, HKw⟩ := hrel
    go_wp2_with (at_next; refine wpList_next_is rfl _ rfl rfl HRG.out ?_ ?_)
    · intro h0
      subst h0
      have hfin : ∃ dn, S1 = plusAll S dn ∧ List.Perm dn So := by
        obtain ⟨dn, e1, e2⟩ := HD.out
        rw [List.append_nil] at e2
        exact ⟨dn, e1, e2⟩
      have hp1 : S1.Perm (plusAll s.S o.S) := by
        obtain ⟨dn, e1, e2⟩ := hfin
        rw [e1]
        have hdn : (dn.map (·.1)).Nodup := ((e2.map (·.1)).nodup_iff).2 hOn
        have hdp : PosS dn := fun p hp => hOp p (e2.subset hp)
        exact (plusAll_perm (List.Perm.refl S) e2 hSn hdn hSp hdp).trans HPA.out
      have HP1 := Lib.hid hp1
      clear hfin hp1 HD HL HRG
      (try go_frame)
      have hlenr := fun m ty => (HM.out.drewN m).len (P := Try.prog) Try.underlying57 (ty := ty)
      obtain ⟨⟨c0, c1, c2, c3, c4⟩, f1, f3, f4⟩ := heavy_cells HB.out
      have hl3 : (S1.length : Int) ≤ 8192 := by
        have h1 := HP1.out.length_eq
        have h2 := plusAll_len s.S o.S
        have h3 := HPP.out.length_eq
        have h4 := HPO.out.length_eq
        omega
      by_cases hov : s.room < (S1.length : Int)
      · have hdl : decide (s.room < (S1.length : Int)) = true := by simpa using hov
        go_wp2_with fail
        go_quiet (fail)
        go_wp2_with fail
        have hA1 : HeavyAt (wr.drewN nq) hb cb s.room (s.added + o.added) (s.total + o.total) (s.slack + o.slack) S1 := ⟨HB.out, HM.out.drewN nq⟩
        have hkd : Keeps (fun k => k = hb ∨ k = cb) w (wr.drewN nq) := HKw.out.drewN nq
        generalize wr.drewN nq = W8 at *
        refine (htop_any hA1 (by omega) (s.room + 1) (by omega)).mono ?_
        rintro e w7 ⟨A, c, ts, rfl, hts, hown, hb7⟩
        have hrl : s.room.toNat < ts.length ∧ nthV S1 s.room.toNat = (ts[s.room.toNat]?.map CntV.n).getD 0 ∧ s.room < (ts.length : Int) := by
          obtain ⟨cs, hT, rfl⟩ := hts
          have hcl := hT.len
          have hm : topM (s.room + 1) cs.length = s.room.toNat + 1 := by unfold topM; omega
          have hlt : s.room.toNat < cs.length := by omega
          have hlt2 : s.room.toNat < (cs.take (topM (s.room + 1) cs.length)).length := by rw [List.length_take, hm]; omega
          refine ⟨hlt2, ?_, by omega⟩
          rw [hT.nthV hlt, List.getElem?_eq_getElem hlt2, List.getElem_take]
          rfl
        obtain ⟨hr3, hnv, hr4⟩ := hrl
        rw [List.getElem?_eq_getElem hr3] at hnv
        have hat : CntsAt w7 w7.heap.size A ts := Reads.of_own hown
        obtain ⟨b, o', rfl, hbl7, k1, k2⟩ := hat.one hr3
        have hpS : S1.Perm (plusAll S So) := HP1.out.trans HPA.out.symm
        have hpos : PosS (plusAll S So) := plusAll_pos hSp hOp
        have hbd : ∀ p ∈ S1, 0 ≤ p.2 ∧ p.2 ≤ 1099511627776 := fun p hp' => by
          have h2 := hpS.subset hp'
          have h3 := hpos p h2
          have h4 := mem_le_sum hpos p h2
          omega
        have hnx := nth_ex (r := s.room.toNat) hA1.cnt.nodup (by omega)
        have hv0 := hnx.pos (fun p hp' => hpos p (hpS.subset hp')) (by omega)
        have hv1 := hnx.le (fun p hp' => hpos p (hpS.subset hp'))
        rw [sumS_perm hpS] at hv1
        rw [hnv] at hv0 hv1
        have hcv : cutC s.room (plusAll s.S o.S) = ((ts[s.room.toNat]).n) := by
          unfold cutC
          rw [if_pos (by rw [← HP1.out.length_eq]; exact hov), ← nthV_permH HP1.out, hnv]
          rfl
        have hcs : (takeL S1 (ts[s.room.toNat]).n).Perm (cutS s.room (plusAll s.S o.S)) := by
          unfold cutS
          rw [if_pos (by rw [← HP1.out.length_eq]; exact hov), ← nthV_permH HP1.out, hnv]
          exact takeL_perm HP1.out _
        have hA7 : HeavyAt w7 hb cb s.room (s.added + o.added) (s.total + o.total) (s.slack + o.slack) S1 := ⟨(hb7.block hb (Array.getElem?_eq_some_iff.1 hA1.blk).1).trans hA1.blk, hA1.cnt.below hb7 hA1.cnt.lt⟩
        have hv0' : 0 < (ts[s.room.toNat]).n := hv0
        have hv1' : (ts[s.room.toNat]).n ≤ sumS (plusAll S So) := hv1
        have hq := htake_any hb cb s.room (s.added + o.added) (s.total + o.total) (s.slack + o.slack) (ts[s.room.toNat]).n S1 w7 hA7 hA7.cnt.lt hne hbd (by omega) (by omega) (by omega) (by omega)
        have hk7 : Keeps (fun k => k = hb ∨ k = cb) w w7 := hkd.trans (Keeps.ofBelow hb7 (fun k => k = hb ∨ k = cb)) (fun _ _ e => e)
        obtain ⟨⟨l0, l1, l2, l3, l4⟩, m1, m3, m4⟩ := heavy_cells hA7.blk
        have HQ := Lib.hid hq
        have HK7 := Lib.hid hk7
        have HCV := Lib.hid hcv
        have HCS := Lib.hid hcs
        clear hq hk7 hcv hcs hA7 hA1 hkd hb7 hown hat hnv hbd hpS hpos hv0 hv1 hv0' hv1' hnx hts HM HB HKw c0 c1 c2 c3 c4 f1 f3 f4 hlenr k1
        generalize (ts[s.room.toNat]).n = v at *
        have hrm0 : 0 ≤ s.room := by omega
        go_wp2_with fail
        refine HQ.out.mono ?_
        rintro e w9 ⟨rfl, cb', S', hA9, hp9, hc9, hk9⟩
        have fin : MergeH w hb cb s o (.returned (.bool true)) w9 := by
          refine ⟨rfl, cb', S', ?_, hp9.trans HCS.out, by have := HK7.out.size; omega, .inr (by have := HK7.out.size; omega), HK7.out.trans hk9 (fun _ _ e => .inl e)⟩
          show HeavyAt w9 hb cb' s.room (s.added + o.added) (s.total + o.total) (s.slack + o.slack + cutC s.room (plusAll s.S o.S)) S'
          rw [HCV.out]
          exact hA9
        have FIN := Lib.hid fin
        clear fin hA9 hp9 hc9 hk9
        go_wp2
        go_ret
        exact FIN.out
      · have hdl : decide (s.room < (S1.length : Int)) = false := by simpa using hov
        have hcv : cutC s.room (plusAll s.S o.S) = 0 := by unfold cutC; rw [if_neg (by rw [← HP1.out.length_eq]; exact hov)]
        have hcs : cutS s.room (plusAll s.S o.S) = plusAll s.S o.S := by unfold cutS; rw [if_neg (by rw [← HP1.out.length_eq]; exact hov)]
        have fin : ∀ q, MergeH w hb cb s o (.returned (.bool true)) (wr.drewN q) := fun q => by
          refine ⟨rfl, cb, S1, ⟨?_, HM.out.drewN q⟩, ?_, hne, .inl rfl, HKw.out.drewN q⟩
          · show wr.heap[hb]? = some (.cells #[.int .i64 s.room, .int .i64 (s.added + o.added), .map (some cb), .int .i64 (s.total + o.total), .int .i64 (s.slack + o.slack + cutC s.room (plusAll s.S o.S))] 126 (0, 0))
            rw [hcv, Int.add_zero]
            exact HB.out
          · show S1.Perm (cutS s.room (plusAll s.S o.S))
            rw [hcs]
            exact HP1.out
        have FIN := Lib.hid fin
        clear fin hcv hcs
        go_wp2_with fail
        go_quiet (fail)
        go_wp2
        go_ret
        exact FIN.out _
    · intro x v w6 hmem hrg6 hk6 hz6 hen
      simp only [strKf, intVf] at hen
      have hml6 := mdel_len HRG.out.nodup (p := (x, v)) hmem
      simp only at hml6
      have hM6 := HM.out.keep hk6 (by show ¬ cb = r1; omega)
      have hB6 := (hk6.block hb (Array.getElem?_eq_some_iff.1 HB.out).1 (by show ¬ hb = r1; omega)).trans HB.out
      have hnd2 : ∃ dn, plusS S1 x v = plusAll S dn ∧ List.Perm (dn ++ mdel left x) So := by
        obtain ⟨dn, e1, e2⟩ := HD.out
        refine ⟨dn ++ [(x, v)], by rw [plusAll_snoc, e1], ?_⟩
        refine List.Perm.trans ?_ e2
        rw [List.append_assoc]
        exact List.Perm.append_left _ (mdel_perm HRG.out.nodup hmem).symm
      have hmS : (x, v) ∈ So := by
        obtain ⟨dn, e1, e2⟩ := HD.out
        exact e2.subset (List.mem_append.2 (.inr hmem))
      have hv0 := hOp _ hmS
      have hko := HKO.out _ hmS
      simp only at hv0 hko
      have hnn : PosS S1 := by
        obtain ⟨dn, e1, e2⟩ := HD.out
        rw [e1]
        exact plusAll_pos hSp (fun p hp => hOp p (e2.subset (List.mem_append.2 (.inl hp))))
      have hbv : 0 ≤ lowV S1 x ∧ lowV S1 x + v ≤ 2199023255552 := by
        refine ⟨lowV_nonneg hnn x, ?_⟩
        obtain ⟨dn, e1, e2⟩ := hnd2
        have q0 : PosS (plusS S1 x v) := plusS_pos hnn x (by omega)
        have q1 : lowV (plusS S1 x v) x ≤ sumS (plusS S1 x v) := lowV_le q0 x
        rw [lowV_plus, if_pos rfl, e1, sumS_all hSn] at q1
        have q2 := sumS_perm e2
        rw [sumS_append] at q2
        have q3 := sumS_nonneg (S := mdel left x) (fun p hp => hOp p (e2.subset (List.mem_append.2 (.inr hp))))
        omega
      have hw9 : wrap64 (lowV S1 x + v) = lowV S1 x + v := by unfold wrap64; omega
      have hlook := look_low hM6 hko
      obtain ⟨W7, hrun, hM7, hK7, hz7⟩ := hM6.put strKey Try.underlying57 (x := x) hko (lowV S1 x + v)
      have hrun' : (Instr.mapUpdate 57 (.map (some cb)) (.string x) (.int .i64 (lowV S1 x + v))).run Try.prog w6 = .ok () W7 := hrun
      have hpe : plusS S1 x v = mput S1 x (lowV S1 x + v) := plusS_ne (by omega)
      rw [hpe] at hnd2
      have hB7 := (hK7.block hb (by have := hk6.size; have := (Array.getElem?_eq_some_iff.1 HB.out).1; omega) (by show ¬ hb = cb; omega)).trans hB6
      have hrg7 := hrg6.keep hK7 (by show ¬ r1 = cb; omega) (fun b e => by cases e; show ¬ cm = cb; omega)
      have hkw7 : Keeps (fun k => k = hb ∨ k = cb) w W7 := (HKw.out.trans hk6 (fun k hk e => by omega)).trans hK7 (fun k _ e => .inr e)
      obtain ⟨⟨c0, c1, c2, c3, c4⟩, f1, f3, f4⟩ := heavy_cells hB6
      have HND := Lib.hid hnd2
      have HM7 := Lib.hid hM7
      have HB7 := Lib.hid hB7
      have HRG7 := Lib.hid hrg7
      have HKW7 := Lib.hid hkw7
      have HML := Lib.hid hml6
      clear hnd2 hM7 hB7 hrg7 hkw7 hml6 hM6 hB6 hrg6 hk6 hz6 hmS hnn hpe hrun hK7 hz7 HD HM HB HKw hmem hko
      generalize hSS : mput S1 x (lowV S1 x + v) = S2 at *
      clear hSS
      generalize lowV S1 x = lv at *
      (try go_frame)
      go_wp2
      go_roundg (mdel left x).length
      case measure => have := HML.out; have := HL.out; omega
      case rel => exact ⟨mdel left x, S2, Lib.hid rfl, HRG7, HND, HM7, HB7, HKW7⟩
end Go.Proofs.Ytmigjlceogofaaa
