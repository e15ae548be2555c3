/- The reference's Merge of heavies (ciceroneref14). -/
import Derived.Test.YtpjaolablkcpmaaHvS
namespace Go.Proofs.Ytpjaolablkcpmaa
open Go.ChangeShapes Go.WideShapes Go.ChangeAt Go.RowKit Go.Shelf Go.Lib Go.Sort Go.Proofs
set_option linter.unusedVariables false
set_option linter.unusedSimpArgs false

/-- What a merge of the reference leaves. -/
def MergeNewR (w : World) (xb : Nat) (F : Nat → Prop) (s o : HvS) (e : Ending) (w' : World) : Prop :=
  e = .returned (.tuple #[]) ∧ ∃ F', RfO w' xb F' (mergeH s o) ∧ Upd F w F' w'
def pairsC (cs : List CntV) : CntrL := cs.map (fun x => (x.key, x.n))
theorem pairs_perm {S : CntrL} {cs : List CntV} (h : TopOf S cs) : (pairsC cs).Perm S := by
  have := h.1.map (fun x : CntV => (x.key, x.n))
  rw [List.map_map] at this
  have e : S.map ((fun x : CntV => (x.key, x.n)) ∘ hToCnt) = S := by
    refine (List.map_congr_left (fun p _ => ?_)).trans (List.map_id _)
    rfl
  rw [e] at this
  exact this.symm
theorem sum_take {S : CntrL} (h : PosS S) (k : Nat) : sumS (S.take k) ≤ sumS S := by
  have e : sumS S = sumS (S.take k) + sumS (S.drop k) := by rw [← sumS_append, List.take_append_drop]
  have := sumS_nonneg (S := S.drop k) (fun p hp => h p (List.mem_of_mem_drop hp))
  omega

theorem nthV_perm {S T : CntrL} (h : S.Perm T) (r : Nat) : nthV S r = nthV T r := by
  have : NthV S r = NthV T r := funext fun c => propext (nth_perm h r c)
  unfold nthV
  rw [this]
theorem cutC_perm {S T : CntrL} (h : S.Perm T) (room : Int) : cutC room S = cutC room T := by
  unfold cutC
  rw [h.length_eq, nthV_perm h]
theorem cutS_perm {S T : CntrL} (h : S.Perm T) (room : Int) : (cutS room S).Perm (cutS room T) := by
  unfold cutS
  rw [h.length_eq, nthV_perm h]
  split
  · exact takeL_perm h _
  · exact h
theorem CutNew.perm {w w' : World} {xb : Nat} {room total slack added : Int} {S T : CntrL} {e : Ending} (h : CutNew w xb room total slack added S e w') (hp : S.Perm T) : CutNew w xb room total slack added T e w' := by
  obtain ⟨h1, g, c, cs, hB, hT, rest⟩ := h
  rw [cutC_perm hp] at hB
  exact ⟨h1, g, c, cs, hB, hT.perm (cutS_perm hp room), rest⟩
theorem keep3m {W0 W : World} {z b o : Nat} {k : ByteArray} {n : Int} {v2 : Value} (h : Below W0.heap.size W0 W) (hz : z < W0.heap.size) (hb : b < W0.heap.size)
    (d1 : W0.cell? ⟨z, 1, none⟩ = some v2) (e1 : W0.cell? ⟨b, o, none⟩ = some (.string k)) (e2 : W0.cell? ⟨b, o + 1, none⟩ = some (.int .i64 n)) :
    W.cell? ⟨z, 1, none⟩ = some v2 ∧ W.cell? ⟨b, o, none⟩ = some (.string k) ∧ W.cell? ⟨b, o + 1, none⟩ = some (.int .i64 n) :=
  ⟨(h.cell (p := ⟨z, 1, none⟩) hz).trans d1, (h.cell (p := ⟨b, o, none⟩) hb).trans e1, (h.cell (p := ⟨b, o + 1, none⟩) hb).trans e2⟩
theorem keep3s {W0 W : World} {xb z b o : Nat} {k : ByteArray} {n : Int} {v2 v : Value} (h : Below W0.heap.size W0 W) (hz : z < W0.heap.size) (hb : b < W0.heap.size) (nz : z ≠ xb) (nb : b ≠ xb)
    (d1 : W0.cell? ⟨z, 1, none⟩ = some v2) (e1 : W0.cell? ⟨b, o, none⟩ = some (.string k)) (e2 : W0.cell? ⟨b, o + 1, none⟩ = some (.int .i64 n)) :
    (W.setCell ⟨xb, 1, none⟩ v).cell? ⟨z, 1, none⟩ = some v2 ∧ (W.setCell ⟨xb, 1, none⟩ v).cell? ⟨b, o, none⟩ = some (.string k) ∧ (W.setCell ⟨xb, 1, none⟩ v).cell? ⟨b, o + 1, none⟩ = some (.int .i64 n) := by
  obtain ⟨h1, h2, h3⟩ := keep3m h hz hb d1 e1 e2
  exact ⟨(World.cell?_setCell_other W ⟨xb, 1, none⟩ ⟨z, 1, none⟩ _ (by intro e; injection e with e _; omega)).trans h1, (World.cell?_setCell_other W ⟨xb, 1, none⟩ ⟨b, o, none⟩ _ (by intro e; injection e with e _; omega)).trans h2, (World.cell?_setCell_other W ⟨xb, 1, none⟩ ⟨b, o + 1, none⟩ _ (by intro e; injection e with e _; omega)).trans h3⟩
theorem pairs_get (cs : List CntV) {k : Nat} (h : k < (pairsC cs).length) (h' : k < cs.length) : (pairsC cs)[k] = (cs[k].key, cs[k].n) := by simp [pairsC]
set_option maxRecDepth 20000 in
set_option maxHeartbeats 8000000 in
theorem rmerge_any (xb : Nat) (F : Nat → Prop) (s o : HvS) (A2 : Option Addr) (c2 : Nat) (cs2 : List CntV) (w : World) (h : RfO w xb F s) (hat : CntsAt w w.heap.size A2 cs2) (hT : TopOf o.S cs2) (hio : HvInv o) (hr : o.room = s.room) (ha : s.added + o.added ≤ 1048576) (hx2 : ¬ rowF A2 xb) :
    Calls Try.prog 23 #[.pointer (some ⟨xb, 0, none⟩), .agg #[.int .i64 o.room, .slice A2 cs2.length c2, .int .i64 o.total, .int .i64 o.slack, .int .i64 o.added]] w (MergeNewR w xb F s o) := by
  obtain ⟨A, c, cs, hA, rfl⟩ := h
  have hi := hA.inv
  have hxl : xb < w.heap.size := (Array.getElem?_eq_some_iff.1 hA.blk).1
  have hsl := hi.sl
  have hso := hio.sl
  have hpp := pairs_perm hT
  have hppn : ((pairsC cs2).map (·.1)).Nodup := ((hpp.map (·.1)).nodup_iff).2 hio.nd
  have hppp : PosS (pairsC cs2) := fun p hp => hio.pos p (hpp.subset hp)
  have hsumo : sumS (pairsC cs2) = sumS o.S := sumS_perm hpp
  have hl1 := hA.len
  have hl2 : (cs2.length : Int) ≤ 4096 := by have := hT.len; have := hio.len; have := hio.r2; omega
  have hpl : (pairsC cs2).length = cs2.length := by unfold pairsC; simp
  have hs0 := hi.s0
  have hos0 := hio.s0
  have hw1 : IntKind.i64.wrap (s.added + o.added) = s.added + o.added := IntWalk.i64_in _ (by have := hi.a0; have := hio.a0; omega)
  have hw2 : IntKind.i64.wrap (s.total + o.total) = s.total + o.total := IntWalk.i64_in _ (by have := hi.t0; have := hio.t0; omega)
  have hw3 : IntKind.i64.wrap (s.slack + o.slack) = s.slack + o.slack := IntWalk.i64_in _ (by omega)
  have hb0 : Below w.heap.size w (w.alloc (Obj.cells #[.int .i64 o.room, .slice A2 cs2.length c2, .int .i64 o.total, .int .i64 o.slack, .int .i64 o.added] 49)) := (Below.refl _ _).alloc (Nat.le_refl _) _
  have hbk : (w.alloc (Obj.cells #[.int .i64 o.room, .slice A2 cs2.length c2, .int .i64 o.total, .int .i64 o.slack, .int .i64 o.added] 49)).heap[w.heap.size]? = some (Obj.cells #[.int .i64 o.room, .slice A2 cs2.length c2, .int .i64 o.total, .int .i64 o.slack, .int .i64 o.added] 49 (0, 0)) := heap_alloc_new w _
  have hbx : RfB _ xb s.room s.total s.slack s.added A cs.length c := (hb0.block xb hxl).trans hA.blk
  have HA := Lib.hid hA
  have HAT := Lib.hid hat
  have HT := Lib.hid hT
  have HI := Lib.hid hi
  have HIO := Lib.hid hio
  have HPL := Lib.hid hpl
  have HB0 := Lib.hid hb0
  have HR := Lib.hid hr
  have HSO := Lib.hid hsumo
  clear hA hat hT hi hio hpl hb0 hr hsumo
  go_enter Try.func23, Try.ntmps23
  go_wp2_with fail
  generalize hW0 : w.alloc (Obj.cells #[.int .i64 o.room, .slice A2 cs2.length c2, .int .i64 o.total, .int .i64 o.slack, .int .i64 o.added] 49) = W0 at *
  have hzw : w.heap.size < W0.heap.size := (Array.getElem?_eq_some_iff.1 hbk).1
  clear hW0
  obtain ⟨⟨c0, c1, c2', c3, c4⟩, f1, f2, f3, f4⟩ := five_cells hbx
  obtain ⟨⟨d0, d1, d2, d3, d4⟩, -, -, -, -⟩ := five_cells hbk
  have hk0 : Keeps (fun k => k = xb) W0 W0 := Keeps.refl _ _
  go_region
  have hbx1 : RfB (W0.setCell ⟨xb, 4, none⟩ (.int .i64 (s.added + o.added))).drew xb s.room s.total s.slack (s.added + o.added) A cs.length c := (five_set hbx).2.2.2 _
  have hk1 : Keeps (fun k => k = xb) W0 (W0.setCell ⟨xb, 4, none⟩ (.int .i64 (s.added + o.added))).drew := Keeps.drew (Keeps.setCell (F := fun k => k = xb) (p := ⟨xb, 4, none⟩) hk0 (.inr rfl) _)
  generalize (W0.setCell ⟨xb, 4, none⟩ (.int .i64 (s.added + o.added))).drew = W1 at *
  clear hbx hk0
  have hbx := hbx1
  have hk0 := hk1
  clear hbx1 hk1 c0 c1 c2' c3 c4 f1 f2 f3 f4 d0 d1 d2 d3 d4
  obtain ⟨⟨c0, c1, c2', c3, c4⟩, f1, f2, f3, f4⟩ := five_cells hbx
  obtain ⟨⟨d0, d1, d2, d3, d4⟩, -, -, -, -⟩ := five_cells ((hk0.block w.heap.size hzw (by omega)).trans hbk)
  go_wp2_with fail
  go_region
  have hbx2 : RfB (W1.setCell ⟨xb, 2, none⟩ (.int .i64 (s.total + o.total))).drew xb s.room (s.total + o.total) s.slack (s.added + o.added) A cs.length c := (five_set hbx).2.1 _
  have hk2 : Keeps (fun k => k = xb) W0 (W1.setCell ⟨xb, 2, none⟩ (.int .i64 (s.total + o.total))).drew := Keeps.drew (Keeps.setCell (F := fun k => k = xb) (p := ⟨xb, 2, none⟩) hk0 (.inr rfl) _)
  generalize (W1.setCell ⟨xb, 2, none⟩ (.int .i64 (s.total + o.total))).drew = W2 at *
  clear hbx hk0
  have hbx := hbx2
  have hk0 := hk2
  clear hbx2 hk2 c0 c1 c2' c3 c4 f1 f2 f3 f4 d0 d1 d2 d3 d4
  obtain ⟨⟨c0, c1, c2', c3, c4⟩, f1, f2, f3, f4⟩ := five_cells hbx
  obtain ⟨⟨d0, d1, d2, d3, d4⟩, -, -, -, -⟩ := five_cells ((hk0.block w.heap.size hzw (by omega)).trans hbk)
  go_wp2_with fail
  go_region
  have hbx3 : RfB (W2.setCell ⟨xb, 3, none⟩ (.int .i64 (s.slack + o.slack))).drew xb s.room (s.total + o.total) (s.slack + o.slack) (s.added + o.added) A cs.length c := (five_set hbx).2.2.1 _
  have hk3 : Keeps (fun k => k = xb) W0 (W2.setCell ⟨xb, 3, none⟩ (.int .i64 (s.slack + o.slack))).drew := Keeps.drew (Keeps.setCell (F := fun k => k = xb) (p := ⟨xb, 3, none⟩) hk0 (.inr rfl) _)
  generalize (W2.setCell ⟨xb, 3, none⟩ (.int .i64 (s.slack + o.slack))).drew = W3 at *
  clear hbx hk0
  have hbx := hbx3
  have hk0 := hk3
  clear hbx3 hk3 c0 c1 c2' c3 c4 f1 f2 f3 f4 d0 d1 d2 d3 d4
  obtain ⟨⟨c0, c1, c2', c3, c4⟩, f1, f2, f3, f4⟩ := five_cells hbx
  obtain ⟨⟨d0, d1, d2, d3, d4⟩, -, -, -, -⟩ := five_cells ((hk0.block w.heap.size hzw (by omega)).trans hbk)
  go_wp2_with fail
  have hrow3 : CntsAt W3 W3.heap.size A cs := cnts_keep (Reads.more (HA.out.row.below HB0.out) HB0.out.size) hk0 (fun k hk e => HA.out.out (by rw [e] at hk; exact hk))
  have hrow4 : CntsAt W3 W3.heap.size A2 cs2 := cnts_keep (Reads.more (HAT.out.below HB0.out) HB0.out.size) hk0 (fun k hk e => hx2 (by rw [e] at hk; exact hk))
  have HR4 := Lib.hid hrow4
  have HK0 := Lib.hid hk0
  have hz3 : W0.heap.size ≤ W3.heap.size := hk0.size
  have hxw : xb < W3.heap.size := (Array.getElem?_eq_some_iff.1 hbx).1
  have hzw3 : w.heap.size < W3.heap.size := by omega
  clear hrow4 hbk hk0
  go_loopg [4] cs2.length (fun rest i wr => ∃ (k : Nat) (A' : Option Addr) (c' : Nat) (out : List CntV), i = .int .i64 k ∧ Hid (k + rest = cs2.length) ∧ Hid (((plusAll s.S ((pairsC cs2).take k)).map hToCnt).Perm out) ∧ Hid (RfB wr xb s.room (s.total + o.total) (s.slack + o.slack) (s.added + o.added) A' out.length c') ∧ Hid (CntsAt wr wr.heap.size A' out) ∧ Hid (Keeps (fun k => k = xb) W3 wr))
  case atStart => exact ⟨0, A, c, cs, rfl, Lib.hid (by simp), Lib.hid HA.out.top.1, Lib.hid hbx, Lib.hid hrow3, Lib.hid (Keeps.refl _ _)⟩
  case round =>
    clear hbx hrow3 c0 c1 c2' c3 c4 f1 f2 f3 f4 d0 d2 d3 d4
    obtain ⟨k, A', c', out, rfl, HK, HP, HB, HO, HKp⟩ := hrel
    have hpn := plusAll_nodup HI.out.nd ((pairsC cs2).take k)
    have hpos : PosS (plusAll s.S ((pairsC cs2).take k)) := plusAll_pos HI.out.pos (fun p hp => hppp p (List.mem_of_mem_take hp))
    have hsum : sumS (plusAll s.S ((pairsC cs2).take k)) ≤ 2199023255552 := by
      rw [sumS_all HI.out.nd]
      have := sum_take hppp k
      have := HSO.out
      omega
    have hln : ((plusAll s.S ((pairsC cs2).take k)).length : Int) ≤ 8192 := by
      have h1 := plusAll_len s.S ((pairsC cs2).take k)
      have h2 := List.length_take_le k (pairsC cs2)
      have h3 := HPL.out
      have h4 := HI.out.len
      have h5 := HI.out.r2
      rw [List.length_take] at h1
      omega
    have hol : (out.length : Int) ≤ 8192 := by have := HP.out.length_eq; rw [List.length_map] at this; omega
    obtain ⟨⟨c0, c1, c2', c3, c4⟩, f1, f2, f3, f4⟩ := five_cells HB.out
    have hzr := HKp.out.size
    have hxr : xb < wr.heap.size := by omega
    have hzwr : w.heap.size < wr.heap.size := by omega
    have d1r := (HKp.out.cell (p := ⟨w.heap.size, 1, none⟩) hzw3 (by show ¬ w.heap.size = xb; omega)).trans d1
    by_cases hk : (k : Int) < (cs2.length : Int)
    · have hkl : k < cs2.length := by omega
      have hcr : CntsAt wr wr.heap.size A2 cs2 := cnts_keep HR4.out HKp.out (fun k hk e => hx2 (by rw [e] at hk; exact hk))
      obtain ⟨b, ob, rfl, hbl, e1, e2⟩ := hcr.one hkl
      have hbds : ∀ x ∈ out, 0 ≤ x.n ∧ x.n ≤ 2199023255552 := fun x hx => by
        obtain ⟨p, hp', rfl⟩ := List.mem_map.1 (HP.out.mem_iff.2 hx)
        have h1 := hpos p hp'
        have h2 := mem_le_sum hpos p hp'
        show 0 ≤ p.2 ∧ p.2 ≤ _
        omega
      have hpk : (pairsC cs2).take (k + 1) = (pairsC cs2).take k ++ [(cs2[k].key, cs2[k].n)] := by
        have hk' : k < (pairsC cs2).length := by rw [HPL.out]; exact hkl
        rw [List.take_succ_eq_append_getElem hk', pairs_get cs2 hk' hkl]
      have hmem : (cs2[k].key, cs2[k].n) ∈ pairsC cs2 := List.mem_map.2 ⟨cs2[k], List.getElem_mem hkl, rfl⟩
      have hyb : 0 ≤ cs2[k].n ∧ cs2[k].n ≤ 2199023255552 := by
        have h1 := hppp _ hmem
        have h2 := mem_le_sum hppp _ hmem
        have := HSO.out
        simp only at h1 h2
        omega
      have hnx : ((plusAll s.S ((pairsC cs2).take (k + 1))).map hToCnt).Perm (plusC out cs2[k].key cs2[k].n) := by
        rw [hpk, plusAll_snoc]
        exact TopOf.plus hpn HP.out _ _
      have q := fun W (hb : Below wr.heap.size wr W) => rplus_any A' wr.heap.size c' out cs2[k].key cs2[k].n W (HO.out.below hb) hb.size (by omega) hyb hbds
      have Q := Lib.hid q
      have HNX := Lib.hid hnx
      clear q hnx hpk hmem hbds hpn hpos hsum hln hcr
      generalize cs2[k] = y at *
      have hnz : w.heap.size ≠ xb := by omega
      have hnb : b ≠ xb := fun e => hx2 ⟨ob, none, by rw [e]⟩
      have hKe : Below wr.heap.size wr wr.drew := (Below.refl _ _).drew
      go_wp2_with fail
      refine heldStart 21 (S := fun W => W.cell? ⟨w.heap.size, 1, none⟩ = some (.slice (some ⟨b, ob, none⟩) cs2.length c2) ∧ W.cell? ⟨b, ob + k * 2, none⟩ = some (.string y.key) ∧ W.cell? ⟨b, ob + k * 2 + 1, none⟩ = some (.int .i64 y.n)) (by kernel_rfl) ?_ (fun hHeld => ?_)
      · first | exact keep3m hKe hzwr hbl d1r e1 e2 | exact keep3s hKe hzwr hbl hnz hnb d1r e1 e2
      refine heldTake 0 (v := ?_) (by simp only [List.getElem?_toArray, List.getElem?_cons_succ, List.getElem?_cons_zero]; rfl) (by kernel_rfl) (by intro _ _ _ h; exact h) (by rfl) (by assumption) ?_ ?_
      rotate_left
      · intro W hSw; (try dsimp only at hSw); go_simp; try with_reducible rfl
      simp only [Act.put, List.setIfInBounds_toArray, List.set_cons_zero, List.set_cons_succ]
      refine heldTake 1 (v := ?_) (by simp only [List.getElem?_toArray, List.getElem?_cons_succ, List.getElem?_cons_zero]; rfl) (by kernel_rfl) (by intro _ _ _ h; exact h) (by rfl) (by assumption) ?_ ?_
      rotate_left
      · intro W hSw; (try dsimp only at hSw); go_simp; try with_reducible rfl
      simp only [Act.put, List.setIfInBounds_toArray, List.set_cons_zero, List.set_cons_succ]
      refine heldTake 2 (v := ?_) (by simp only [List.getElem?_toArray, List.getElem?_cons_succ, List.getElem?_cons_zero]; rfl) (by kernel_rfl) (by intro _ _ _ h; exact h) (by rfl) (by assumption) ?_ ?_
      rotate_left
      · intro W hSw; (try dsimp only at hSw); go_simp; try with_reducible rfl
      simp only [Act.put, List.setIfInBounds_toArray, List.set_cons_zero, List.set_cons_succ]
      refine heldTake 3 (v := ?_) (by simp only [List.getElem?_toArray, List.getElem?_cons_succ, List.getElem?_cons_zero]; rfl) (by kernel_rfl) (by intro _ _ _ h; exact h) (by rfl) (by assumption) ?_ ?_
      rotate_left
      · intro W hSw; (try dsimp only at hSw); go_simp; try with_reducible rfl
      simp only [Act.put, List.setIfInBounds_toArray, List.set_cons_zero, List.set_cons_succ]
      refine heldTake 5 (v := ?_) (by simp only [List.getElem?_toArray, List.getElem?_cons_succ, List.getElem?_cons_zero]; rfl) (by kernel_rfl) (by intro _ _ _ h; exact h) (by rfl) (by assumption) ?_ ?_
      rotate_left
      · intro W hSw; (try dsimp only at hSw); go_simp; try with_reducible rfl
      simp only [Act.put, List.setIfInBounds_toArray, List.set_cons_zero, List.set_cons_succ]
      refine heldTake 6 (v := ?_) (by simp only [List.getElem?_toArray, List.getElem?_cons_succ, List.getElem?_cons_zero]; rfl) (by kernel_rfl) (by intro _ _ _ h; exact h) (by rfl) (by assumption) ?_ ?_
      rotate_left
      · intro W hSw; (try dsimp only at hSw); go_simp; try with_reducible rfl
      simp only [Act.put, List.setIfInBounds_toArray, List.set_cons_zero, List.set_cons_succ]
      refine heldTake 7 (v := ?_) (by simp only [List.getElem?_toArray, List.getElem?_cons_succ, List.getElem?_cons_zero]; rfl) (by kernel_rfl) (by intro _ _ _ h; exact h) (by rfl) (by assumption) ?_ ?_
      rotate_left
      · intro W hSw; (try dsimp only at hSw); go_simp; try with_reducible rfl
      simp only [Act.put, List.setIfInBounds_toArray, List.set_cons_zero, List.set_cons_succ]
      refine heldTake 8 (v := ?_) (by simp only [List.getElem?_toArray, List.getElem?_cons_succ, List.getElem?_cons_zero]; rfl) (by kernel_rfl) (by intro _ _ _ h; exact h) (by rfl) (by assumption) ?_ ?_
      rotate_left
      · intro W hSw; (try dsimp only at hSw); go_simp; try with_reducible rfl
      simp only [Act.put, List.setIfInBounds_toArray, List.set_cons_zero, List.set_cons_succ]
      refine heldTake 9 (v := ?_) (by simp only [List.getElem?_toArray, List.getElem?_cons_succ, List.getElem?_cons_zero]; rfl) (by kernel_rfl) (by intro _ _ _ h; exact h) (by rfl) (by assumption) ?_ ?_
      rotate_left
      · intro W hSw; (try dsimp only at hSw); go_simp; try with_reducible rfl
      simp only [Act.put, List.setIfInBounds_toArray, List.set_cons_zero, List.set_cons_succ]
      refine heldTake 10 (v := ?_) (by simp only [List.getElem?_toArray, List.getElem?_cons_succ, List.getElem?_cons_zero]; rfl) (by kernel_rfl) (by intro _ _ _ h; exact h) (by rfl) (by assumption) ?_ ?_
      rotate_left
      · intro W hSw; (try dsimp only at hSw); go_simp; try with_reducible rfl
      simp only [Act.put, List.setIfInBounds_toArray, List.set_cons_zero, List.set_cons_succ]
      refine heldTake 11 (v := ?_) (by simp only [List.getElem?_toArray, List.getElem?_cons_succ, List.getElem?_cons_zero]; rfl) (by kernel_rfl) (by intro _ _ _ h; exact h) (by rfl) (by assumption) ?_ ?_
      rotate_left
      · intro W hSw; (try dsimp only at hSw); go_simp; try with_reducible rfl
      simp only [Act.put, List.setIfInBounds_toArray, List.set_cons_zero, List.set_cons_succ]
      refine heldTake 12 (v := ?_) (by simp only [List.getElem?_toArray, List.getElem?_cons_succ, List.getElem?_cons_zero]; rfl) (by kernel_rfl) (by intro _ _ _ h; exact h) (by rfl) (by assumption) ?_ ?_
      rotate_left
      · intro W hSw; (try dsimp only at hSw); go_simp; try with_reducible rfl
      simp only [Act.put, List.setIfInBounds_toArray, List.set_cons_zero, List.set_cons_succ]
      refine heldTake 13 (v := ?_) (by simp only [List.getElem?_toArray, List.getElem?_cons_succ, List.getElem?_cons_zero]; rfl) (by kernel_rfl) (by intro _ _ _ h; exact h) (by rfl) (by assumption) ?_ ?_
      rotate_left
      · intro W hSw; (try dsimp only at hSw); go_simp; try with_reducible rfl
      simp only [Act.put, List.setIfInBounds_toArray, List.set_cons_zero, List.set_cons_succ]
      refine heldTake 14 (v := ?_) (by simp only [List.getElem?_toArray, List.getElem?_cons_succ, List.getElem?_cons_zero]; rfl) (by kernel_rfl) (by intro _ _ _ h; exact h) (by rfl) (by assumption) ?_ ?_
      rotate_left
      · intro W hSw; (try dsimp only at hSw); go_simp; try with_reducible rfl
      simp only [Act.put, List.setIfInBounds_toArray, List.set_cons_zero, List.set_cons_succ]
      refine heldTake 15 (v := ?_) (by simp only [List.getElem?_toArray, List.getElem?_cons_succ, List.getElem?_cons_zero]; rfl) (by kernel_rfl) (by intro _ _ _ h; exact h) (by rfl) (by assumption) ?_ ?_
      rotate_left
      · intro W hSw; (try dsimp only at hSw); go_simp; try with_reducible rfl
      simp only [Act.put, List.setIfInBounds_toArray, List.set_cons_zero, List.set_cons_succ]
      refine heldTake 16 (v := ?_) (by simp only [List.getElem?_toArray, List.getElem?_cons_succ, List.getElem?_cons_zero]; rfl) (by kernel_rfl) (by intro _ _ _ h; exact h) (by rfl) (by assumption) ?_ ?_
      rotate_left
      · intro W hSw; (try dsimp only at hSw); go_simp; try with_reducible rfl
      simp only [Act.put, List.setIfInBounds_toArray, List.set_cons_zero, List.set_cons_succ]
      refine heldCall 4 (by simp only [List.getElem?_toArray, List.getElem?_cons_succ, List.getElem?_cons_zero]; rfl) (by kernel_rfl) (fun K hK => ?_)
      go_simp
      refine hK.out _ _ ?_ (fun hHeld => ?_)
      · first | exact keep3m hKe hzwr hbl d1r e1 e2 | exact keep3s hKe hzwr hbl hnz hnb d1r e1 e2
      clear hK K
      (try simp only [Act.put, List.setIfInBounds_toArray, List.set_cons_zero, List.set_cons_succ])
      refine heldCall 17 (by simp only [List.getElem?_toArray, List.getElem?_cons_succ, List.getElem?_cons_zero]; rfl) (by kernel_rfl) (fun K hK => ?_)
      go_simp
      refine (Q.out _ hKe).mono ?_
      rintro e w9 ⟨g9, c9, rfl, hown9, hb9⟩
      have hb9' : Below wr.heap.size wr w9 := hKe.trans (hb9.mono hKe.size)
      have hg9 := hown9.lt g9 rfl
      have HOW9 := Lib.hid hown9
      have c19 : w9.cell? ⟨xb, 1, none⟩ = some (.slice A' out.length c') := (hb9'.cell (p := ⟨xb, 1, none⟩) hxr).trans c1
      have f19 : w9.frozen? ⟨xb, 1, none⟩ = false := (hb9'.frozen (p := ⟨xb, 1, none⟩) hxr).trans f1
      clear hKe hb9 hown9
      have hKe := hb9'
      clear hb9'
      go_wp2_with fail
      refine hK.out _ _ ?_ (fun hHeld => ?_)
      · first | exact keep3m hKe hzwr hbl d1r e1 e2 | exact keep3s hKe hzwr hbl hnz hnb d1r e1 e2
      clear hK K
      (try simp only [Act.put, List.setIfInBounds_toArray, List.set_cons_zero, List.set_cons_succ])
      refine heldTake 18 (v := ?_) (by simp only [List.getElem?_toArray, List.getElem?_cons_succ, List.getElem?_cons_zero]; rfl) (by kernel_rfl) (by intro _ _ _ h; exact h) (by rfl) (by assumption) ?_ ?_
      rotate_left
      · intro W hSw; (try dsimp only at hSw); go_simp; try with_reducible rfl
      simp only [Act.put, List.setIfInBounds_toArray, List.set_cons_zero, List.set_cons_succ]
      refine heldTake 19 (v := ?_) (by simp only [List.getElem?_toArray, List.getElem?_cons_succ, List.getElem?_cons_zero]; rfl) (by kernel_rfl) (by intro _ _ _ h; exact h) (by rfl) (by assumption) ?_ ?_
      rotate_left
      · intro W hSw; (try dsimp only at hSw); go_simp; try with_reducible rfl
      simp only [Act.put, List.setIfInBounds_toArray, List.set_cons_zero, List.set_cons_succ]
      refine heldCall 20 (by simp only [List.getElem?_toArray, List.getElem?_cons_succ, List.getElem?_cons_zero]; rfl) (by kernel_rfl) (fun K hK => ?_)
      go_simp
      refine hK.out _ _ ?_ (fun hHeld => ?_)
      · first | exact keep3m hKe hzwr hbl d1r e1 e2 | exact keep3s hKe hzwr hbl hnz hnb d1r e1 e2
      clear hK K
      (try simp only [Act.put, List.setIfInBounds_toArray, List.set_cons_zero, List.set_cons_succ])
      refine heldDone (by kernel_rfl) ?_ _
      have hB9 : RfB (w9.setCell ⟨xb, 1, none⟩ (.slice (some ⟨g9, 0, none⟩) (plusC out y.key y.n).length c9)) xb s.room (s.total + o.total) (s.slack + o.slack) (s.added + o.added) (some ⟨g9, 0, none⟩) (plusC out y.key y.n).length c9 := (five_set ((hKe.block xb hxr).trans HB.out)).1 _
      have hk9 : Keeps (fun k => k = xb) W3 (w9.setCell ⟨xb, 1, none⟩ (.slice (some ⟨g9, 0, none⟩) (plusC out y.key y.n).length c9)) := Keeps.setCell (F := fun k => k = xb) (p := ⟨xb, 1, none⟩) (HKp.out.trans (Keeps.ofBelow hKe (fun k => k = xb)) (fun _ _ e => e)) (.inr rfl) _
      have hown9' := ownsRow_setCell_below (a := ⟨xb, 1, none⟩) HOW9.out (show xb < wr.heap.size from hxr) (.slice (some ⟨g9, 0, none⟩) (plusC out y.key y.n).length c9)
      have HB9 := Lib.hid hB9
      have HK9 := Lib.hid hk9
      have HO9 := Lib.hid (Reads.of_own hown9')
      clear hB9 hk9 hown9' hKe
      go_wp2
      go_roundg (gk - 1)
      case measure => have := HK.out; omega
      case rel => exact ⟨k + 1, some ⟨g9, 0, none⟩, c9, plusC out y.key y.n, by go_num, Lib.hid (by have := HK.out; omega), HNX, HB9, HO9, HK9⟩
    · have hall : (pairsC cs2).take k = pairsC cs2 := List.take_of_length_le (by have := HPL.out; omega)
      have hP2 := HP.out
      rw [hall] at hpn hpos hsum hln hP2
      have hq := rcut_any xb s.room (s.total + o.total) (s.slack + o.slack) (s.added + o.added) A' c' out (plusAll s.S (pairsC cs2)) wr HB.out HO.out hP2 hpn hpos HI.out.r1 HI.out.r2 (by omega) hsum (by omega) (by omega)
      have hperm : (plusAll s.S (pairsC cs2)).Perm (plusAll s.S o.S) := plusAll_perm (List.Perm.refl _) hpp HI.out.nd hppn HI.out.pos hppp
      have HQ := Lib.hid hq
      have HPM := Lib.hid hperm
      clear hq hperm hpn hpos hsum hln hP2 hall
      go_wp2_with fail
      refine HQ.out.mono ?_
      rintro e w5 hcut
      have he := hcut.1
      subst he
      have hcut2 := hcut.perm HPM.out
      have hkw : Keeps (fun k => k = xb) w wr := ((Keeps.ofBelow HB0.out (fun k => k = xb)).trans HK0.out (fun _ _ e => e)).trans HKp.out (fun _ _ e => e)
      have hfin := cut_fin (A := A) hxr hkw hcut2 (s' := mergeH s o) rfl (mergeH_inv HI.out HIO.out HR.out ha)
      have HF := Lib.hid hfin
      clear hcut hcut2 hkw hfin
      go_wp2
      refine bodyPost_ret (results_none rfl _ _ _) rfl ?_
      exact ⟨rfl, HF.out⟩
end Go.Proofs.Ytpjaolablkcpmaa
