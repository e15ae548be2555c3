/- Contract of (*decay.Counter).Trim. -/
import Derived.Test.YtgahopkbgefjdaaDecK
import Derived.Test.YtgahopkbgefjdaaDecD
import Derived.Test.YtgahopkbgefjdaaKitD
import Derived.Test.YtgahopkbgefjdaaKitJ
import Derived.Test.YtgahopkbgefjdaaLayC
namespace Go.Proofs.Ytgahopkbgefjdaa
open Go.ChangeShapes Go.WideShapes Go.ChangeAt Go.RowKit
set_option linter.unusedVariables false
set_option linter.unusedSimpArgs false

/-- A key's row is another one. -/
theorem DecAt.row {w w1 : World} {cb bs : Nat} {hf cnt : Int} {S : KeysL} {R : Nat → RowL} (h : DecAt w cb bs hf cnt S R) {k : ByteArray} {b : Nat} (hk : (k, b) ∈ S) {r : RowL} (hm : MapIs w1 intVf intVf intOk b r) (hk1 : Keeps (fun j => j = b) w w1) : DecAt w1 cb bs hf cnt S (upd R b r) where
  blk := (hk1.block cb (Array.getElem?_eq_some_iff.1 h.blk).1 (fun e => h.cb_ne.2 _ hk e.symm)).trans h.blk
  sums := h.sums.keep hk1 (fun e => h.ne _ hk e.symm)
  rows := fun p hp => by
    by_cases e : p.2 = b
    · rw [e, upd_same]; exact hm
    · rw [upd_ne R _ e]; exact (h.rows p hp).keep hk1 e
  ne := h.ne
  apart := h.apart
/-- A key has gone. -/
theorem DecAt.less {w w1 : World} {cb bs : Nat} {hf cnt : Int} {S S' : KeysL} {R : Nat → RowL} (h : DecAt w cb bs hf cnt S R) (hs : S'.Sublist S) (hm : MapIs w1 strKf mapVf strOk bs S') (hk1 : Keeps (fun j => j = bs) w w1) : DecAt w1 cb bs hf cnt S' R where
  blk := (hk1.block cb (Array.getElem?_eq_some_iff.1 h.blk).1 h.cb_ne.1).trans h.blk
  sums := hm
  rows := fun p hp => (h.rows p (hs.subset hp)).keep hk1 (h.ne p (hs.subset hp))
  ne := fun p hp => h.ne p (hs.subset hp)
  apart := h.apart.sublist (hs.map _)

/-- What is left of a row behind some ticks. -/
def rowCut (old : Int) (done : List Int) (r : RowL) : RowL := r.filter fun q => decide (¬ q.1 ∈ done) || kp old q
theorem rowCut_start (old : Int) (r : RowL) : rowCut old [] r = r := by
  unfold rowCut
  rw [List.filter_eq_self]
  intro q _
  simp
theorem rowCut_end {old : Int} {done : List Int} {r : RowL} (h : ∀ q ∈ r, q.1 ∈ done) : rowCut old done r = r.filter (kp old) := by
  unfold rowCut
  apply List.filter_congr
  intro q hq
  simp [h q hq]
theorem rowCut_keep {old x : Int} {done : List Int} {r : RowL} (h : old < x) : rowCut old (done ++ [x]) r = rowCut old done r := by
  unfold rowCut
  apply List.filter_congr
  intro q hq
  by_cases e : q.1 = x
  · have : kp old q = true := by unfold kp; rw [e]; simpa using h
    simp [this]
  · simp [e]
theorem rowCut_drop {old x : Int} {done : List Int} {r : RowL} (h : x ≤ old) (hn : ¬ x ∈ done) : mdel (rowCut old done r) x = rowCut old (done ++ [x]) r := by
  unfold rowCut mdel
  rw [List.filter_filter]
  apply List.filter_congr
  intro q hq
  by_cases e : q.1 = x
  · have : kp old q = false := by unfold kp; rw [e]; simpa using h
    simp [e, this]
  · simp [e]
/-- How many of some ticks are old. -/
def cutN (old : Int) (done : List Int) : Nat := (done.filter fun x => decide (x ≤ old)).length
theorem cutN_snoc (old x : Int) (done : List Int) : cutN old (done ++ [x]) = cutN old done + if x ≤ old then 1 else 0 := by
  unfold cutN
  rw [List.filter_append, List.length_append]
  by_cases h : x ≤ old <;> simp [h]
theorem cutN_row {old : Int} {done : List Int} {r : RowL} (h : done.Perm (r.map (·.1))) : cutN old done = (r.filter (np old)).length := by
  unfold cutN
  rw [(h.filter _).length_eq, List.filter_map, List.length_map]
  rfl
theorem cutN_le (old : Int) (done : List Int) : cutN old done ≤ done.length := List.length_filter_le _ _

/-- What Trim leaves. -/
def DTrim (w : World) (cb bs : Nat) (hf cnt : Int) (S : KeysL) (R : Nat → RowL) (old : Int) (e : Ending) (w' : World) : Prop :=
  ∃ S' R' done, e = .returned (.int .i64 (trimN S R old (S.map (·.1)))) ∧ DecAt w' cb bs hf cnt S' R' ∧ TrimPart S R old done S' R' ∧ (∀ p ∈ S, p.1 ∈ done) ∧ Keeps (decFoot cb bs S) w w'

/-- The outer loop's relation: i keys are done. -/
def TrimOut (w w0 : World) (cb bs : Nat) (hf cnt : Int) (S : KeysL) (R : Nat → RowL) (old : Int) (ks : List ByteArray) (kA : Option Addr) (kc : Nat) (rest : Nat) (nn ii : Value) (wr : World) : Prop :=
  ∃ (i : Nat) (S' : KeysL) (R' : Nat → RowL), nn = .int .i64 (trimN S R old (ks.take i)) ∧ ii = .int .i64 i ∧ i + rest = ks.length ∧ DecAt wr cb bs hf cnt S' R' ∧ TrimPart S R old (ks.take i) S' R' ∧ Keeps (decFoot cb bs S) w wr ∧ StrsAt wr w0.heap.size kA ks ∧ w0.heap.size ≤ wr.heap.size

theorem nodup_take_not {α : Type} [DecidableEq α] {l : List α} (hn : l.Nodup) {j : Nat} (hj : j < l.length) : ¬ l[j] ∈ l.take j := by
  intro h
  obtain ⟨i, hi, e⟩ := List.getElem_of_mem h
  rw [List.getElem_take] at e
  simp at hi
  have := (List.getElem_inj hn).1 e
  omega

theorem trimN_le {S : KeysL} {R : Nat → RowL} {old : Int} (hR : ∀ p ∈ S, ((R p.2).length : Int) ≤ 100000) (ks : List ByteArray) : (trimN S R old ks : Int) ≤ 100000 * (ks.length : Int) := by
  induction ks with
  | nil => simp [trimN]
  | cons k ks ih =>
    have e : trimN S R old (k :: ks) = ((mrow S R k).filter (np old)).length + trimN S R old ks := rfl
    have h1 := List.length_filter_le (np old) (mrow S R k)
    have h2 : ((mrow S R k).length : Int) ≤ 100000 := by
      unfold mrow
      cases hg : mget S k with
      | none => simp
      | some b => exact hR _ (mget_some_mem hg)
    rw [e]
    simp only [List.length_cons]
    omega
theorem mrow_mem {S : KeysL} {R : Nat → RowL} (hS : (S.map (·.1)).Nodup) {k : ByteArray} {b : Nat} (h : (k, b) ∈ S) : mrow S R k = R b := by
  unfold mrow
  rw [mget_of_mem hS h]

theorem map_no_cell {κ υ : Type} {w : World} {kf : κ → Value} {vf : υ → Value} {Ok : κ → Prop} {b : Nat} {l : List (κ × υ)} (h : MapIs w kf vf Ok b l) {b' o : Nat} {v : Value} (hc : w.cell? ⟨b', o, none⟩ = some v) : b' ≠ b := by
  rintro rfl
  obtain ⟨es, c, hb, _⟩ := h
  simp [World.cell?, hb] at hc

/-- The inner loop's relation: j ticks are done. -/
def TrimIn (w5 : World) (b : Nat) (n0 old : Int) (ats : List Int) (r : RowL) (rest : Nat) (nn jj : Value) (wx : World) : Prop :=
  ∃ j : Nat, nn = .int .i64 (n0 + (cutN old (ats.take j) : Int)) ∧ jj = .int .i64 j ∧ j + rest = ats.length ∧ MapIs wx intVf intVf intOk b (rowCut old (ats.take j) r) ∧ Keeps (fun q => q = b) w5 wx

set_option maxRecDepth 20000 in
set_option maxHeartbeats 4000000 in
theorem dtrim_any (cb bs : Nat) (hf cnt : Int) (S : KeysL) (R : Nat → RowL) (hist : List AddD) (now : Int) (w : World) (h : DecAt w cb bs hf cnt S R) (hI : DecInv S R hist cnt) (h1 : 1 ≤ hf) (h2 : hf ≤ 1099511627776) (n0 : 0 ≤ now) (n1 : now ≤ 9223372036854775807) (hSl : (S.length : Int) ≤ 100000) (hRl : ∀ p ∈ S, ((R p.2).length : Int) ≤ 100000) :
    Calls Try.prog 23 #[.pointer (some ⟨cb, 0, none⟩), .int .i64 now] w (DTrim w cb bs hf cnt S R (now - 21 * hf)) := by
  have eg1 : ∀ args w, (callFunc 49 args).run Try.prog w = .ok (.enter 49 args) w := enters_of Try.func49 (by kernel_rfl) rfl
  have eg2 : ∀ args w, (callFunc 51 args).run Try.prog w = .ok (.enter 51 args) w := enters_of Try.func51 (by kernel_rfl) rfl
  have EG1 := Lib.hid eg1
  have EG2 := Lib.hid eg2
  clear eg1 eg2
  obtain ⟨c0, c1, c2⟩ := cell_of_dec h
  have HH := Lib.hid h
  have HI := Lib.hid hI
  have HRL := Lib.hid hRl
  have hfl := h.foot_lt
  have HFL := Lib.hid hfl
  have hS := h.sums.nodup
  have HS := Lib.hid hS
  have HOK := Lib.hid h.sums.ok
  clear h hI hRl hfl hS
  go_enter Try.func23, Try.ntmps23
  go_wp2_with fail
  refine (mapsKeys_any (P := Try.prog) Try.keysM (some bs) _).mono ?_
  rintro e w1 ⟨rfl, rfl⟩
  have hk1 : Keeps (decFoot cb bs S) w (w.alloc (.cells #[.map (some bs)] 50)) := (Keeps.refl _ _).alloc _
  have hD1 := HH.out.keep ((Keeps.refl (fun _ => False) w).alloc (.cells #[.map (some bs)] 50)) (fun _ _ e => e)
  go_wp2_with fail
  refine (collectKeys_any (P := Try.prog) (ρ := Try.keysM_ren) { Try.keysM with } Try.collS EG1.out w.heap.size bs S _ (by simp) (by simp) hD1.sums (by omega)).mono ?_
  rintro e w2 ⟨kA, kc, ks, rfl, hks, hown, hb2⟩
  have hD2 := hD1.keep (Keeps.ofBelow hb2 (fun _ => False)) (fun _ _ e => e)
  have hk2 : Keeps (decFoot cb bs S) w w2 := hk1.trans (Keeps.ofBelow hb2 (fun _ => False)) (fun _ _ e => e.elim)
  have hst : StrsAt w2 w2.heap.size kA ks := StrsAt.of_own hown (fun s hs => by
    obtain ⟨p, hp, rfl⟩ := List.mem_map.1 (hks.subset hs)
    exact HOK.out p hp)
  have hsz : w.heap.size ≤ w2.heap.size := hk2.size
  have hkn : ks.length = S.length := by simpa using hks.length_eq
  have hkl : (ks.length : Int) ≤ 100000 := by rw [hkn]; exact hSl
  have HKN := Lib.hid hkn
  have HKS := Lib.hid hks
  have HKND : Hid (ks.Nodup) := Lib.hid (hks.nodup_iff.2 HS.out)
  clear hown hb2 hD1 hk1 hkn hks c0 c1 c2
  go_wp2_with fail
  go_loopg [6, 28] ks.length (fun rest nn ii wr => TrimOut w w2 cb bs hf cnt S R (now - 21 * hf) ks kA kc rest nn ii wr)
  case atStart => exact ⟨0, S, R, rfl, rfl, by simp, hD2, TrimPart.start _ _ _, hk2, hst, Nat.le_refl _⟩
  case round =>
    clear hD2 hk2 hst
    obtain ⟨i, S1, R1, rfl, rfl, hir, hD, hT, hK, hst, hsz2⟩ := hrel
    have HIR := Lib.hid hir
    have hil : (i : Int) ≤ (ks.length : Int) := by omega
    clear hir
    obtain ⟨w3, rfl⟩ : ∃ w3 : World, w3 = wr := ⟨_, rfl⟩
    by_cases hi : (i : Int) < (ks.length : Int)
    · have hil2 : i < ks.length := by omega
      obtain ⟨bk, ok, hkA, hbk, hck, hsk⟩ := hst.one hil2
      subst hkA
      have hkm : ks[i] ∈ S.map (·.1) := HKS.out.subset (List.getElem_mem hil2)
      have hnd : ¬ ks[i] ∈ ks.take i := nodup_take_not HKND.out hil2
      have HTK : Hid (ks.take (i + 1) = ks.take i ++ [ks[i]]) := Lib.hid (List.take_succ_eq_append_getElem hil2)
      have hn0 := trimN_le (old := now - 21 * hf) HRL.out (ks.take i)
      have htl : ((ks.take i).length : Int) ≤ 100000 := by simp; omega
      generalize ks[i] = k at *
      obtain ⟨⟨k', b⟩, hp, hpk⟩ := List.mem_map.1 hkm
      simp only at hpk
      subst hpk
      have hr := hT.rest (k', b) hp hnd
      have hrow : MapIs w3 intVf intVf intOk b (R b) := by have := hD.rows _ hr.1; rw [hr.2] at this; exact this
      have hlo := look_out hD.sums (key := k') (HOK.out _ hp)
      rw [mget_of_mem hD.sums.nodup hr.1] at hlo
      obtain ⟨c0, c1, c2⟩ := cell_of_dec hD
      have hbz : b < w3.heap.size := hrow.lt
      have hbne : b ≠ bs ∧ b ≠ cb := ⟨hD.ne _ hr.1, hD.cb_ne.2 _ hr.1⟩
      have HRB := HRL.out _ hp
      simp only at HRB
      obtain ⟨n0, hn0e⟩ : ∃ n0 : Int, n0 = (trimN S R (now - 21 * hf) (ks.take i) : Int) := ⟨_, rfl⟩
      rw [← hn0e] at hn0 ⊢
      have hn00 : 0 ≤ n0 := by omega
      have HN0 := Lib.hid hn0e
      have HD := Lib.hid hD
      have HT := Lib.hid hT
      have HR1 := Lib.hid hr
      have HROW := Lib.hid hrow
      have HST := Lib.hid hst
      clear hkm hn0e hD hT hr hrow hst
      go_wp2_with fail
      refine (mapsKeysI_any (P := Try.prog) Try.keysI (some b) _).mono ?_
      rintro e w4 ⟨rfl, rfl⟩
      go_wp2_with fail
      refine (collectKeysI_any (P := Try.prog) (ρ := Try.keysI_ren) { Try.keysI with } Try.collI EG2.out w3.heap.size b (R b) _ (by simp) (by simp) (HROW.out.alloc _) (by omega)).mono ?_
      rintro e w5 ⟨aA, ac, ats, rfl, hats, hown5, hb5⟩
      have hb35 : Below w3.heap.size w3 w5 := ((Below.refl _ _).alloc (Nat.le_refl _) _).trans (hb5.mono (by simp))
      have hrd : Reads w5 w5.heap.size 1 aA ats.length (ats.map (Value.int .i64)) := Reads.of_own hown5
      have hapart : ∀ bb o sp, aA = some ⟨bb, o, sp⟩ → ¬ bb = b := fun bb o sp e hbb => by
        rcases hown5.2 with ⟨h0, _⟩ | ⟨g, cap, cur, hv, hbase, _⟩
        · injection h0 with h0; rw [h0] at e; cases e
        · injection hv with hv; rw [hv] at e; injection e with e; injection e with e1; subst e1; simp at hbase; omega
      have HRD := Lib.hid hrd
      have HAP := Lib.hid hapart
      have hm5 : MapIs w5 intVf intVf intOk b (R b) := HROW.out.below hb35 hbz
      have hatn : ats.length = (R b).length := by simpa using hats.length_eq
      have hatl : (ats.length : Int) ≤ 100000 := by rw [hatn]; exact HRB
      have HATN : Hid (ats.Nodup) := Lib.hid (hats.nodup_iff.2 hm5.nodup)
      have HATS := Lib.hid hats
      have HB35 := Lib.hid hb35
      have hoki := fun x (hx : x ∈ ats) => (show intOk x from by
        obtain ⟨q, hq, rfl⟩ := List.mem_map.1 (hats.subset hx)
        exact hm5.ok q hq)
      have HOKI := Lib.hid hoki
      have hz35 := hb35.size
      clear hown5 hb5 hrd hapart hatn hats hb35 hoki
      have HIR0 := HIR
      go_wp2_with fail
      go_loopg [6, 42] ats.length (fun rest nn jj wx => TrimIn w5 b n0 (now - 21 * hf) ats (R b) rest nn jj wx)
      case atStart => exact ⟨0, by simp [cutN], rfl, by simp, by rw [List.take_zero, rowCut_start]; exact hm5, Keeps.refl _ _⟩
      case round =>
        obtain ⟨j, rfl, rfl, hjr, hmx, hkx⟩ := hrel
        obtain ⟨w6, rfl⟩ : ∃ w6 : World, w6 = wr := ⟨_, rfl⟩
        have HJR := Lib.hid hjr
        have hjl' : (j : Int) ≤ (ats.length : Int) := by omega
        clear hjr
        have hcn := cutN_le (now - 21 * hf) (ats.take j)
        have hcl : ((cutN (now - 21 * hf) (ats.take j) : Nat) : Int) ≤ 100000 := by simp at hcn; omega
        clear hcn
        by_cases hj : (j : Int) < (ats.length : Int)
        · have hjl : j < ats.length := by omega
          obtain ⟨ba, oa, hAA, hba, hca⟩ := (hkx.reads HRD.out (Nat.le_refl _) HAP.out).one hjl
          subst hAA
          have hnj : ¬ ats[j] ∈ ats.take j := nodup_take_not HATN.out hjl
          have HTJ : Hid (ats.take (j + 1) = ats.take j ++ [ats[j]]) := Lib.hid (List.take_succ_eq_append_getElem hjl)
          have hokx := HOKI.out _ (List.getElem_mem hjl)
          generalize ats[j] = x at *
          by_cases hx : x ≤ now - 21 * hf
          · have HCD := Lib.hid (rowCut_drop (r := R b) hx hnj)
            have HCN : Hid (cutN (now - 21 * hf) (ats.take (j + 1)) = cutN (now - 21 * hf) (ats.take j) + 1) := Lib.hid (by rw [HTJ.out, cutN_snoc, if_pos hx])
            go_wp2_with (at_delete; refine wpList_delete_is (y := x) rfl _ _ _ rfl Try.underlying54 rfl rfl hokx intKey hmx ?_; intro w7 hm7 hk7 hz7; go_frame)
            rw [HCD.out, ← HTJ.out] at hm7
            (try go_wp2)
            go_roundg (gk - 1)
            case measure => have := HJR.out; omega
            case rel => exact ⟨j + 1, by rw [HCN.out]; go_num, by go_num, by have := HJR.out; omega, hm7, hkx.trans hk7 (fun _ _ e => e)⟩
          · have HCK : Hid (rowCut (now - 21 * hf) (ats.take (j + 1)) (R b) = rowCut (now - 21 * hf) (ats.take j) (R b)) := Lib.hid (by rw [HTJ.out]; exact rowCut_keep (by omega))
            have HCN : Hid (cutN (now - 21 * hf) (ats.take (j + 1)) = cutN (now - 21 * hf) (ats.take j)) := Lib.hid (by rw [HTJ.out, cutN_snoc, if_neg hx, Nat.add_zero])
            go_wp2
            go_roundg (gk - 1)
            case measure => have := HJR.out; omega
            case rel => exact ⟨j + 1, by rw [HCN.out], by go_num, by have := HJR.out; omega, by rw [HCK.out]; exact hmx, hkx⟩
        · have hta : ats.take j = ats := List.take_of_length_le (by omega)
          have hce : rowCut (now - 21 * hf) ats (R b) = (R b).filter (kp (now - 21 * hf)) := rowCut_end (fun q hq => HATS.out.symm.subset (List.mem_map.2 ⟨q, hq, rfl⟩))
          have hcn : cutN (now - 21 * hf) ats = ((R b).filter (np (now - 21 * hf))).length := cutN_row HATS.out
          rw [hta, hce] at hmx
          rw [hta] at hcl ⊢
          have HCNT : Hid (n0 + (cutN (now - 21 * hf) ats : Int) = (trimN S R (now - 21 * hf) (ks.take (i + 1)) : Int)) := Lib.hid (by rw [HTK.out, trimN_snoc, mrow_mem HS.out hp, ← hcn, HN0.out]; simp)
          have hbkb : bk ≠ b := map_no_cell HROW.out hck
          have hbks : bk ≠ bs := map_no_cell HD.out.sums hck
          have hD5 := HD.out.keep (Keeps.ofBelow HB35.out (fun _ => False)) (fun _ _ e => e)
          have hD6 := hD5.row HR1.out.1 hmx hkx
          have hst6 : StrsAt w6 w2.heap.size (some ⟨bk, ok, none⟩) ks := (HST.out.below (HB35.out.mono hsz2)).keep hkx (by omega) (fun b' o sp e => by injection e with e; injection e with e1; subst e1; exact hbkb)
          have hK6 : Keeps (decFoot cb bs S) w w6 := (hK.trans (Keeps.ofBelow HB35.out (fun _ => False)) (fun _ _ e => e.elim)).trans hkx (fun q _ e => .inr (.inr ⟨_, hp, e.symm⟩))
          have hz6 : w2.heap.size ≤ w6.heap.size := by have := hkx.size; omega
          have hlen := hmx.len (P := Try.prog) (t := 54) Try.underlying54 (ty := 3)
          obtain ⟨d0, d1, d2⟩ := cell_of_dec hD6
          have hsm6 := hD6.sums
          have HD6 := Lib.hid hD6
          have HMT := Lib.hid HT.out
          clear hta hce hcn hD5 hD6 hck c0 c1 c2 hm5 hkx
          by_cases hem : (R b).filter (kp (now - 21 * hf)) = []
          · have hTd := HT.out.drop HS.out HH.out.apart hp hnd hem ((R b).filter (kp (now - 21 * hf)))
            rw [← HTK.out] at hTd
            have HTD := Lib.hid hTd
            rw [hem] at hlen
            simp only [List.length_nil] at hlen
            clear hTd hem hmx
            go_wp2_with (at_delete; refine wpList_delete_is (y := k') rfl _ _ _ rfl Try.underlying50 rfl rfl (HOK.out _ hp) strKey hsm6 ?_; intro w7 hm7 hk7 hz7; go_frame)
            (try go_wp2)
            go_roundg (ks.length - (i + 1))
            case measure => have := HIR0.out; omega
            case rel =>
              refine ⟨i + 1, _, _, by rw [HCNT.out], by go_num, by have := HIR0.out; omega, HD6.out.less List.filter_sublist hm7 hk7, HTD.out, hK6.trans hk7 (fun q _ e => .inr (.inl e)), hst6.keep hk7 hz6 (fun b' o sp e => by injection e with e; injection e with e1; subst e1; exact hbks), by omega⟩
          · have hTk := HT.out.keep HS.out HH.out.apart hp hnd hem
            rw [← HTK.out] at hTk
            have HTD := Lib.hid hTk
            have hlz : ((((R b).filter (kp (now - 21 * hf))).length : Int) == 0) = false := by rw [int_beq]; simpa using hem
            clear hTk hem hmx
            generalize ((R b).filter (kp (now - 21 * hf))).length = nr at *
            go_wp2
            go_roundg (ks.length - (i + 1))
            case measure => have := HIR0.out; omega
            case rel =>
              refine ⟨i + 1, _, _, by rw [HCNT.out], by go_num, by have := HIR0.out; omega, HD6.out, HTD.out, hK6, hst6, hz6⟩
    · have hta : ks.take i = ks := List.take_of_length_le (by omega)
      rw [hta] at hT ⊢
      have HP : Hid (DTrim w cb bs hf cnt S R (now - 21 * hf) (.returned (.int .i64 (trimN S R (now - 21 * hf) ks))) w3) := Lib.hid ⟨S1, R1, ks, by rw [trimN_perm HKS.out], hD, hT, fun p hp => HKS.out.symm.subset (List.mem_map.2 ⟨p, hp, rfl⟩), hK⟩
      clear hta hT
      go_wp2
      go_ret
      exact HP.out
end Go.Proofs.Ytgahopkbgefjdaa
