/- Contract of (*dedupe.Set).Put. -/
import Derived.Test.YthbijemihaekiaaGreatDoorDdC
import Derived.Deep.DeepCutAuto
namespace Go.Proofs.YthbijemihaekiaaGreatDoor
open Go.ChangeShapes Go.WideShapes Go.ChangeAt Go.RowKit
set_option linter.unusedVariables false
set_option linter.unusedSimpArgs false

def putB (F : RowsF) (key : ByteArray) (n : Int) : Bool := nameB key && decide (1 ≤ n) && decide (n ≤ 1099511627776) && !decide (memR (F key) n)
def putF (F : RowsF) (key : ByteArray) (n : Int) : RowsF := if putB F key n = true then updF F key (putR (F key) n) else F
def PutNew (sb : Nat) (G : Nat → Prop) (F : RowsF) (key : ByteArray) (n : Int) (w : World) (e : Ending) (w' : World) : Prop :=
  ∃ G', e = .returned (.bool (putB F key n)) ∧ SetObj w' sb G' (putF F key n) ∧ Upd G w G' w'
theorem putNew_no {sb : Nat} {G : Nat → Prop} {F : RowsF} {key : ByteArray} {n : Int} {w w' : World} (h : SetObj w sb G F) (hb : Below w.heap.size w w') (hf : putB F key n = false) : PutNew sb G F key n w (.returned (.bool false)) w' := by
  refine ⟨G, by rw [hf], ?_, Upd.stay hb⟩
  unfold putF
  rw [hf]
  exact (SetObj.own sb F).below h hb
/-- What stays as a row is worked on. -/
theorem SetAt.after {w w2 : World} {sb mb : Nat} {D : SlotL} {F : RowsF} (h : SetAt w sb mb D F) {key : ByteArray} (hk : Keeps (fun k => ∃ s, mget D key = some s ∧ s.1 = k) w w2) : w2.cell? ⟨sb, 0, none⟩ = some (.map (some mb)) := by
  refine (hk.cell (p := ⟨sb, 0, none⟩) (h.foot_lt sb (.inl rfl)) ?_).trans h.cells
  rintro ⟨s, h1, h2⟩
  exact (h.row_ne (mget_some_mem h1)).1 h2

set_option maxHeartbeats 8000000 in
set_option maxRecDepth 100000 in
theorem put_any (sb : Nat) (G : Nat → Prop) (F : RowsF) (key : ByteArray) (n : Int) (w : World) (h : SetObj w sb G F) (hok : key.size ≤ maxLen) (hl : (F key).length < 900000) (hn1 : -9223372036854775808 ≤ n) (hn2 : n ≤ 9223372036854775807) :
    Calls Tryz.prog 30 #[.pointer (some ⟨sb, 0, none⟩), .string key, .int .i64 n] w (PutNew sb G F key n w) := by
  have HOB := Lib.hid h
  obtain ⟨nb, hnb⟩ : ∃ nb, nb = nameB key := ⟨_, rfl⟩
  have HN := Lib.hid hnb
  have hnm := name_any key w hok
  have hNO : ∀ w', Below w.heap.size w w' → (nb = false ∨ n < 1 ∨ 1099511627776 < n ∨ memR (F key) n) → PutNew sb G F key n w (.returned (.bool false)) w' := fun w' hb hc => putNew_no h hb (by
    unfold putB
    rw [← hnb]
    rcases hc with e | e | e | e
    · rw [e]; simp
    · have : decide (1 ≤ n) = false := by simp; omega
      rw [this]; simp
    · have : decide (n ≤ 1099511627776) = false := by simp; omega
      rw [this]; simp
    · have : decide (memR (F key) n) = true := by simpa using e
      rw [this]; simp)
  have HNO := Lib.hid hNO
  clear hNO h
  rw [← hnb] at hnm
  clear hnb
  go_enter Tryz.func30, Tryz.ntmps30
  cases nb with
  | false =>
    go_wp2_with fail
    refine Calls.mono hnm ?_
    rintro e w1 ⟨rfl, rfl⟩
    go_wp2
    go_ret
    exact HNO.out _ (Below.refl _ _) (.inl (by simp))
  | true =>
  by_cases q1 : n < 1
  · go_wp2_with fail
    refine Calls.mono hnm ?_
    rintro e w1 ⟨rfl, rfl⟩
    go_wp2
    go_ret
    exact HNO.out _ (Below.refl _ _) (.inr (.inl q1))
  by_cases q2 : 1099511627776 < n
  · go_wp2_with fail
    refine Calls.mono hnm ?_
    rintro e w1 ⟨rfl, rfl⟩
    go_wp2
    go_ret
    exact HNO.out _ (Below.refl _ _) (.inr (.inr (.inl q2)))
  have hhas := has_any sb G F key n w HOB.out hok (by omega)
  obtain ⟨mb, D, hD, hG⟩ := HOB.out
  go_wp2_with fail
  refine Calls.mono hnm ?_
  rintro e w1 ⟨rfl, rfl⟩
  go_wp2_with fail
  refine Calls.mono hhas ?_
  rintro e w2 ⟨rfl, hb2⟩
  clear hhas hnm
  by_cases hm : memR (F key) n
  · have hd : decide (memR (F key) n) = true := by simpa using hm
    rw [hd]
    clear hd
    go_wp2
    go_ret
    exact HNO.out _ hb2 (.inr (.inr (.inr hm)))
  have hd : decide (memR (F key) n) = false := by simpa using hm
  rw [hd]
  clear hd
  have hpb : putB F key n = true := by
    unfold putB
    rw [← HN.out]
    have e1 : decide (1 ≤ n) = true := by simp; omega
    have e2 : decide (n ≤ 1099511627776) = true := by simp; omega
    have e3 : decide (memR (F key) n) = false := by simpa using hm
    rw [e1, e2, e3]; rfl
  have hok' := putR_ok (hD.ok key) (n := n) (by omega) hm
  have hne' : putR (F key) n ≠ [] := fun e => by
    have := (hok'.2 n).2 (.inr rfl)
    rw [e] at this
    exact memR_nil _ this
  -- the finish, from the world that the row's work leaves
  have hD2 : SetAt w2 sb mb D F := hD.keep (Keeps.ofBelow hb2 (fun _ => False)) (fun _ _ e => e)
  have hlo := look_rows hD2.mp hok
  obtain ⟨A, c, hv, hown, hA⟩ := hD2.row key
  rw [hv] at hlo
  have hFIN : ∀ w3 w4 g' c', Below w2.heap.size w2 w3 → Keeps (fun k => ∃ s, mget D key = some s ∧ s.1 = k) w3 w4 → RowAt w4 0 g' (putR (F key) n).length c' (putR (F key) n) → ((∃ s, mget D key = some s ∧ s.1 = g') ∨ w3.heap.size ≤ g') →
      ∃ w5, (Instr.mapUpdate 79 (.map (some mb)) (.string key) (.slice (some ⟨g', 0, none⟩) (putR (F key) n).length c')).run Tryz.prog w4 = .ok () w5 ∧ w4.cell? ⟨sb, 0, none⟩ = some (.map (some mb)) ∧ PutNew sb G F key n w (.returned (.bool true)) w5 := fun w3 w4 g' c' hb3 hk hr hg => by
    have hD3 : SetAt w3 sb mb D F := hD2.keep (Keeps.ofBelow hb3 (fun _ => False)) (fun _ _ e => e)
    obtain ⟨w5, hrun, hS, hU⟩ := hD3.put key hok hk hr hne' hok'.1 hg
    have hSO : SetObj w5 sb (setFoot sb mb (mput D key (g', (putR (F key) n).length, c'))) (putF F key n) := by
      unfold putF
      rw [if_pos hpb]
      exact ⟨mb, _, hS, rfl⟩
    have hUP : Upd G w (setFoot sb mb (mput D key (g', (putR (F key) n).length, c'))) w5 := by
      rw [hG]
      exact (Upd.stay hb2).trans ((Upd.stay (hb3.mono (Nat.le_refl _))).trans hU)
    exact ⟨w5, hrun, hD3.after hk, _, by rw [hpb], hSO, hUP⟩
  have HFIN := Lib.hid hFIN
  have hplR := fun W hW => place_any A c w2.heap.size (F key) n W ((own_reads hown).below hW) hW.size (hD.ok key) (by omega)
  have HPL := Lib.hid hplR
  have HOWN := Lib.hid hown
  have hc1 := hD2.cells
  have hAown : ∀ g, some g = (Value.slice A (F key).length c).ownBlock → ∃ s, mget D key = some s ∧ s.1 = g := fun g e => by
    rcases hA with ⟨-, rfl, -⟩ | ⟨g0, rfl, h2⟩
    · cases e
    · injection e with e
      subst e
      exact ⟨_, h2, rfl⟩
  have HAO := Lib.hid hAown
  have hAsh : (A = none ∧ (F key).length = 0) ∨ ∃ g, A = some ⟨g, 0, none⟩ := by
    rcases hA with ⟨-, h1, -, h2⟩ | ⟨g0, h1, -⟩
    · exact .inl ⟨h1, by rw [h2]; rfl⟩
    · exact .inr ⟨g0, h1⟩
  have HASH := Lib.hid hAsh
  have hple := placeR_le (F key) n
  obtain ⟨k, hk⟩ : ∃ k, placeR (F key) n = k := ⟨_, rfl⟩
  have HK := Lib.hid hk
  clear hFIN hplR hown hD hD2 hv hA hne' hok' hpb hm hAown hAsh HNO HN
  generalize F key = R at *
  rw [hk] at hple HPL
  clear hk
  go_wp2_with fail
  refine Calls.mono (HPL.out w2 (Below.refl _ _)) ?_
  rintro e w3 ⟨rfl, hb3⟩
  have hc3 : w3.cell? ⟨sb, 0, none⟩ = some (.map (some mb)) := (hb3.cell (p := ⟨sb, 0, none⟩) (World.block_lt_of_cell? _ _ hc1)).trans hc1
  have hown3 : w3.ownsRow 0 99 2 (.slice A R.length c) R.length (rgsCells R) := (Keeps.ofBelow hb3 (fun _ => False)).own HOWN.out (fun _ _ e => e)
  have HO3 := Lib.hid hown3
  have HB3 := Lib.hid hb3
  clear hown3 hb3 hlo hc1
  have hw1 : wrap64 (n + 1) = n + 1 := by unfold wrap64; omega
  have hcells : ∀ j (hj : j < R.length), ∃ g, A = some ⟨g, 0, none⟩ ∧ w3.cell? ⟨g, j * 2, none⟩ = some (.int .i64 R[j].1) ∧ w3.cell? ⟨g, j * 2 + 1, none⟩ = some (.int .i64 R[j].2) := fun j hj => by
    rcases HASH.out with ⟨-, h0⟩ | ⟨g, rfl⟩
    · omega
    · obtain ⟨b, o, e, hb, hc⟩ := (own_reads HO3.out).2 (by omega)
      injection e with e
      injection e with e1 e2
      subst e1 e2
      obtain ⟨x1, x2⟩ := rgsCells_at hj
      have y1 := hc _ _ x1
      have y2 := hc _ _ x2
      rw [Nat.zero_add] at y1 y2
      exact ⟨g, rfl, y1, y2⟩
  have HC := Lib.hid hcells
  clear hcells
  obtain ⟨lb, hlb⟩ : ∃ lb : Bool, (lb = true → ∃ h0 : 0 < k, (R[k - 1]'(by omega)).2 = n) ∧ (lb = false → ∀ h0 : 0 < k, (R[k - 1]'(by omega)).2 ≠ n) := by
    by_cases h : ∃ h0 : 0 < k, (R[k - 1]'(by omega)).2 = n
    · exact ⟨true, fun _ => h, fun e => (by cases e)⟩
    · exact ⟨false, fun e => (by cases e), fun _ h0 e => h ⟨h0, e⟩⟩
  obtain ⟨rb, hrb⟩ : ∃ rb : Bool, (rb = true → ∃ h0 : k < R.length, R[k].1 = n + 1) ∧ (rb = false → ∀ h0 : k < R.length, R[k].1 ≠ n + 1) := by
    by_cases h : ∃ h0 : k < R.length, R[k].1 = n + 1
    · exact ⟨true, fun _ => h, fun e => (by cases e)⟩
    · exact ⟨false, fun e => (by cases e), fun _ h0 e => h ⟨h0, e⟩⟩
  have HLB := Lib.hid hlb
  have HRB := Lib.hid hrb
  clear hlb hrb
  have hcore : (0 : Int) ≤ (k : Int) ∧ (k : Int) ≤ 900000 ∧ (k : Int) ≤ (R.length : Int) := by omega
  go_upto_region 5 with fail
  go_cut [9] (fun s9 wx => s9 = .bool lb ∧ wx = w3)
  case first =>
    by_cases hk0 : k = 0
    · have elb : lb = false := by
        cases lb with
        | false => rfl
        | true => obtain ⟨h0, -⟩ := HLB.out.1 rfl; omega
      subst elb hk0
      go_wp2_with fail
      go_meet
      exact ⟨rfl, rfl⟩
    · obtain ⟨g, rfl, -, x2⟩ := HC.out (k - 1) (by omega)
      have elb : lb = decide ((R[k - 1]'(by omega)).2 = n) := by
        cases lb with
        | false => have := HLB.out.2 rfl (by omega); simp [this]
        | true => obtain ⟨h0, e⟩ := HLB.out.1 rfl; simp [e]
      clear HLB HRB HC HO3 HOWN HFIN HPL HK
      subst elb
      generalize (R[k - 1]'(by omega)).2 = x at *
      have p1 : (0 : Int) < (k : Int) := by omega
      have p2 : 0 < k := by omega
      have p3 : ((k : Int) - 1).toNat = k - 1 := by omega
      have p4 : wrap64 ((k : Int) - 1) = (k : Int) - 1 := by unfold wrap64; omega
      have p5 : IntKind.i64.wrap ((k : Int) - 1) = (k : Int) - 1 := IntWalk.i64_in _ (by omega)
      have p6 : (k : Int) - 1 < (R.length : Int) := by omega
      have p7 : (1 : Int) ≤ (k : Int) := by omega
      go_wp2_with fail
      go_meet
      exact ⟨by simp [int_beq], rfl⟩
  case rest =>
    obtain ⟨rfl, hwx⟩ := hcut
    replace hwx := hwx.symm
    subst hwx
    go_upto_region 6 with fail
    go_cut [10] (fun s10 wx => s10 = .bool rb ∧ wx = w3)
    case first =>
      by_cases hk0 : k < R.length
      · obtain ⟨g, rfl, x1, -⟩ := HC.out k hk0
        have erb : rb = decide (R[k].1 = n + 1) := by
          cases rb with
          | false => have := HRB.out.2 rfl hk0; simp [this]
          | true => obtain ⟨h0, e⟩ := HRB.out.1 rfl; simp [e]
        clear HLB HRB HC HO3 HOWN HFIN HPL HK
        subst erb
        generalize R[k].1 = x at *
        have p1 : (k : Int) < (R.length : Int) := by omega
        go_wp2_with fail
        go_meet
        exact ⟨by simp [int_beq], rfl⟩
      · have erb : rb = false := by
          cases rb with
          | false => rfl
          | true => obtain ⟨h0, -⟩ := HRB.out.1 rfl; omega
        clear HLB HRB HC HO3 HOWN HFIN HPL HK
        subst erb
        have p1 : ¬ (k : Int) < (R.length : Int) := by omega
        have p2 : decide ((k : Int) < (R.length : Int)) = false := by simpa using p1
        go_wp2_with fail
        go_meet
        exact ⟨rfl, rfl⟩
    case rest =>
      obtain ⟨rfl, hwx⟩ := hcut
      replace hwx := hwx.symm
      subst hwx
      have hFin2 : ∀ w4 g' c', w3.grownBy w4 (Value.slice A R.length c).ownBlock → RowAt w4 0 g' (putR R n).length c' (putR R n) → (some g' = (Value.slice A R.length c).ownBlock ∨ w3.heap.size ≤ g') →
          ∃ w5, (Instr.mapUpdate 79 (.map (some mb)) (.string key) (.slice (some ⟨g', 0, none⟩) (putR R n).length c')).run Tryz.prog w4 = .ok () w5 ∧ w4.cell? ⟨sb, 0, none⟩ = some (.map (some mb)) ∧ PutNew sb G F key n w (.returned (.bool true)) w5 := fun w4 g' c' hgr hrow hg =>
        HFIN.out w3 w4 g' c' HB3.out ((Keeps.ofGrown hgr).mono (fun j _ e => HAO.out j e)) hrow (hg.imp (fun e => HAO.out g' e) id)
      have HF2 := Lib.hid hFin2
      clear hFin2 HFIN HPL HOWN HOB hb2 hG
      have hfro : ∀ g j, A = some ⟨g, 0, none⟩ → w3.frozen? ⟨g, j, none⟩ = false := fun g j e => by
        have h := HO3.out
        rw [e] at h
        obtain ⟨cur, h1, -⟩ := own_block h
        exact frozen_block h1 j
      have HFR := Lib.hid hfro
      clear hfro
      have p4 : wrap64 ((k : Int) + 1) = (k : Int) + 1 := by unfold wrap64; omega
      cases lb with
      | true =>
        obtain ⟨h0, hl1⟩ := HLB.out.1 rfl
        obtain ⟨g, rfl, -, x2⟩ := HC.out (k - 1) (by omega)
        have f1 := HFR.out g ((k - 1) * 2 + 1) rfl
        have q3 : ((k : Int) - 1).toNat = k - 1 := by omega
        have q4 : wrap64 ((k : Int) - 1) = (k : Int) - 1 := by unfold wrap64; omega
        have q6 : (k : Int) - 1 < (R.length : Int) := by omega
        have q7 : (1 : Int) ≤ (k : Int) := by omega
        cases rb with
        | true =>
          obtain ⟨h1, hr1⟩ := HRB.out.1 rfl
          obtain ⟨g2, e2, -, y2⟩ := HC.out k h1
          injection e2 with e2
          injection e2 with e2
          subst e2
          have hpe := putR_both HK.out q1 h0 h1 hl1 hr1
          obtain ⟨hs1, hs2⟩ := row_set HO3.out (show k - 1 < R.length by omega) 1 (.inr rfl) R[k].2
          simp only [show ¬ ((1 : Nat) = 0) by omega, if_false] at hs1
          obtain ⟨R1, hR1⟩ : ∃ R1, R1 = R.set (k - 1) (R[k - 1].1, R[k].2) := ⟨_, rfl⟩
          rw [← hR1] at hpe hs1
          have hlen : R1.length = R.length := by rw [hR1, List.length_set]
          have q8 : (k : Int) < (R.length : Int) := by omega
          generalize R[k].2 = t at *
          obtain ⟨w4, hw4⟩ : ∃ w4, w4 = w3.setCell ⟨g, (k - 1) * 2 + 1, none⟩ (.int .i64 t) := ⟨_, rfl⟩
          rw [← hw4] at hs1 hs2
          have hdel := del_any 0 g c k R1 w4 (by rw [hlen]; exact hs1) (by omega) (by omega)
          rw [← hpe, hlen] at hdel
          have HD := Lib.hid hdel
          have HG := Lib.hid hs2
          clear hdel hs1 hs2 hpe hR1 HC HLB HRB HO3 HK hl1 hr1
          go_wp2_with fail
          rw [← hw4]
          clear hw4
          refine Calls.mono HD.out ?_
          rintro e w5 ⟨g', c', rfl, hrow, hgr, hgg⟩
          obtain ⟨w6, hrun, hc6, hPN⟩ := HF2.out w5 g' c' (grown_trans HG.out hgr) hrow (hgg.imp id (fun h => Nat.le_trans HG.out.size h))
          have HPN := Lib.hid hPN
          clear hPN hrow hgr hgg
          go_wp2
          go_ret
          exact HPN.out
        | false =>
          have hpe := putR_left HK.out q1 h0 (by omega) hl1 (fun h => HRB.out.2 rfl h)
          obtain ⟨hs1, hs2⟩ := row_set HO3.out (show k - 1 < R.length by omega) 1 (.inr rfl) (n + 1)
          simp only [show ¬ ((1 : Nat) = 0) by omega, if_false] at hs1
          rw [← hpe] at hs1
          have hlen : (putR R n).length = R.length := by rw [hpe, List.length_set]
          obtain ⟨w4, hw4⟩ : ∃ w4, w4 = w3.setCell ⟨g, (k - 1) * 2 + 1, none⟩ (.int .i64 (n + 1)) := ⟨_, rfl⟩
          rw [← hw4] at hs1 hs2
          obtain ⟨w6, hrun, hc6, hPN⟩ := HF2.out w4 g c hs2 ⟨rfl, by rw [hlen]; exact hs1⟩ (.inl rfl)
          rw [hlen] at hrun
          have HPN := Lib.hid hPN
          clear hPN hs1 hs2 hpe HC HLB HRB HO3 HK hl1 HF2 hlen
          rw [hw4] at hrun hc6
          clear hw4
          go_wp2
          go_ret
          exact HPN.out
      | false =>
        cases rb with
        | true =>
          obtain ⟨h1, hr1⟩ := HRB.out.1 rfl
          obtain ⟨g, rfl, y1, -⟩ := HC.out k h1
          have f1 := HFR.out g (k * 2) rfl
          have hpe := putR_right HK.out q1 h1 (fun h => HLB.out.2 rfl h) hr1
          obtain ⟨hs1, hs2⟩ := row_set HO3.out h1 0 (.inl rfl) n
          simp only [if_true] at hs1
          rw [← hpe] at hs1
          rw [Nat.add_zero] at hs1 hs2
          have q8 : (k : Int) < (R.length : Int) := by omega
          have hlen : (putR R n).length = R.length := by rw [hpe, List.length_set]
          obtain ⟨w4, hw4⟩ : ∃ w4, w4 = w3.setCell ⟨g, k * 2, none⟩ (.int .i64 n) := ⟨_, rfl⟩
          rw [← hw4] at hs1 hs2
          obtain ⟨w6, hrun, hc6, hPN⟩ := HF2.out w4 g c hs2 ⟨rfl, by rw [hlen]; exact hs1⟩ (.inl rfl)
          rw [hlen] at hrun
          have HPN := Lib.hid hPN
          clear hPN hs1 hs2 hpe HC HLB HRB HO3 HK hr1 HF2 hlen
          rw [hw4] at hrun hc6
          clear hw4
          go_wp2
          go_ret
          exact HPN.out
        | false =>
          have hpe := putR_none HK.out q1 hple (fun h => HLB.out.2 rfl h) (fun h => HRB.out.2 rfl h)
          obtain ⟨w4, hw4⟩ : ∃ w4, w4 = w3.alloc (.cells #[.int .i64 n, .int .i64 (n + 1)] 99) := ⟨_, rfl⟩
          have hb4 : w3.grownBy w4 (Value.slice A R.length c).ownBlock := by rw [hw4]; exact World.grownBy_alloc w3 _ _
          have ho4 : w4.ownsRow 0 99 2 (.slice A R.length c) R.length (rgsCells R) := by rw [hw4]; exact HO3.out.alloc _
          have hvb : w4.heap[w3.heap.size]? = some (.cells (rgCells (n, n + 1)).toArray 99 (0, 0)) := by rw [hw4]; exact heap_alloc_new w3 _
          have hsz4 : w4.heap.size = w3.heap.size + 1 := by rw [hw4]; simp
          have hins : ∀ vc, Calls Tryz.prog 46 #[.slice A R.length c, .int .i64 k, .slice (some ⟨w3.heap.size, 0, none⟩) 1 vc] w4 (RowNew w4 0 (Value.slice A R.length c).ownBlock (putR R n)) := fun vc => by
            rw [hpe]
            rcases Nat.lt_or_ge k R.length with q | q
            · obtain ⟨g, rfl, -, -⟩ := HC.out k q
              rcases Nat.lt_or_ge c (R.length + 1) with q2 | q2
              · exact insGrow_any 0 g c k R (n, n + 1) w3.heap.size vc 99 w4 ho4 hvb q q2 (by omega) (Nat.zero_le _)
              · have hlt : g < w3.heap.size := by
                  have := HO3.out.lt g rfl
                  omega
                exact insRoom_any 0 g c k R (n, n + 1) w3.heap.size vc 0 99 w4 ho4 hvb (by omega) q q2 (by omega)
            · have hkl : k = R.length := by omega
              have e : R.take k ++ (n, n + 1) :: R.drop k = R ++ [(n, n + 1)] := by rw [List.take_of_length_le q, List.drop_of_length_le q]
              rw [e, hkl]
              exact insEnd_any 0 A c R (n, n + 1) w3.heap.size vc w4 ho4 (cells_block hvb 0 (fun j u hu => by simpa using hu)) (by omega) (Nat.zero_le _) (by omega)
          have HI := Lib.hid hins
          have HG := Lib.hid hb4
          have HS4 := Lib.hid hsz4
          clear hins hb4 ho4 hvb hpe HC HLB HRB HO3 HK hsz4
          go_wp2_with fail
          rw [← hw4]
          clear hw4
          refine Calls.mono (HI.out _) ?_
          rintro e w5 ⟨g', c', rfl, hrow, hgr, hgg⟩
          obtain ⟨w6, hrun, hc6, hPN⟩ := HF2.out w5 g' c' (grown_trans HG.out hgr) hrow (hgg.imp id (fun h => by have := HS4.out; omega))
          have HPN := Lib.hid hPN
          clear hPN hrow hgr hgg
          go_wp2
          go_ret
          exact HPN.out
end Go.Proofs.YthbijemihaekiaaGreatDoor
