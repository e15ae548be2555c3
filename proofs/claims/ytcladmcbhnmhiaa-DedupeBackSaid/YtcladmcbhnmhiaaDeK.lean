/- Contract of dedupe.Decode at bytes that Encode has put. -/
import Derived.Test.YtcladmcbhnmhiaaDeJ
namespace Go.Proofs.Ytcladmcbhnmhiaa
open Go.ChangeShapes Go.WideShapes Go.ChangeAt Go.RowKit Go.Shelf Go.Lib Go.Sort Go.Proofs
set_option linter.unusedVariables false
set_option linter.unusedSimpArgs false

section
variable {w w' : World} {sb mb : Nat} {D : SlotL} {F : RowsF}
/-- A source's row is written anew. -/
theorem SetAt.put2 {w2 : World} {g' c' : Nat} {R' : List Rg} (h : SetAt w sb mb D F) (key : ByteArray) (hok : key.size ≤ maxLen)
    (hk : Keeps (fun k => ∃ s, mget D key = some s ∧ s.1 = k) w w2) (hrow : RowAt w2 0 g' R'.length c' R') (hne : R' ≠ []) (hR : RowOk 0 R') (hg : (∃ s, mget D key = some s ∧ s.1 = g') ∨ w.heap.size ≤ g')
    {w3 : World} (hm3 : MapIs w3 strKf slotVf strOk mb (mput D key (g', R'.length, c'))) (hk3 : Keeps (fun k => k = mb) w2 w3) : SetAt w3 sb mb (mput D key (g', R'.length, c')) (updF F key R') ∧ Upd (setFoot sb mb D) w (setFoot sb mb (mput D key (g', R'.length, c'))) w3 := by
  have hlt := h.foot_lt
  have hblk : ∀ k, (∃ s, mget D key = some s ∧ s.1 = k) → ∃ p ∈ D, p.1 = key ∧ p.2.1 = k := fun k ⟨s, h1, h2⟩ => ⟨(key, s), mget_some_mem h1, rfl, h2⟩
  have hmb : mb < w.heap.size := hlt mb (.inr (.inl rfl))
  have hgm : g' ≠ mb := by
    rcases hg with hg | hg
    · obtain ⟨p, hp, -, e⟩ := hblk _ hg
      exact fun e2 => (h.row_ne hp).2 (e.trans e2)
    · omega
  refine ⟨⟨?_, hm3, ?_, ?_, ?_, ?_⟩, ?_⟩
  · have hs := hlt sb (.inl rfl)
    refine (hk3.block sb (by have := hk.size; omega) h.sb_ne).trans ((hk.block sb hs (fun hx => ?_)).trans h.blk)
    obtain ⟨p, hp, -, e⟩ := hblk _ hx
    exact (h.row_ne hp).1 e
  · intro p hp
    rcases mem_mputD hp with rfl | ⟨hp, hpk⟩
    · simp only [updF, if_true]
      exact ⟨hrow.of_block (hk3.block _ hrow.lt hgm), hne⟩
    · simp only [updF, if_neg hpk]
      obtain ⟨r1, r2⟩ := h.rows p hp
      refine ⟨r1.of_block ((hk3.block _ (by have := hk.size; have := r1.lt; omega) (h.row_ne hp).2).trans (hk.block _ r1.lt (fun hx => ?_))), r2⟩
      obtain ⟨q, hq, e1, e2⟩ := hblk _ hx
      exact hpk ((h.apart p hp q hq e2.symm).trans e1)
  · intro k hkn
    rw [mget_mput] at hkn
    by_cases e : k = key
    · rw [if_pos e] at hkn; cases hkn
    · rw [if_neg e] at hkn
      simp only [updF, if_neg e]
      exact h.no k hkn
  · intro p hp q hq e
    have hgn : ∀ r ∈ D, r.1 ≠ key → r.2.1 ≠ g' := fun r hr hrk e => by
      rcases hg with hg | hg
      · obtain ⟨q, hq, e1, e2⟩ := hblk _ hg
        exact hrk ((h.apart r hr q hq (e.trans e2.symm)).trans e1)
      · have := (h.rows r hr).1.lt
        omega
    rcases mem_mputD hp with rfl | ⟨hp, hpk⟩ <;> rcases mem_mputD hq with rfl | ⟨hq, hqk⟩
    · rfl
    · exact absurd e.symm (hgn q hq hqk)
    · exact absurd e (hgn p hp hpk)
    · exact h.apart p hp q hq e
  · intro k
    unfold updF
    split
    · exact hR
    · exact h.ok k
  · refine ⟨(hk.mono (fun k _ hx => ?_)).trans hk3 (fun k _ e => .inr (.inl e)), ?_⟩
    · obtain ⟨p, hp, -, e⟩ := hblk _ hx
      exact .inr (.inr ⟨p, hp, e⟩)
    · rintro k (rfl | rfl | ⟨p, hp, rfl⟩)
      · exact .inl (.inl rfl)
      · exact .inl (.inr (.inl rfl))
      · rcases mem_mputD hp with rfl | ⟨hp, -⟩
        · rcases hg with hg | hg
          · obtain ⟨q, hq, -, e⟩ := hblk _ hg
            exact .inl (.inr (.inr ⟨q, hq, e⟩))
          · exact .inr hg
        · exact .inl (.inr (.inr ⟨p, hp, rfl⟩))
end
instance decMemK (x : ByteArray) : ∀ l : List ByteArray, Decidable (x ∈ l)
  | [] => isFalse (by simp)
  | y :: l => if h : x = y then isTrue (by rw [h]; simp) else (match decMemK x l with
    | isTrue h2 => isTrue (List.mem_cons_of_mem _ h2)
    | isFalse h2 => isFalse (fun h3 => (List.mem_cons.1 h3).elim h h2))
/-- The first i sources. -/
def FP (F : RowsF) (ks : List ByteArray) (i : Nat) : RowsF := fun x => if x ∈ ks.take i then F x else []
theorem FP_zero (F : RowsF) (ks : List ByteArray) : FP F ks 0 = fun _ => [] := by funext x; simp [FP]
theorem FP_all {F : RowsF} {ks : List ByteArray} (h : KeysF F ks) : FP F ks ks.length = F := by
  funext x
  unfold FP
  rw [List.take_length]
  by_cases hx : x ∈ ks
  · rw [if_pos hx]
  · rw [if_neg hx]
    have := mt (h.2 x).2 hx
    simp at this
    exact this.symm
theorem FP_step {F : RowsF} {ks : List ByteArray} (h : KeysF F ks) {i : Nat} (hi : i < ks.length) : FP F ks (i + 1) = updF (FP F ks i) ks[i] (F ks[i]) ∧ FP F ks i ks[i] = [] := by
  have e : ∀ x, x ∈ ks.take (i + 1) ↔ x ∈ ks.take i ∨ x = ks[i] := fun x => by rw [List.take_succ_eq_append_getElem hi, List.mem_append, List.mem_singleton]
  refine ⟨?_, ?_⟩
  · funext x
    unfold FP updF
    by_cases hx : x = ks[i]
    · rw [if_pos ((e x).2 (.inr hx)), if_pos hx, hx]
    · rw [if_neg hx]
      show _ = if x ∈ ks.take i then F x else []
      by_cases hm : x ∈ ks.take i
      · rw [if_pos ((e x).2 (.inl hm)), if_pos hm]
      · rw [if_neg (fun h => ((e x).1 h).elim hm hx), if_neg hm]
  · unfold FP
    rw [if_neg]
    intro hm
    have hn := h.nodup
    rw [← List.take_append_drop i ks, List.drop_eq_getElem_cons hi, List.nodup_append] at hn
    exact hn.2.2 _ hm _ List.mem_cons_self rfl
theorem hby1_keep {w w' : World} {b o c : Nat} {l : List UInt8} (h : BySl w b o c l) (hb : Below w.heap.size w w') : BySl w' b o c l := h.below hb
theorem sLt_empty {k : ByteArray} (h : nameB k = true) : sLt ⟨#[]⟩ k = true := by
  have hne : k ≠ ⟨#[]⟩ := fun e => by
    have := ((nameB_iff k).1 h).1
    rw [e] at this
    revert this
    decide
  cases hq : sLt (⟨#[]⟩ : ByteArray) k with
  | true => rfl
  | false =>
    have hr : sLt k (⟨#[]⟩ : ByteArray) = false := by
      unfold sLt
      rw [show (⟨#[]⟩ : ByteArray).toList = [] by first | rfl | simp | (simp [ByteArray.toList, ByteArray.toList.loop])]
      cases k.toList <;> rfl
    exact absurd (sLt_total hr hq) hne
def DecNew (w : World) (F : RowsF) (e : Ending) (w' : World) : Prop := ∃ tb G, e = .returned (.tuple #[.pointer (some ⟨tb, 0, none⟩), .int .i64 0]) ∧ SetObj w' tb G F ∧ (∀ k, G k → w.heap.size ≤ k) ∧ Below w.heap.size w w'
set_option maxHeartbeats 16000000 in
set_option maxRecDepth 100000 in
theorem decode_any (b o c : Nat) (F : RowsF) (ks : List ByteArray) (l : List UInt8) (w : World) (h : BySl w b o c l) (hl : l = encF F ks) (hks : KeysF F ks) (hok : ∀ k, RowOk 0 (F k)) (ht : ∀ k, ∀ r ∈ F k, r.2 ≤ 1099511627777) (hnm : ∀ k ∈ ks, nameB k = true) (hkl : ks.length ≤ 1000) (hrl : ∀ k, (F k).length ≤ 1000) (hc : c ≤ maxLen) :
    Calls Try.prog 24 #[.slice (some ⟨b, o, none⟩) l.length c] w (DecNew w F) := by
  obtain ⟨l1, hl1⟩ : ∃ l1, l1 = ks.flatMap (encS F) := ⟨_, rfl⟩
  have hlq : l = numB ks.length ++ l1 := by rw [hl, hl1]; rfl
  have hq := dnum_any b o c ks.length l l1 w h hlq (by omega) hc
  have HQ := Lib.hid hq
  have HL1 := Lib.hid hl1
  have HKS := Lib.hid hks
  have HF := Lib.hid (And.intro hok (And.intro ht hrl))
  have HNM := Lib.hid hnm
  have hkl2 : (ks.length : Int) ≤ 1000 := by omega
  clear hq hl1 hlq hks hok ht hrl hnm hl h hkl
  go_enter Try.func24, Try.ntmps24
  go_wp2_with fail
  refine Calls.mono HQ.out ?_
  rintro e w1 ⟨o1, c1, rfl, hby1, hb1, hc1⟩
  have HBY := Lib.hid hby1
  have HB1 := Lib.hid hb1
  have HC1 := Lib.hid hc1
  clear hby1 hb1 hc1 HQ
  go_wp2_with fail
  refine Calls.mono (dnew_any w1) ?_
  rintro e w2 ⟨sb, G, rfl, ⟨mb, D0, hD0, hG0⟩, hG, hb2⟩
  have HD0 := Lib.hid hD0
  have HG0 := Lib.hid (And.intro hG0 hG)
  have HB2 := Lib.hid hb2
  have HBY2 := Lib.hid (hby1_keep HBY.out hb2)
  clear hD0 hG0 hG hb2
  go_wp2_with fail
  go_loopg [0, 7, 21] ks.length (fun left s0 s7 s21 wr => ∃ (i o2 c2 : Nat) (hd : ByteArray) (l2 : List UInt8) (D : SlotL), s21 = .int .i64 i ∧ s7 = .string hd ∧ s0 = .slice (some ⟨b, o2, none⟩) l2.length c2 ∧ Hid (i + left = ks.length) ∧ (i : Int) ≤ 1000 ∧ Hid (l2 = (ks.drop i).flatMap (encS F)) ∧ Hid (BySl wr b o2 c2 l2) ∧ Hid (∀ k ∈ ks.drop i, sLt hd k = true) ∧ Hid (SetAt wr sb mb D (FP F ks i)) ∧ Hid (∀ q, setFoot sb mb D q → w1.heap.size ≤ q) ∧ Hid (Below w1.heap.size w1 wr) ∧ Hid (c2 ≤ maxLen))
  case atStart => exact ⟨0, o1, c1, _, l1, D0, rfl, rfl, rfl, Lib.hid (by simp), by omega, Lib.hid (by rw [List.drop_zero]; exact HL1.out), HBY2, Lib.hid (fun k hk => sLt_empty (HNM.out k (by simpa using hk))), Lib.hid (by rw [FP_zero]; exact HD0.out), Lib.hid (fun q hq => HG0.out.2 q (by rw [HG0.out.1]; exact hq)), HB2, HC1⟩
  case round =>
    obtain ⟨i, o2, c2, hd, l2, D, rfl, rfl, rfl, HI, hi0, HL2, HBS, HHD, HSA, HFT, HB, HC2⟩ := hrel
    by_cases hi : (i : Int) < (ks.length : Int)
    · have hil : i < ks.length := by omega
      have hdr : ks.drop i = ks[i] :: ks.drop (i + 1) := List.drop_eq_getElem_cons hil
      have hl2 := HL2.out
      rw [hdr, List.flatMap_cons] at hl2
      have hlt := HHD.out ks[i] (by rw [hdr]; exact List.mem_cons_self)
      have hup : ∀ k ∈ ks.drop (i + 1), sLt ks[i] k = true := by
        have hp := HKS.out.1
        rw [← List.take_append_drop i ks, List.pairwise_append, hdr, List.pairwise_cons] at hp
        exact hp.2.1.1
      obtain ⟨hf1, hf2⟩ := FP_step HKS.out hil
      have hkn := HNM.out ks[i] (List.getElem_mem hil)
      have hne := (HKS.out.2 ks[i]).1 (List.getElem_mem hil)
      have HUP := Lib.hid hup
      have HF12 := Lib.hid (And.intro hf1 hf2)
      clear hdr hup hf1 hf2
      generalize ks[i] = key at *
      have hkz : key.size ≤ maxLen := by
        have := ((nameB_iff key).1 hkn).2.1
        unfold maxLen
        omega
      obtain ⟨l5, hl5⟩ : ∃ l5, l5 = (ks.drop (i + 1)).flatMap (encS F) := ⟨_, rfl⟩
      obtain ⟨R, hR⟩ : ∃ R, R = F key := ⟨_, rfl⟩
      obtain ⟨l4, hl4⟩ : ∃ l4, l4 = numB R.length ++ (encR 1 R ++ l5) := ⟨_, rfl⟩
      have hl2' : l2 = UInt8.ofNat key.size :: (key.data.toList ++ l4) := by
        rw [hl2, ← hl5, hl4, hR]
        unfold encS
        simp only [List.append_assoc, List.cons_append]
      have hok := HF.out.1 key
      have htp := HF.out.2.1 key
      have hrl := HF.out.2.2 key
      rw [← hR] at hok htp hrl hne
      have hq1 := dsrc_any b o2 c2 key l2 l4 wr HBS.out hl2' hkn HC2.out
      have hq2 := fun (v1 : World) (o3 c3 : Nat) (h3 : BySl v1 b o3 c3 l4) (hc3 : c3 ≤ maxLen) => drng_any b o3 c3 R l4 l5 v1 h3 hl4 hok hne htp hrl hc3
      have HQ1 := Lib.hid hq1
      have HQ2 := Lib.hid hq2
      have HL5 := Lib.hid hl5
      have HOK := Lib.hid (And.intro hok hne)
      have HRE := Lib.hid hR
      have hlt2 : sLt key hd = false := sLt_asymm hlt
      have HLT := Lib.hid (And.intro hlt hlt2)
      clear hq1 hq2 hl5 hok hne htp hrl hR hl2 hl2' hl4 hkn HL2 HHD hlt hlt2
      go_wp2_with fail
      refine Calls.mono HQ1.out ?_
      rintro e v1 ⟨o3, c3, rfl, hby3, hb3, hc3⟩
      have hq2 := HQ2.out v1 o3 c3 hby3 hc3
      have HQ3 := Lib.hid hq2
      have HV1 := Lib.hid hb3
      clear hq2 hby3 hb3 hc3 HQ1 HQ2
      have n1 : Op.bytesLess key.toList hd.toList = false := HLT.out.2
      have n2 : (key.toList == hd.toList) = false := by
        rw [str_beq]
        exact decide_eq_false (fun e => by have := HLT.out.1; rw [e, sLt_irrefl] at this; cases this)
      go_wp2_with fail
      refine Calls.mono HQ3.out ?_
      rintro e v2 ⟨A5, c5, o4, c4, rfl, hown5, hby4, hb4, hc4⟩
      have hv2 : Below wr.heap.size wr v2 := HV1.out.trans (hb4.mono HV1.out.size)
      have hS2 : SetAt v2 sb mb D (FP F ks i) := HSA.out.keep (Keeps.ofBelow hv2 (fun _ => False)) (fun _ _ e => e)
      have hno : mget D key = none := by
        cases hm : mget D key with
        | none => rfl
        | some s => exact absurd HF12.out.2 (hS2.rows _ (mget_some_mem hm)).2
      obtain ⟨g5, cap5, hv5, hlo5, -⟩ := hown5.form (List.length_pos_iff.2 HOK.out.2)
      injection hv5 with ev ev2 ev3
      subst ev ev3
      obtain ⟨w3, w4, clock, hme, hes, hm4, hk4, hz4⟩ := hS2.mp.entryNew (P := Try.prog) strKey Try.underlying64 (x := key) hkz hno ((g5, R.length, c5) : Slot) zero_rgs
      have hS2' : SetAt v1 sb mb D (FP F ks i) := HSA.out.keep (Keeps.ofBelow HV1.out (fun _ => False)) (fun _ _ e => e)
      obtain ⟨hS4, hU4⟩ := hS2'.put2 key hkz (Keeps.ofBelow hb4 _) ⟨rfl, own_base hown5 (Nat.zero_le _)⟩ HOK.out.2 HOK.out.1 (.inr hlo5) hm4 hk4
      have hc1' := hS2.cells
      have hFT4 : ∀ q, setFoot sb mb (mput D key (g5, R.length, c5)) q → w1.heap.size ≤ q := fun q hq => by
        rcases hU4.foot q hq with h1 | h1
        · exact HFT.out q h1
        · have := HB.out.size; have := HV1.out.size; omega
      have hB4 : Below w1.heap.size w1 w4 := by
        refine (HB.out.trans (HV1.out.mono HB.out.size)).trans ?_
        exact hU4.keeps.toBelow (by have := HB.out.size; have := HV1.out.size; omega) (fun q hq => HFT.out q hq)
      have hBY4 : BySl w4 b o4 c4 l5 := by
        refine ⟨fun j hj => (hk4.cell (p := ⟨b, o4 + j, none⟩) hby4.lt (fun e => ?_)).trans (hby4.cells j hj), hby4.cap, by rw [hz4]; exact hby4.lt⟩
        have h1 := HFT.out mb (.inr (.inl rfl))
        have h2 := HBY.out.lt
        have h3 : b = mb := e
        omega
      have HS4 : Hid (SetAt w4 sb mb (mput D key (g5, R.length, c5)) (FP F ks (i + 1))) := Lib.hid (by
        have h := HRE.out
        subst h
        rw [HF12.out.1]
        exact hS4)
      have HFT4 := Lib.hid hFT4
      have HB4 := Lib.hid hB4
      have HBY4 := Lib.hid hBY4
      have HC4 := Lib.hid hc4
      simp only [slotVf] at hes
      simp only [strKf] at hme
      clear hS4 hFT4 hB4 hBY4 hc4 hU4 hm4 hk4 hz4 hno hS2 hS2' hv2 hby4 hb4 hown5 HQ3 n1 n2
      go_wp2_with fail
      go_roundg (gk - 1)
      case measure => have := HI.out; omega
      case rel => exact ⟨i + 1, o4, c4, key, l5, _, by go_num, rfl, rfl, Lib.hid (by have := HI.out; omega), by omega, HL5, HBY4, HUP, HS4, HFT4, HB4, HC4⟩
    · have hie : i = ks.length := by have := HI.out; omega
      have hle : l2 = [] := by
        have := HL2.out
        rw [hie, List.drop_length] at this
        exact this
      subst hle
      have hfin : DecNew w F (.returned (.tuple #[.pointer (some ⟨sb, 0, none⟩), .int .i64 0])) wr := by
        refine ⟨sb, setFoot sb mb D, rfl, ⟨mb, D, ?_, rfl⟩, fun q hq => Nat.le_trans HB1.out.size (HFT.out q hq), HB1.out.trans (HB.out.mono HB1.out.size)⟩
        have h := HSA.out
        rw [hie, FP_all HKS.out] at h
        exact h
      have HFN := Lib.hid hfin
      clear hfin hie
      go_wp2_with fail
      go_ret2
      exact HFN.out
end Go.Proofs.Ytcladmcbhnmhiaa
