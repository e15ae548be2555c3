/- Contract of dedupe.ranges at bytes that Encode has put. -/
import Derived.Test.YtcladmcbhnmhiaaDeI
namespace Go.Proofs.Ytcladmcbhnmhiaa
open Go.ChangeShapes Go.WideShapes Go.ChangeAt Go.RowKit Go.Shelf Go.Lib Go.Sort Go.Proofs
set_option linter.unusedVariables false
set_option linter.unusedSimpArgs false

theorem BySl.keep9 {w w' : World} {b o c : Nat} {l : List UInt8} {v : Option Nat} (h : BySl w b o c l) (hg : w.grownBy w' v) (hb : some b ≠ v) : BySl w' b o c l :=
  ⟨fun j hj => (World.cell?_of_block (w := w) (hg.block b h.lt hb)).trans (h.cells j hj), h.cap, Nat.lt_of_lt_of_le h.lt hg.size⟩
def RngNew (w : World) (b : Nat) (R : List Rg) (rest : List UInt8) (e : Ending) (w' : World) : Prop :=
  ∃ A c o' c', e = .returned (.tuple #[.slice A R.length c, .slice (some ⟨b, o', none⟩) (List.length rest) c', .int .i64 0]) ∧ w'.ownsRow w.heap.size 42 2 (.slice A R.length c) R.length (rgsCells R) ∧ BySl w' b o' c' rest ∧ Below w.heap.size w w' ∧ c' ≤ maxLen
theorem rng_facts (e9 f t : Int) (i m1 m2 : Nat) (h0 : 1 ≤ e9) (h1 : e9 - 1 < f) (h2 : f < t) (h3 : t ≤ 1099511627777) (h4 : 0 < i → e9 < f) (hi : (i : Int) ≤ 1000) (e1 : m1 = (f - e9).toNat) (e2 : m2 = (t - f).toNat) :
    m1 < 4398046511104 ∧ m2 < 4398046511104 ∧ wrap64 (e9 + (m1 : Int)) = f ∧ wrap64 (f + (m2 : Int)) = t ∧ ((m2 : Int) == 0) = false ∧ ¬ (1099511627777 < t) ∧ decide (1099511627777 < t) = false ∧ (((m1 : Int) == 0) = false ∨ (((m1 : Int) == 0) = true ∧ i = 0)) := by
  unfold wrap64
  subst e1 e2
  refine ⟨by omega, by omega, by omega, by omega, by rw [beq_eq_false_iff_ne]; omega, by omega, decide_eq_false (by omega), ?_⟩
  by_cases q : (((f - e9).toNat : Nat) : Int) = 0
  · exact .inr ⟨by rw [q]; rfl, by omega⟩
  · exact .inl (by rw [beq_eq_false_iff_ne]; exact q)
set_option maxHeartbeats 16000000 in
set_option maxRecDepth 100000 in
theorem drng_any (b o c : Nat) (R : List Rg) (l rest : List UInt8) (w : World) (h : BySl w b o c l) (hl : l = numB R.length ++ (encR 1 R ++ rest)) (hR : RowOk 0 R) (hne : R ≠ []) (ht : ∀ r ∈ R, r.2 ≤ 1099511627777) (hrl : R.length ≤ 1000) (hc : c ≤ maxLen) :
    Calls Try.prog 40 #[.slice (some ⟨b, o, none⟩) l.length c] w (RngNew w b R rest) := by
  obtain ⟨l1, hl1⟩ : ∃ l1, l1 = encR 1 R ++ rest := ⟨_, rfl⟩
  rw [← hl1] at hl
  have hq := dnum_any b o c R.length l l1 w h hl (by omega) hc
  have HL1 := Lib.hid hl1
  have HQ := Lib.hid hq
  have HR := Lib.hid (And.intro hR ht)
  have hr0 : ((R.length : Int) == 0) = false := by
    have := List.length_pos_iff.2 hne
    rw [beq_eq_false_iff_ne]; omega
  have hrl2 : (R.length : Int) ≤ 1000 := by omega
  clear h hl hR hne ht hq hrl hl1
  go_enter Try.func40, Try.ntmps40
  go_wp2_with fail
  refine Calls.mono HQ.out ?_
  rintro e w1 ⟨o1, c1, rfl, hby1, hb1, hc1⟩
  have HBY := Lib.hid hby1
  have HB1 := Lib.hid hb1
  have HC1 := Lib.hid hc1
  clear hby1 hb1 hc1 HQ
  go_wp2_with fail
  go_loopg [0, 7, 8, 25] R.length (fun left s0 s7 s8 s25 wr => ∃ (i o2 c2 : Nat) (A5 : Option Addr) (c5 : Nat) (e9 : Int) (l2 : List UInt8), s25 = .int .i64 i ∧ s8 = .int .i64 e9 ∧ s0 = .slice (some ⟨b, o2, none⟩) l2.length c2 ∧ s7 = .slice A5 i c5 ∧ Hid (i + left = R.length) ∧ (i : Int) ≤ 1000 ∧ Hid (l2 = encR e9 (R.drop i) ++ rest) ∧ Hid (RowOk (e9 - 1) (R.drop i) ∧ (0 < i → RowOk e9 (R.drop i)) ∧ 1 ≤ e9) ∧ Hid (BySl wr b o2 c2 l2) ∧ Hid (wr.ownsRow w1.heap.size 42 2 (.slice A5 i c5) i (rgsCells (R.take i))) ∧ Hid (Below w1.heap.size w1 wr) ∧ Hid (c2 ≤ maxLen))
  case atStart => exact ⟨0, o1, c1, none, 0, 1, _, rfl, rfl, rfl, rfl, Lib.hid (by simp), by omega, Lib.hid (by rw [List.drop_zero]; exact HL1.out), Lib.hid ⟨by simpa using HR.out.1, fun h => absurd h (by omega), by omega⟩, HBY, Lib.hid (World.ownsRow_nil _ _ _ _), Lib.hid (Below.refl _ _), HC1⟩
  case round =>
    obtain ⟨i, o2, c2, A5, c5, e9, l2, rfl, rfl, rfl, rfl, HI, hi0, HL2, HRO, HBS, HOW, HB, HC2⟩ := hrel
    by_cases hi : (i : Int) < (R.length : Int)
    · have hil : i < R.length := by omega
      have hl2 := HL2.out
      rw [List.drop_eq_getElem_cons hil] at hl2
      obtain ⟨r1, r2, he9⟩ := HRO.out
      rw [List.drop_eq_getElem_cons hil] at r1 r2
      have htop := HR.out.2 R[i] (List.getElem_mem hil)
      have htk := List.take_succ_eq_append_getElem hil
      have HTK := Lib.hid htk
      clear htk
      generalize R[i] = ri at *
      obtain ⟨f, t⟩ := ri
      obtain ⟨a1, a2, a3⟩ := r1
      simp only at a1 a2 a3 htop
      have hen : encR e9 ((f, t) :: R.drop (i + 1)) = numB (f - e9).toNat ++ numB (t - f).toNat ++ encR t (R.drop (i + 1)) := rfl
      rw [hen, List.append_assoc, List.append_assoc] at hl2
      obtain ⟨m1, hm1⟩ : ∃ m1, m1 = (f - e9).toNat := ⟨_, rfl⟩
      obtain ⟨m2, hm2⟩ : ∃ m2, m2 = (t - f).toNat := ⟨_, rfl⟩
      obtain ⟨g3, g4, g5, g6, g7, g8, g9, g10⟩ := rng_facts e9 f t i m1 m2 he9 a1 a2 htop (fun h => (r2 h).1) hi0 hm1 hm2
      rw [← hm1, ← hm2] at hl2
      obtain ⟨l4, hl4⟩ : ∃ l4, l4 = encR t (R.drop (i + 1)) ++ rest := ⟨_, rfl⟩
      rw [← hl4] at hl2
      obtain ⟨l3, hl3⟩ : ∃ l3, l3 = numB m2 ++ l4 := ⟨_, rfl⟩
      rw [← hl3] at hl2
      have hq1 := dnum_any b o2 c2 m1 l2 l3 wr HBS.out hl2 g3 HC2.out
      have HQ1 := Lib.hid hq1
      have HA3 := Lib.hid (show RowOk (t - 1) (R.drop (i + 1)) ∧ (0 < i + 1 → RowOk t (R.drop (i + 1))) ∧ 1 ≤ t from ⟨a3.mono (by omega), fun _ => a3, by omega⟩)
      have HL3 := Lib.hid (And.intro hl3 (And.intro hl4 g4))
      clear hen hl2 r2 a3 hq1 hm1 hm2 hl3 hl4 g3 g4 a1 a2 htop he9 HRO HL2
      go_wp2_with fail
      refine Calls.mono HQ1.out ?_
      rintro e v1 ⟨o3, c3, rfl, hby3, hb3, hc3⟩
      have hq2 := dnum_any b o3 c3 m2 l3 l4 v1 hby3 HL3.out.1 HL3.out.2.2 hc3
      have HQ2 := Lib.hid hq2
      have HV1 := Lib.hid hb3
      clear hby3 hb3 hc3 hq2 HQ1
      have g10' : (((m1 : Int) == 0) = false) ∨ (((m1 : Int) == 0) = true ∧ ¬ ((0 : Int) < (i : Int)) ∧ decide ((0 : Int) < (i : Int)) = false) := by
        rcases g10 with g | ⟨g, e⟩
        · exact .inl g
        · have : ¬ ((0 : Int) < (i : Int)) := by rw [e]; exact Int.lt_irrefl 0
          exact .inr ⟨g, this, decide_eq_false this⟩
      clear g10
      have hstep : ∀ v2 : World, ∀ W9 : World, W9 = v2.alloc (.cells #[.int .i64 f, .int .i64 t] 42) → Below wr.heap.size wr v2 → W9.cell? ⟨v2.heap.size, 0, none⟩ = some (.int .i64 f) ∧ W9.cell? ⟨v2.heap.size, 1, none⟩ = some (.int .i64 t) ∧ Below w1.heap.size w1 W9 ∧ W9.ownsRow w1.heap.size 42 2 (.slice A5 i c5) i (rgsCells (R.take i)) := fun v2 W9 hW9 hb => by
        subst hW9
        have hb2 : Below w1.heap.size w1 v2 := HB.out.trans (hb.mono HB.out.size)
        exact ⟨by simp, by simp, hb2.alloc hb2.size _, ((Keeps.ofBelow hb (fun _ => False)).own HOW.out (fun _ _ e => e)).alloc _⟩
      have HST := Lib.hid hstep
      clear hstep
      rcases g10' with g10 | ⟨g10, g11, g12⟩
      all_goals
        go_wp2_with fail
        refine Calls.mono HQ2.out ?_
        rintro e v2 ⟨o4, c4, rfl, hby4, hb4, hc4⟩
        have HBY4 := Lib.hid hby4
        have HV2 := Lib.hid (HV1.out.trans (hb4.mono HV1.out.size))
        have HC4 := Lib.hid hc4
        clear hby4 hb4 hc4
        obtain ⟨W9, hW9⟩ : ∃ W9, W9 = v2.alloc (.cells #[.int .i64 f, .int .i64 t] 42) := ⟨_, rfl⟩
        obtain ⟨z0, z1, hbw, how⟩ := HST.out v2 W9 hW9 HV2.out
        have HBW := Lib.hid hbw
        have HOW9 := Lib.hid how
        have hby9 : BySl W9 b o4 c4 l4 := by rw [hW9]; exact HBY4.out.below ((Below.refl _ v2).alloc (Nat.le_refl _) _)
        have HBY9 := Lib.hid hby9
        clear hbw how hby9
        have hi1 : i + 1 ≤ 2000 := by omega
        have hlt9 : v2.heap.size < W9.heap.size := World.block_lt_of_cell? _ _ z0
        have hown9 : ∀ q, (Value.slice A5 i c5).ownBlock = some q → w1.heap.size ≤ q ∧ q < v2.heap.size := fun q hq => by
          have h1 := HOW.out.lt q hq
          have h2 := HV2.out.size
          exact ⟨h1.1, by omega⟩
        have hZ : ∀ w7, W9.grownBy w7 (Value.slice A5 i c5).ownBlock → w7.cell? ⟨v2.heap.size, 1, none⟩ = some (.int .i64 t) := fun w7 hg => (World.cell?_of_block (w := W9) (hg.block _ hlt9 (fun e => absurd (hown9 _ e.symm).2 (Nat.lt_irrefl _)))).trans z1
        have hBK : ∀ w7, W9.grownBy w7 (Value.slice A5 i c5).ownBlock → BySl w7 b o4 c4 l4 := fun w7 hg => BySl.keep9 HBY9.out hg (fun e => absurd (hown9 _ e.symm).1 (Nat.not_le.2 HBY.out.lt))
        have HZ := Lib.hid (And.intro hZ hBK)
        clear hZ hBK hown9 hlt9
        go_upto_region 21 with fail
        rw [← hW9]
        clear hW9
        go_wp2_with (at_builtin; refine wpList_append_one W9 rfl (.tmp 68) (.tmp 70) _ rfl w1.heap.size 42 (.agg #[.int .i64 0, .int .i64 0]) 2 16 u_rgs i_rg rfl (by omega) A5 i c5 _ rfl HOW9.out (rgCells (f, t)) rfl rfl (fun u hu => rgsCells_one [(f, t)] u (by simpa [rgsCells] using hu)) (by omega) (by unfold maxLen; omega) HBW.out.size ?_; intro A7 c7 w7 hown7 hg7 hb7; have hz1 := HZ.out.1 w7 hg7)
        have HO7 := Lib.hid hown7
        have HB7 := Lib.hid (HBW.out.trans hb7)
        have HBY7 := Lib.hid (HZ.out.2 w7 hg7)
        clear hown7 hg7 hb7
        go_wp2_with fail
        go_roundg (gk - 1)
        case measure => have := HI.out; omega
        case rel => exact ⟨i + 1, o4, c4, A7, c7, t, l4, by go_num, rfl, rfl, rfl, Lib.hid (by have := HI.out; omega), by omega, Lib.hid HL3.out.2.1, HA3, HBY7, Lib.hid (by rw [HTK.out, rgsCells_append]; have := HO7.out; simpa [rgsCells] using this), HB7, HC4⟩
    · have hie : i = R.length := by have := HI.out; omega
      have hle : l2 = rest := by
        have := HL2.out
        rw [hie, List.drop_length] at this
        simpa [encR] using this
      have hfin : RngNew w b R rest (.returned (.tuple #[.slice A5 i c5, .slice (some ⟨b, o2, none⟩) l2.length c2, .int .i64 0])) wr := by
        have how := HOW.out
        rw [hie, List.take_length] at how
        rw [hie, hle]
        exact ⟨A5, c5, o2, c2, rfl, own_base how HB1.out.size, hle ▸ HBS.out, HB1.out.trans (HB.out.mono HB1.out.size), HC2.out⟩
      have HFN := Lib.hid hfin
      clear hfin hle hie
      go_wp2_with fail
      go_ret3
      exact HFN.out
end Go.Proofs.Ytcladmcbhnmhiaa
