/- Contract of (*distinct.Counter).add. -/
import Derived.Test.YtmigjlceogofaaaDsD
import Derived.Deep.DeepCutAuto
import Derived.Test.YtmigjlceogofaaaKitC
namespace Go.Proofs.Ytmigjlceogofaaa
open Go.ChangeShapes Go.WideShapes Go.ChangeAt Go.RowKit
set_option linter.unusedVariables false
set_option linter.unusedSimpArgs false

theorem insAt_ris {R : List Int} (hR : Rising R) {h : Int} {p : Nat} (hp : p ≤ R.length) (lt : ∀ t (ht : t < R.length), t < p → R[t] < h) (gt : ∀ t (ht : t < R.length), p ≤ t → h < R[t]) : Rising (insD R p h) := by
  unfold insD Rising
  have e : R.take p ++ R.drop p = R := List.take_append_drop p R
  have hs : (R.take p ++ R.drop p).Pairwise (· < ·) := by rw [e]; exact hR
  rw [List.pairwise_append] at hs ⊢
  obtain ⟨a1, a2, a3⟩ := hs
  have hd : ∀ x ∈ R.drop p, h < x := fun x hx => by
    obtain ⟨t, ht, rfl⟩ := List.getElem_of_mem hx
    rw [List.getElem_drop]
    exact gt _ _ (by omega)
  have hl : ∀ x ∈ R.take p, x < h := fun x hx => by
    obtain ⟨t, ht, rfl⟩ := List.getElem_of_mem hx
    rw [List.getElem_take]
    exact lt _ _ (by rw [List.length_take] at ht; omega)
  refine ⟨a1, List.pairwise_cons.2 ⟨hd, a2⟩, fun x hx y hy => ?_⟩
  rcases List.mem_cons.1 hy with rfl | hy
  · exact hl x hx
  · exact a3 x hx y hy
theorem insAt_len {R : List Int} {h : Int} {p : Nat} (hp : p ≤ R.length) : (insD R p h).length = R.length + 1 := by
  unfold insD
  rw [List.length_append, List.length_cons, List.length_take, List.length_drop]; omega
theorem mem_insAt {R : List Int} {h x : Int} {p : Nat} : x ∈ insD R p h ↔ x = h ∨ x ∈ R := by
  unfold insD
  have e : x ∈ R ↔ x ∈ R.take p ∨ x ∈ R.drop p := by rw [← List.mem_append, List.take_append_drop]
  rw [e, List.mem_append, List.mem_cons]
  constructor
  · rintro (h | h | h)
    · exact .inr (.inl h)
    · exact .inl h
    · exact .inr (.inr h)
  · rintro (h | h | h)
    · exact .inr (.inl h)
    · exact .inl h
    · exact .inr (.inr h)
theorem place_lt {R : List Int} (hR : Rising R) {h : Int} (hm : h ∉ R) : ∀ t (ht : t < R.length), placeD R h ≤ t → h < R[t] := fun t ht hp => by
  have h1 := placeD_iff hR h t ht
  have h2 : R[t] ≠ h := fun e => hm (e ▸ List.getElem_mem ht)
  have h3 : ¬ R[t] < h := fun q => by have := h1.1 q; omega
  omega

theorem placeD_take {R : List Int} {h : Int} {k m : Nat} (e : placeD R h = k) (hk : k ≤ m) : placeD (R.take m) h = k := by
  subst e
  unfold placeD at *
  induction R generalizing m with
  | nil => simp
  | cons x R ih =>
    rw [List.takeWhile_cons] at hk ⊢
    cases m with
    | zero =>
      by_cases hx : x < h
      · simp [hx] at hk
      · simp [hx]
    | succ m =>
      rw [List.take_succ_cons, List.takeWhile_cons]
      split
      · rename_i hx
        rw [if_pos hx] at hk
        simp only [List.length_cons] at hk ⊢
        rw [ih (by omega)]
      · rfl

/-- What an addition leaves in memory. -/
def CtNew (cb : Nat) (F : Nat → Prop) (s : CtS) (v : Value) (w : World) (e : Ending) (w' : World) : Prop := e = .returned v ∧ ∃ F', CtO cb s w' F' ∧ Upd F w F' w'

set_option maxHeartbeats 8000000 in
set_option maxRecDepth 100000 in
theorem cadd_any (cb : Nat) (s : CtS) (F : Nat → Prop) (h : Int) (w : World) (hO : CtO cb s w F) (hh : 0 ≤ h ∧ h ≤ 18446744073709551615) :
    Calls Try.prog 65 #[.pointer (some ⟨cb, 0, none⟩), .int .u64 h] w (CtNew cb F (addS s h) (.bool (ctB s h)) w) := by
  obtain ⟨A, c, hC, rfl⟩ := hO
  obtain ⟨W1, hW1⟩ : ∃ W1, W1 = (w.alloc (.cells #[.pointer (some ⟨cb, 0, none⟩)] 54)).alloc (.cells #[.int .u64 h] 95) := ⟨_, rfl⟩
  have hb1 : Below w.heap.size w W1 := by rw [hW1]; exact ((Below.refl _ w).alloc (Nat.le_refl _) _).alloc (by simp) _
  have c1 : W1.cell? ⟨w.heap.size, 0, none⟩ = some (.pointer (some ⟨cb, 0, none⟩)) := by rw [hW1]; simp
  have c2 : W1.cell? ⟨w.heap.size + 1, 0, none⟩ = some (.int .u64 h) := by rw [hW1]; simp
  have hs1 : W1.heap.size = w.heap.size + 2 := by rw [hW1]; simp
  have hC1 : CtAt W1 cb A c s := hC.keep (Keeps.ofBelow hb1 noF) (fun _ _ e => e)
  have hcl : ∀ W, Below W1.heap.size W1 W → ∀ i : Nat, i < s.R.length → Calls Try.prog 98 (#[.int .i64 i] ++ #[.pointer (some ⟨w.heap.size, 0, none⟩), .pointer (some ⟨w.heap.size + 1, 0, none⟩)]) W fun e w' => e = .returned (.bool (decide (h ≤ s.R.getD i 0))) ∧ Below W.heap.size W w' := fun W hb i hi => by
    have hCW : CtAt W cb A c s := hC1.keep (Keeps.ofBelow hb noF) (fun _ _ e => e)
    obtain ⟨g, e1, hx⟩ := hCW.at hi
    have hc := hCW.cells.2.1
    rw [e1] at hc
    have e0 : s.R.getD i 0 = s.R[i] := by simp [hi]
    rw [e0]
    exact add1_any w.heap.size (w.heap.size + 1) cb g i s.R.length c s.R[i] h W ((hb.cell (p := ⟨w.heap.size, 0, none⟩) (by show w.heap.size < _; omega)).trans c1) ((hb.cell (p := ⟨w.heap.size + 1, 0, none⟩) (by show w.heap.size + 1 < _; omega)).trans c2) hc hi hx
  have hkl : s.R.length ≤ 4096 := by have := hC.le; have := hC.k0; omega
  have hp := placeD_le s.R h
  have hse := search_any 98 #[.pointer (some ⟨w.heap.size, 0, none⟩), .pointer (some ⟨w.heap.size + 1, 0, none⟩)] s.R.length (fun i => decide (h ≤ s.R.getD i 0)) W1 enter_add1 (by omega) hcl (placeD s.R h) hp
    (fun t ht => by
      have htl : t < s.R.length := by omega
      have := placeD_iff hC.ris h t htl
      have e0 : s.R.getD t 0 = s.R[t] := by simp [htl]
      simp only [e0, decide_eq_false_iff_not]
      have := this.2 ht
      omega)
    (fun t ht htl => by
      have := placeD_iff hC.ris h t htl
      have e0 : s.R.getD t 0 = s.R[t] := by simp [htl]
      simp only [e0, decide_eq_true_eq]
      have h3 : ¬ s.R[t] < h := fun q => by have := this.1 q; omega
      omega)
  have HS := Lib.hid hse
  obtain ⟨d0, d1, d2, d3⟩ := hC1.cells
  have HC1 := Lib.hid hC1
  have HB := Lib.hid hb1
  have HC := Lib.hid hC
  have HE := Lib.hid hs1
  clear hse hcl hC hC1 hb1 hs1
  have e1 := c1
  have e2 := c2
  have e3 := d1
  rw [hW1] at e1 e2 e3
  go_enter Try.func65, Try.ntmps65
  go_wp2_with fail
  rw [← hW1]
  clear hW1 e1 e2 e3
  refine Calls.mono HS.out ?_
  rintro e w2 ⟨rfl, hb2⟩
  have hC2 : CtAt w2 cb A c s := HC1.out.keep (Keeps.ofBelow hb2 noF) (fun _ _ e => e)
  have hbw : Below w.heap.size w w2 := HB.out.trans (hb2.mono (by have := HE.out; omega))
  have c1 : w2.cell? ⟨w.heap.size, 0, none⟩ = some (.pointer (some ⟨cb, 0, none⟩)) := (hb2.cell (p := ⟨w.heap.size, 0, none⟩) (by show w.heap.size < _; have := HE.out; omega)).trans c1
  have c2 : w2.cell? ⟨w.heap.size + 1, 0, none⟩ = some (.int .u64 h) := (hb2.cell (p := ⟨w.heap.size + 1, 0, none⟩) (by show w.heap.size + 1 < _; have := HE.out; omega)).trans c2
  clear d0 d1 d2 d3 HS HC1 HE
  obtain ⟨d0, d1, d2, d3⟩ := hC2.cells
  have HC2 := Lib.hid hC2
  have HBW := Lib.hid hbw
  have HMP := Lib.hid (mem_place hC2.ris h)
  clear hC2 hbw hb2
  obtain ⟨k, hk⟩ : ∃ k, placeD s.R h = k := ⟨_, rfl⟩
  rw [hk] at hp
  have HK := Lib.hid hk
  rw [hk]
  clear hk
  obtain ⟨lb, hlb⟩ : ∃ lb : Bool, lb = decide (h ∈ s.R) := ⟨_, rfl⟩
  have HLB := Lib.hid hlb
  clear hlb
  obtain ⟨n, hn⟩ : ∃ n, s.R.length = n := ⟨_, rfl⟩
  have HN := Lib.hid hn
  rw [hn] at hp hkl d1 ⊢
  clear hn
  go_upto_region 2 with fail
  go_cut [30] (fun s30 wx => s30 = .bool lb ∧ ∃ m, wx = w2.drewN m)
  case first =>
    by_cases hk0 : k < n
    · obtain ⟨g, rfl, x2⟩ := HC2.out.at (show k < s.R.length by rw [HN.out]; exact hk0)
      have elb : lb = decide (s.R[k]'(by rw [HN.out]; exact hk0) = h) := by
        rw [HLB.out]
        refine decide_eq_decide.2 (HMP.out.trans ?_)
        have hpe := HK.out
        subst hpe
        exact ⟨fun ⟨_, e⟩ => e, fun e => ⟨by rw [HN.out]; exact hk0, e⟩⟩
      subst elb
      generalize (s.R[k]'(by rw [HN.out]; exact hk0)) = x at *
      clear HLB HMP HC2 HBW HC HB
      have p1 : (k : Int) < (n : Int) := by omega
      go_wp2_with fail
      go_quiet (fail)
      all_goals go_wp2_with fail
      all_goals go_meet
      all_goals exact ⟨by simp [int_beq], _, rfl⟩
    · have elb : lb = false := by
        rw [HLB.out]
        simp only [decide_eq_false_iff_not]
        rw [HMP.out]
        rintro ⟨q, -⟩
        rw [HK.out, HN.out] at q
        exact hk0 q
      subst elb
      clear HLB HMP HC2 HBW HC HB
      have p1 : ¬ (k : Int) < (n : Int) := by omega
      have p2 : decide ((k : Int) < (n : Int)) = false := by simpa using p1
      go_wp2_with fail
      go_quiet (fail)
      all_goals go_wp2_with fail
      all_goals go_meet
      all_goals exact ⟨rfl, _, rfl⟩
  case rest =>
    obtain ⟨rfl, md, hwx⟩ := hcut
    obtain ⟨wx, hwc⟩ : ∃ wx : World, wx = wc := ⟨_, rfl⟩
    rw [← hwc] at hwx ⊢
    clear hwc
    have hCx : CtAt wx cb A c s := by rw [hwx]; exact HC2.out.drewN md
    have hbx : Below w.heap.size w wx := by rw [hwx]; exact below_drewN HBW.out md
    have c1' : wx.cell? ⟨w.heap.size, 0, none⟩ = some (.pointer (some ⟨cb, 0, none⟩)) := by rw [hwx]; exact c1
    have c2' : wx.cell? ⟨w.heap.size + 1, 0, none⟩ = some (.int .u64 h) := by rw [hwx]; exact c2
    have HCX := Lib.hid hCx
    have HBX := Lib.hid hbx
    clear hwx hCx hbx c1 c2 d0 d1 d2 d3 HC2 HBW
    cases lb with
    | true =>
      have hm : h ∈ s.R := by have := HLB.out; simpa using this.symm
      have hfin : CtNew cb (ctFoot cb A) s (.bool false) w (.returned (.bool false)) wx := ⟨rfl, _, ⟨A, c, HCX.out, rfl⟩, Upd.stay HBX.out⟩
      have es : addS s h = s := by unfold addS; rw [if_pos hm]
      have eb : ctB s h = false := by unfold ctB isIn; simp [hm]
      have HF := Lib.hid hfin
      clear hfin
      go_wp2
      go_ret
      rw [es, eb]
      exact HF.out
    | false =>
      have hm : h ∉ s.R := by have := HLB.out; simpa using this.symm
      have HM := Lib.hid hm
      clear hm
      obtain ⟨d0, d1, d2, d3⟩ := HCX.out.cells
      rw [HN.out] at d1
      obtain ⟨kk, hkk⟩ : ∃ kk, s.k = kk := ⟨_, rfl⟩
      have HKK := Lib.hid hkk
      rw [hkk] at d0
      clear hkk
      by_cases hf : (n : Int) = kk
      · have hf2 : ((n : Int) == kk) = true := by simpa using hf
        go_wp2_with fail
        go_quiet (fail)
        have hC4 : CtAt (wx.drewN nq) cb A c s := HCX.out.drewN nq
        have hb4 : Below w.heap.size w (wx.drewN nq) := below_drewN HBX.out nq
        have k1 : (wx.drewN nq).cell? ⟨w.heap.size, 0, none⟩ = some (.pointer (some ⟨cb, 0, none⟩)) := c1'
        have k2 : (wx.drewN nq).cell? ⟨w.heap.size + 1, 0, none⟩ = some (.int .u64 h) := c2'
        clear c1' c2' d0 d1 d2 d3 HCX HBX
        generalize wx.drewN nq = W3 at *
        obtain ⟨hC6, hk6⟩ := hC4.more
        obtain ⟨W6, hW6⟩ : ∃ W6, W6 = W3.setCell ⟨cb, 2, none⟩ (.bool true) := ⟨_, rfl⟩
        rw [← hW6] at hC6 hk6
        have hcl := HC.out.foot_lt cb (.inl rfl)
        have z1 := World.block_lt_of_cell? _ _ k1
        have z2 := World.block_lt_of_cell? _ _ k2
        have k16 := (hk6.cell (p := ⟨w.heap.size, 0, none⟩) z1 (fun e => by simp only at e; omega)).trans k1
        have k26 := (hk6.cell (p := ⟨w.heap.size + 1, 0, none⟩) z2 (fun e => by simp only at e; omega)).trans k2
        have hu6 : Upd (ctFoot cb A) w (ctFoot cb A) W6 := (Upd.stay hb4).trans ⟨hk6.mono (fun _ _ e => .inl e), fun _ e => .inl e⟩
        obtain ⟨y0, y1, y2, y3⟩ := hC4.cells
        have v2 := y3 2
        rw [HKK.out] at y0
        rw [HN.out] at y1
        clear y3
        by_cases hkn : k = n
        · have es : addS s h = { s with more := true } := by
            unfold addS
            rw [if_neg HM.out, HN.out, HKK.out, if_pos hf, HK.out, if_pos (by rw [hkn]; exact hf)]
          have eb : ctB s h = false := by
            unfold ctB
            rw [HN.out, HKK.out, HK.out, hkn]
            simp [hf]
          have hfin : CtNew cb (ctFoot cb A) { s with more := true } (.bool false) w (.returned (.bool false)) W6 := ⟨rfl, _, ⟨A, c, hC6, rfl⟩, hu6⟩
          have HF := Lib.hid hfin
          have hk6e : (k : Int) = kk := by rw [hkn]; exact hf
          have hk6f : ((k : Int) == kk) = true := by simpa using hk6e
          obtain ⟨x0, x1, x2, x3⟩ := hC6.cells
          simp only [HKK.out, HN.out] at x0 x1
          clear hfin hC6 hk6 hu6 hC4 hb4 x2 x3 HMP HK HLB
          go_upto_region 6 with fail
          rw [← hW6]
          clear hW6 k1 k2 y0 y1 y2 v2
          go_wp2_with fail
          go_ret
          first | exact HF.out | (rw [es, eb]; exact HF.out)
        · have hkn2 : k < n := by omega
          obtain ⟨n2, hn2⟩ : ∃ n2, n = n2 + 1 := ⟨n - 1, by omega⟩
          have es : addS s h = { s with more := true, R := insD (s.R.take (s.R.length - 1)) k h } := by
            unfold addS
            rw [if_neg HM.out, HN.out, HKK.out, if_pos hf, HK.out, if_neg (by omega)]
          have eb : ctB s h = true := by
            have hm := HM.out
            unfold ctB isIn
            rw [HN.out, HKK.out, HK.out]
            have : ¬ (k : Int) = kk := by omega
            simp [hm, this]
          obtain ⟨hC8, hk8⟩ := hC6.cut n2 (show n2 < s.R.length by rw [HN.out]; omega)
          obtain ⟨W8, hW8⟩ : ∃ W8, W8 = W6.setCell ⟨cb, 1, none⟩ (.slice A n2 c) := ⟨_, rfl⟩
          rw [← hW8] at hC8 hk8
          obtain ⟨s2, hs2⟩ : ∃ s2 : CtS, s2 = { k := s.k, R := s.R.take n2, more := true } := ⟨_, rfl⟩
          have hC8' : CtAt W8 cb A c s2 := by rw [hs2]; exact hC8
          have z16 := World.block_lt_of_cell? _ _ k16
          have z26 := World.block_lt_of_cell? _ _ k26
          have k18 := (hk8.cell (p := ⟨w.heap.size, 0, none⟩) z16 (fun e => by simp only at e; omega)).trans k16
          have k28 := (hk8.cell (p := ⟨w.heap.size + 1, 0, none⟩) z26 (fun e => by simp only at e; omega)).trans k26
          have hu8 : Upd (ctFoot cb A) w (ctFoot cb A) W8 := hu6.trans ⟨hk8.mono (fun _ _ e => .inl e), fun _ e => .inl e⟩
          have es2 : addS s h = { s2 with R := insD s2.R k h } := by rw [es, hs2, HN.out, hn2]; rfl
          have hlt2 : s2.R.length = n2 := by rw [hs2]; simp only [List.length_take]; rw [HN.out]; omega
          have HN2 := Lib.hid hlt2
          have HKK2 : Hid (s2.k = kk) := Lib.hid (by rw [hs2]; exact HKK.out)
          have HM2 : Hid (h ∉ s2.R) := Lib.hid (by rw [hs2]; exact fun q => HM.out (List.mem_of_mem_take q))
          have HK2 : Hid (placeD s2.R h = k) := Lib.hid (by rw [hs2]; exact placeD_take HK.out (by omega))
          have hkl2 : n2 ≤ 4096 := by omega
          have hp2 : k ≤ n2 := by omega
          have hf3 : ¬ (n2 : Int) = kk := by omega
          obtain ⟨g, hAg⟩ : ∃ g, A = some ⟨g, 0, none⟩ := by
            obtain ⟨g, e, -⟩ := hC4.at (show 0 < s.R.length by rw [HN.out]; omega)
            exact ⟨g, e⟩
          have hcn : n ≤ c := by
            have := hC4.row
            rw [hAg, HN.out] at this
            obtain ⟨cur, -, -, h3, -⟩ := own_block this
            exact h3
          obtain ⟨x0, x1, x2, x3⟩ := hC6.cells
          simp only [HKK.out, HN.out] at x0 x1
          have v1 := x3 1
          have hC8 := hC8'
          have HC8 := Lib.hid hC8
          have HU8 := Lib.hid hu8
          have HK18 := Lib.hid k18
          have HK28 := Lib.hid k28
          clear hC8 hC8' hu8 k18 k28 hC4 hb4 hC6 hk6 hk8 hu6 HMP HK HLB es hs2 x2 x3
          go_upto_region 6 with fail
          rw [← hW6]
          clear hW6 k1 k2 y0 y1 y2 v2
          have w1 : IntKind.i64.wrap (kk - 1) = (n2 : Int) := by rw [IntKind.wrap_i64]; omega
          have w2' : wrap64 (kk - 1) = (n2 : Int) := by unfold wrap64; omega
          have hnk : ((k : Int) == kk) = false := by simp; omega
          have hnk2 : ¬ (k : Int) = kk := by omega
          have hn0 : (0 : Int) ≤ (n2 : Int) := by omega
          have hnc : (n2 : Int) ≤ (c : Int) := by omega
          have hnc2 : n2 ≤ c := by omega
          subst hAg
          go_upto_region 8 with fail
          have q8 : W6.drew.cell? ⟨w.heap.size, 0, none⟩ = some (.pointer (some ⟨cb, 0, none⟩)) ∧ W6.drew.cell? ⟨cb, 0, none⟩ = some (.int .i64 kk) ∧ W6.drew.cell? ⟨cb, 1, none⟩ = some (.slice (some ⟨g, 0, none⟩) n c) ∧ W6.drew.frozen? ⟨cb, 1, none⟩ = false := ⟨k16, x0, x1, v1⟩
          refine heldStart 13 (S := fun W => W.cell? ⟨w.heap.size, 0, none⟩ = some (.pointer (some ⟨cb, 0, none⟩)) ∧ W.cell? ⟨cb, 0, none⟩ = some (.int .i64 kk) ∧ W.cell? ⟨cb, 1, none⟩ = some (.slice (some ⟨g, 0, none⟩) n c) ∧ W.frozen? ⟨cb, 1, none⟩ = false) (by kernel_rfl) ?_ (fun hHeld => ?_)
          · exact q8
          refine heldTake 0 (v := ?_) (by simp only [List.getElem?_toArray, List.getElem?_cons_succ, List.getElem?_cons_zero]; rfl) (by kernel_rfl) (by intro _ _ _ h; exact h) (by rfl) (by assumption) ?_ ?_
          rotate_left
          · intro W hSw; (try dsimp only at hSw); go_simp; try with_reducible rfl
          simp only [Act.put, List.setIfInBounds_toArray, List.set_cons_zero, List.set_cons_succ]
          refine heldTake 1 (v := ?_) (by simp only [List.getElem?_toArray, List.getElem?_cons_succ, List.getElem?_cons_zero]; rfl) (by kernel_rfl) (by intro _ _ _ h; exact h) (by rfl) (by assumption) ?_ ?_
          rotate_left
          · intro W hSw; (try dsimp only at hSw); go_simp; try with_reducible rfl
          simp only [Act.put, List.setIfInBounds_toArray, List.set_cons_zero, List.set_cons_succ]
          refine heldTake 2 (v := ?_) (by simp only [List.getElem?_toArray, List.getElem?_cons_succ, List.getElem?_cons_zero]; rfl) (by kernel_rfl) (by intro _ _ _ h; exact h) (by rfl) (by assumption) ?_ ?_
          rotate_left
          · intro W hSw; (try dsimp only at hSw); go_simp; try with_reducible rfl
          simp only [Act.put, List.setIfInBounds_toArray, List.set_cons_zero, List.set_cons_succ]
          refine heldTake 3 (v := ?_) (by simp only [List.getElem?_toArray, List.getElem?_cons_succ, List.getElem?_cons_zero]; rfl) (by kernel_rfl) (by intro _ _ _ h; exact h) (by rfl) (by assumption) ?_ ?_
          rotate_left
          · intro W hSw; (try dsimp only at hSw); go_simp; try with_reducible rfl
          simp only [Act.put, List.setIfInBounds_toArray, List.set_cons_zero, List.set_cons_succ]
          refine heldTake 4 (v := ?_) (by simp only [List.getElem?_toArray, List.getElem?_cons_succ, List.getElem?_cons_zero]; rfl) (by kernel_rfl) (by intro _ _ _ h; exact h) (by rfl) (by assumption) ?_ ?_
          rotate_left
          · intro W hSw; (try dsimp only at hSw); go_simp; try with_reducible rfl
          simp only [Act.put, List.setIfInBounds_toArray, List.set_cons_zero, List.set_cons_succ]
          refine heldTake 5 (v := ?_) (by simp only [List.getElem?_toArray, List.getElem?_cons_succ, List.getElem?_cons_zero]; rfl) (by kernel_rfl) (by intro _ _ _ h; exact h) (by rfl) (by assumption) ?_ ?_
          rotate_left
          · intro W hSw; (try dsimp only at hSw); go_simp; try with_reducible rfl
          simp only [Act.put, List.setIfInBounds_toArray, List.set_cons_zero, List.set_cons_succ]
          refine heldTake 6 (v := ?_) (by simp only [List.getElem?_toArray, List.getElem?_cons_succ, List.getElem?_cons_zero]; rfl) (by kernel_rfl) (by intro _ _ _ h; exact h) (by rfl) (by assumption) ?_ ?_
          rotate_left
          · intro W hSw; (try dsimp only at hSw); go_simp; try with_reducible rfl
          simp only [Act.put, List.setIfInBounds_toArray, List.set_cons_zero, List.set_cons_succ]
          refine heldTake 7 (v := ?_) (by simp only [List.getElem?_toArray, List.getElem?_cons_succ, List.getElem?_cons_zero]; rfl) (by kernel_rfl) (by intro _ _ _ h; exact h) (by rfl) (by assumption) ?_ ?_
          rotate_left
          · intro W hSw; (try dsimp only at hSw); go_simp; try with_reducible rfl
          simp only [Act.put, List.setIfInBounds_toArray, List.set_cons_zero, List.set_cons_succ]
          refine heldTake 8 (v := ?_) (by simp only [List.getElem?_toArray, List.getElem?_cons_succ, List.getElem?_cons_zero]; rfl) (by kernel_rfl) (by intro _ _ _ h; exact h) (by rfl) (by assumption) ?_ ?_
          rotate_left
          · intro W hSw; (try dsimp only at hSw); go_simp; try with_reducible rfl
          simp only [Act.put, List.setIfInBounds_toArray, List.set_cons_zero, List.set_cons_succ]
          refine heldTake 9 (v := ?_) (by simp only [List.getElem?_toArray, List.getElem?_cons_succ, List.getElem?_cons_zero]; rfl) (by kernel_rfl) (by intro _ _ _ h; exact h) (by rfl) (by assumption) ?_ ?_
          rotate_left
          · intro W hSw; (try dsimp only at hSw); go_simp; try with_reducible rfl
          simp only [Act.put, List.setIfInBounds_toArray, List.set_cons_zero, List.set_cons_succ]
          refine heldTake 10 (v := ?_) (by simp only [List.getElem?_toArray, List.getElem?_cons_succ, List.getElem?_cons_zero]; rfl) (by kernel_rfl) (by intro _ _ _ h; exact h) (by rfl) (by assumption) ?_ ?_
          rotate_left
          · intro W hSw; (try dsimp only at hSw); go_simp; try with_reducible rfl
          simp only [Act.put, List.setIfInBounds_toArray, List.set_cons_zero, List.set_cons_succ]
          refine heldTake 11 (v := ?_) (by simp only [List.getElem?_toArray, List.getElem?_cons_succ, List.getElem?_cons_zero]; rfl) (by kernel_rfl) (by intro _ _ _ h; exact h) (by rfl) (by assumption) ?_ ?_
          rotate_left
          · intro W hSw; (try dsimp only at hSw); go_simp; try with_reducible rfl
          simp only [Act.put, List.setIfInBounds_toArray, List.set_cons_zero, List.set_cons_succ]
          refine heldTake 12 (v := ?_) (by simp only [List.getElem?_toArray, List.getElem?_cons_succ, List.getElem?_cons_zero]; rfl) (by kernel_rfl) (by intro _ _ _ h; exact h) (by rfl) (by assumption) ?_ ?_
          rotate_left
          · intro W hSw; (try dsimp only at hSw); go_simp; try with_reducible rfl
          simp only [Act.put, List.setIfInBounds_toArray, List.set_cons_zero, List.set_cons_succ]
          refine heldLast 13 (by simp only [List.getElem?_toArray, List.getElem?_cons_succ, List.getElem?_cons_zero]; rfl) (by kernel_rfl) rfl (fun K hK => ?_)
          go_simp
          refine hK.out _ _ ?_
          clear hK K
          (try simp only [Act.put, List.setIfInBounds_toArray, List.set_cons_zero, List.set_cons_succ])
          refine heldDone (by kernel_rfl) ?_ _
          have eW : (W6.setCell ⟨cb, 1, none⟩ (.slice (some ⟨g, 0, none⟩) n2 c)).drew = W8.drew := by rw [hW8]
          have hC4 : CtAt W8.drew cb (some ⟨g, 0, none⟩) c s2 := HC8.out.drewN 1
          have hb4 : Upd (ctFoot cb (some ⟨g, 0, none⟩)) w (ctFoot cb (some ⟨g, 0, none⟩)) W8.drew := ⟨HU8.out.keeps.drew, HU8.out.foot⟩
          have k1 : W8.drew.cell? ⟨w.heap.size, 0, none⟩ = some (.pointer (some ⟨cb, 0, none⟩)) := HK18.out
          have k2 : W8.drew.cell? ⟨w.heap.size + 1, 0, none⟩ = some (.int .u64 h) := HK28.out
          have es := es2
          rw [eW]
          clear hHeld q8 eW hW8 x0 x1 v1 HC8 HU8 HK18 HK28 es2
          generalize W8.drew = W4 at *
          obtain ⟨-, d1, -, d3⟩ := hC4.cells
          rw [HN2.out] at d1
          have f1 := d3 1
          clear d3
          have hrs : Rising (insD s2.R k h) := insAt_ris hC4.ris (by rw [HN2.out]; exact hp2) (fun t ht q => (placeD_iff hC4.ris h t ht).2 (by rw [HK2.out]; exact q)) (fun t ht q => place_lt hC4.ris HM2.out t ht (by rw [HK2.out]; exact q))
          have hln : (insD s2.R k h).length = n2 + 1 := by rw [insAt_len (by rw [HN2.out]; exact hp2), HN2.out]
          have hle : ((insD s2.R k h).length : Int) ≤ s2.k := by have := hC4.le; rw [hln]; rw [HN2.out, HKK2.out] at this; rw [HKK2.out]; omega
          have hbd : ∀ x ∈ insD s2.R k h, 0 ≤ x ∧ x ≤ 18446744073709551615 := fun x hx => by
            rcases mem_insAt.1 hx with rfl | hx
            · exact hh
            · exact hC4.bd x hx
          have hKW : Keeps noF W4 (W4.alloc (.cells #[.int .u64 h] 95)).drew := ((Keeps.refl noF W4).alloc _).drew
          have hC5 := hC4.keep hKW (fun _ _ e => e)
          have hvb : (W4.alloc (.cells #[.int .u64 h] 95)).drew.heap[W4.heap.size]? = some (.cells (urCells h).toArray 95 (0, 0)) := heap_alloc_new W4 _
          have hIns : ∀ vc, Calls Try.prog 99 #[.slice (some ⟨g, 0, none⟩) n2 c, .int .i64 k, .slice (some ⟨W4.heap.size, 0, none⟩) 1 vc] (W4.alloc (.cells #[.int .u64 h] 95)).drew (URowNew (W4.alloc (.cells #[.int .u64 h] 95)).drew 0 (Value.slice (some ⟨g, 0, none⟩) n2 c).ownBlock (insD s2.R k h)) := fun vc => by
            have := insD_any 0 (some ⟨g, 0, none⟩) c k s2.R h W4.heap.size vc 95 (W4.alloc (.cells #[.int .u64 h] 95)).drew hC5.row hvb (fun g e => by
              have := hC4.foot_lt _ (.inr ⟨g, e, rfl⟩)
              omega) (by rw [HN2.out]; exact hp2) (by rw [HN2.out]; omega) (Nat.zero_le _)
            rw [HN2.out] at this
            exact this
          have HI := Lib.hid hIns
          have hPUT : ∀ w2 g' c', URowAt w2 0 g' (insD s2.R k h).length c' (insD s2.R k h) → (W4.alloc (.cells #[.int .u64 h] 95)).drew.grownBy w2 (Value.slice (some ⟨g, 0, none⟩) n2 c).ownBlock → (some g' = (Value.slice (some ⟨g, 0, none⟩) n2 c).ownBlock ∨ (W4.alloc (.cells #[.int .u64 h] 95)).drew.heap.size ≤ g') →
              (w2.cell? ⟨cb, 1, none⟩ = some (.slice (some ⟨g, 0, none⟩) n2 c) ∧ w2.frozen? ⟨cb, 1, none⟩ = false ∧ w2.cell? ⟨w.heap.size, 0, none⟩ = some (.pointer (some ⟨cb, 0, none⟩)) ∧ w2.cell? ⟨w.heap.size + 1, 0, none⟩ = some (.int .u64 h)) ∧
                CtNew cb (ctFoot cb (some ⟨g, 0, none⟩)) { s2 with R := insD s2.R k h } (.bool true) w (.returned (.bool true)) (w2.setCell ⟨cb, 1, none⟩ (.slice (some ⟨g', 0, none⟩) (insD s2.R k h).length c')) := fun w2 g' c' hr hg hl => by
            have hlt := HC.out.foot_lt
            obtain ⟨y1, y2, y3, y4⟩ := hC4.put hKW hr (by rw [HN2.out]; exact hg) (by rw [HN2.out]; exact hl) hrs hle hbd
            rw [HN2.out] at y1
            have hkk : Keeps (fun k => some k = (Value.slice (some ⟨g, 0, none⟩) n2 c).ownBlock) W4 w2 := (hKW.mono (fun _ _ e => e.elim)).trans (Keeps.ofGrown hg) (fun k _ e => e)
            have hno : ∀ j, w.heap.size ≤ j → ¬ some j = (Value.slice (some ⟨g, 0, none⟩) n2 c).ownBlock := fun j hj e => by
              rw [← HN2.out] at e
              rcases HC.out.shape with ⟨e1, -⟩ | ⟨g, e1, hg⟩
              · rw [e1] at e; cases e
              · rw [e1] at e; injection e with e; have e3 : j = g := e; omega
            have z1 := World.block_lt_of_cell? _ _ k1
            have z2 := World.block_lt_of_cell? _ _ k2
            exact ⟨⟨y1, y2, (hkk.cell (p := ⟨w.heap.size, 0, none⟩) z1 (hno _ (Nat.le_refl _))).trans k1, (hkk.cell (p := ⟨w.heap.size + 1, 0, none⟩) z2 (hno _ (Nat.le_succ _))).trans k2⟩, rfl, _, ⟨_, _, y3, rfl⟩, hb4.trans y4⟩
          have HP := Lib.hid hPUT
          have HS4 := Lib.hid hC4
          have q0 : W4.drew.cell? ⟨w.heap.size, 0, none⟩ = some (.pointer (some ⟨cb, 0, none⟩)) ∧ W4.drew.cell? ⟨w.heap.size + 1, 0, none⟩ = some (.int .u64 h) ∧ W4.drew.cell? ⟨cb, 1, none⟩ = some (.slice (some ⟨g, 0, none⟩) n2 c) ∧ W4.drew.frozen? ⟨cb, 1, none⟩ = false := ⟨k1, k2, d1, f1⟩
          have z1 := World.block_lt_of_cell? _ _ k1
          have z2 := World.block_lt_of_cell? _ _ k2
          have z3 := World.block_lt_of_cell? _ _ d1
          have q1 : (W4.alloc (.cells #[.int .u64 h] 95)).drew.cell? ⟨w.heap.size, 0, none⟩ = some (.pointer (some ⟨cb, 0, none⟩)) ∧ (W4.alloc (.cells #[.int .u64 h] 95)).drew.cell? ⟨w.heap.size + 1, 0, none⟩ = some (.int .u64 h) ∧ (W4.alloc (.cells #[.int .u64 h] 95)).drew.cell? ⟨cb, 1, none⟩ = some (.slice (some ⟨g, 0, none⟩) n2 c) ∧ (W4.alloc (.cells #[.int .u64 h] 95)).drew.frozen? ⟨cb, 1, none⟩ = false :=
            ⟨(hKW.cell (p := ⟨w.heap.size, 0, none⟩) z1 id).trans k1, (hKW.cell (p := ⟨w.heap.size + 1, 0, none⟩) z2 id).trans k2, (hKW.cell (p := ⟨cb, 1, none⟩) z3 id).trans d1, (hKW.frozen (p := ⟨cb, 1, none⟩) z3 id).trans f1⟩
          clear hPUT hIns hvb hC5 hKW hbd hle hln hrs hC4 hb4 k1 k2 d1 f1 z1 z2 z3 HK2
          go_wp2_with fail
          refine heldStart 11 (S := fun W => W.cell? ⟨w.heap.size, 0, none⟩ = some (.pointer (some ⟨cb, 0, none⟩)) ∧ W.cell? ⟨w.heap.size + 1, 0, none⟩ = some (.int .u64 h) ∧ W.cell? ⟨cb, 1, none⟩ = some (.slice (some ⟨g, 0, none⟩) n2 c) ∧ W.frozen? ⟨cb, 1, none⟩ = false) (by kernel_rfl) ?_ (fun hHeld => ?_)
          · first | exact q0 | exact q1 | exact q2
          refine heldTake 0 (v := ?_) (by simp only [List.getElem?_toArray, List.getElem?_cons_succ, List.getElem?_cons_zero]; rfl) (by kernel_rfl) (by intro _ _ _ h; exact h) (by rfl) (by assumption) ?_ ?_
          rotate_left
          · intro W hSw; (try dsimp only at hSw); go_simp; try with_reducible rfl
          simp only [Act.put, List.setIfInBounds_toArray, List.set_cons_zero, List.set_cons_succ]
          refine heldTake 1 (v := ?_) (by simp only [List.getElem?_toArray, List.getElem?_cons_succ, List.getElem?_cons_zero]; rfl) (by kernel_rfl) (by intro _ _ _ h; exact h) (by rfl) (by assumption) ?_ ?_
          rotate_left
          · intro W hSw; (try dsimp only at hSw); go_simp; try with_reducible rfl
          simp only [Act.put, List.setIfInBounds_toArray, List.set_cons_zero, List.set_cons_succ]
          refine heldTake 2 (v := ?_) (by simp only [List.getElem?_toArray, List.getElem?_cons_succ, List.getElem?_cons_zero]; rfl) (by kernel_rfl) (by intro _ _ _ h; exact h) (by rfl) (by assumption) ?_ ?_
          rotate_left
          · intro W hSw; (try dsimp only at hSw); go_simp; try with_reducible rfl
          simp only [Act.put, List.setIfInBounds_toArray, List.set_cons_zero, List.set_cons_succ]
          refine heldTake 3 (v := ?_) (by simp only [List.getElem?_toArray, List.getElem?_cons_succ, List.getElem?_cons_zero]; rfl) (by kernel_rfl) (by intro _ _ _ h; exact h) (by rfl) (by assumption) ?_ ?_
          rotate_left
          · intro W hSw; (try dsimp only at hSw); go_simp; try with_reducible rfl
          simp only [Act.put, List.setIfInBounds_toArray, List.set_cons_zero, List.set_cons_succ]
          refine heldTake 4 (v := ?_) (by simp only [List.getElem?_toArray, List.getElem?_cons_succ, List.getElem?_cons_zero]; rfl) (by kernel_rfl) (by intro _ _ _ h; exact h) (by rfl) (by assumption) ?_ ?_
          rotate_left
          · intro W hSw; (try dsimp only at hSw); go_simp; try with_reducible rfl
          simp only [Act.put, List.setIfInBounds_toArray, List.set_cons_zero, List.set_cons_succ]
          refine heldTake 5 (v := ?_) (by simp only [List.getElem?_toArray, List.getElem?_cons_succ, List.getElem?_cons_zero]; rfl) (by kernel_rfl) (by intro _ _ _ h; exact h) (by rfl) (by assumption) ?_ ?_
          rotate_left
          · intro W hSw; (try dsimp only at hSw); go_simp; try with_reducible rfl
          simp only [Act.put, List.setIfInBounds_toArray, List.set_cons_zero, List.set_cons_succ]
          refine heldTake 6 (v := ?_) (by simp only [List.getElem?_toArray, List.getElem?_cons_succ, List.getElem?_cons_zero]; rfl) (by kernel_rfl) (by intro _ _ _ h; exact h) (by rfl) (by assumption) ?_ ?_
          rotate_left
          · intro W hSw; (try dsimp only at hSw); go_simp; try with_reducible rfl
          simp only [Act.put, List.setIfInBounds_toArray, List.set_cons_zero, List.set_cons_succ]
          refine heldCall 7 (by simp only [List.getElem?_toArray, List.getElem?_cons_succ, List.getElem?_cons_zero]; rfl) (by kernel_rfl) (fun K hK => ?_)
          go_simp
          refine hK.out _ _ ?_ (fun hHeld => ?_)
          · first | exact q0 | exact q1 | exact q2
          clear hK K
          (try simp only [Act.put, List.setIfInBounds_toArray, List.set_cons_zero, List.set_cons_succ])
          refine heldCall 8 (by simp only [List.getElem?_toArray, List.getElem?_cons_succ, List.getElem?_cons_zero]; rfl) (by kernel_rfl) (fun K hK => ?_)
          go_simp
          refine (HI.out _).mono ?_
          rintro e w5 ⟨g', c', rfl, hrow, hgr, hgg⟩
          obtain ⟨⟨m1, m2, m3, m4⟩, hPN⟩ := HP.out w5 g' c' hrow hgr hgg
          have q2 : w5.cell? ⟨w.heap.size, 0, none⟩ = some (.pointer (some ⟨cb, 0, none⟩)) ∧ w5.cell? ⟨w.heap.size + 1, 0, none⟩ = some (.int .u64 h) ∧ w5.cell? ⟨cb, 1, none⟩ = some (.slice (some ⟨g, 0, none⟩) n2 c) ∧ w5.frozen? ⟨cb, 1, none⟩ = false := ⟨m3, m4, m1, m2⟩
          have HPN := Lib.hid hPN
          clear hPN hrow hgr hgg
          go_wp2_with fail
          refine hK.out _ _ ?_ (fun hHeld => ?_)
          · first | exact q0 | exact q1 | exact q2
          clear hK K
          (try simp only [Act.put, List.setIfInBounds_toArray, List.set_cons_zero, List.set_cons_succ])
          refine heldTake 9 (v := ?_) (by simp only [List.getElem?_toArray, List.getElem?_cons_succ, List.getElem?_cons_zero]; rfl) (by kernel_rfl) (by intro _ _ _ h; exact h) (by rfl) (by assumption) ?_ ?_
          rotate_left
          · intro W hSw; (try dsimp only at hSw); go_simp; try with_reducible rfl
          simp only [Act.put, List.setIfInBounds_toArray, List.set_cons_zero, List.set_cons_succ]
          refine heldTake 10 (v := ?_) (by simp only [List.getElem?_toArray, List.getElem?_cons_succ, List.getElem?_cons_zero]; rfl) (by kernel_rfl) (by intro _ _ _ h; exact h) (by rfl) (by assumption) ?_ ?_
          rotate_left
          · intro W hSw; (try dsimp only at hSw); go_simp; try with_reducible rfl
          simp only [Act.put, List.setIfInBounds_toArray, List.set_cons_zero, List.set_cons_succ]
          refine heldLast 11 (by simp only [List.getElem?_toArray, List.getElem?_cons_succ, List.getElem?_cons_zero]; rfl) (by kernel_rfl) rfl (fun K hK => ?_)
          go_simp
          refine hK.out _ _ ?_
          clear hK K
          (try simp only [Act.put, List.setIfInBounds_toArray, List.set_cons_zero, List.set_cons_succ])
          refine heldDone (by kernel_rfl) ?_ _
          go_wp2
          go_ret
          rw [es, eb]
          exact HPN.out
      · have hf2 : ((n : Int) == kk) = false := by simpa using hf
        have es : addS s h = { s with R := insD s.R k h } := by
          unfold addS
          rw [if_neg HM.out, HN.out, HKK.out, if_neg hf, HK.out]
        have eb : ctB s h = true := by
          have hm := HM.out
          unfold ctB isIn
          rw [HN.out, HKK.out]
          simp [hm, hf]
        go_wp2_with fail
        go_quiet (fail)
        have hC4 : CtAt (wx.drewN nq) cb A c s := HCX.out.drewN nq
        have hb4 : Below w.heap.size w (wx.drewN nq) := below_drewN HBX.out nq
        have k1 : (wx.drewN nq).cell? ⟨w.heap.size, 0, none⟩ = some (.pointer (some ⟨cb, 0, none⟩)) := c1'
        have k2 : (wx.drewN nq).cell? ⟨w.heap.size + 1, 0, none⟩ = some (.int .u64 h) := c2'
        clear c1' c2' d0 d1 d2 d3 HCX HBX
        generalize wx.drewN nq = W4 at *
        obtain ⟨-, d1, -, d3⟩ := hC4.cells
        rw [HN.out] at d1
        have f1 := d3 1
        clear d3
        have hrs : Rising (insD s.R k h) := insAt_ris hC4.ris (by rw [HN.out]; exact hp) (fun t ht q => (placeD_iff hC4.ris h t ht).2 (by rw [HK.out]; exact q)) (fun t ht q => place_lt hC4.ris HM.out t ht (by rw [HK.out]; exact q))
        have hln : (insD s.R k h).length = n + 1 := by rw [insAt_len (by rw [HN.out]; exact hp), HN.out]
        have hle : ((insD s.R k h).length : Int) ≤ s.k := by have := hC4.le; rw [hln]; rw [HN.out, HKK.out] at this; rw [HKK.out]; omega
        have hbd : ∀ x ∈ insD s.R k h, 0 ≤ x ∧ x ≤ 18446744073709551615 := fun x hx => by
          rcases mem_insAt.1 hx with rfl | hx
          · exact hh
          · exact hC4.bd x hx
        have hKW : Keeps noF W4 (W4.alloc (.cells #[.int .u64 h] 95)).drew := ((Keeps.refl noF W4).alloc _).drew
        have hC5 := hC4.keep hKW (fun _ _ e => e)
        have hvb : (W4.alloc (.cells #[.int .u64 h] 95)).drew.heap[W4.heap.size]? = some (.cells (urCells h).toArray 95 (0, 0)) := heap_alloc_new W4 _
        have hIns : ∀ vc, Calls Try.prog 99 #[.slice A n c, .int .i64 k, .slice (some ⟨W4.heap.size, 0, none⟩) 1 vc] (W4.alloc (.cells #[.int .u64 h] 95)).drew (URowNew (W4.alloc (.cells #[.int .u64 h] 95)).drew 0 (Value.slice A n c).ownBlock (insD s.R k h)) := fun vc => by
          have := insD_any 0 A c k s.R h W4.heap.size vc 95 (W4.alloc (.cells #[.int .u64 h] 95)).drew hC5.row hvb (fun g e => by
            have := hC4.foot_lt _ (.inr ⟨g, e, rfl⟩)
            omega) (by rw [HN.out]; exact hp) (by rw [HN.out]; omega) (Nat.zero_le _)
          rw [HN.out] at this
          exact this
        have HI := Lib.hid hIns
        have hPUT : ∀ w2 g' c', URowAt w2 0 g' (insD s.R k h).length c' (insD s.R k h) → (W4.alloc (.cells #[.int .u64 h] 95)).drew.grownBy w2 (Value.slice A n c).ownBlock → (some g' = (Value.slice A n c).ownBlock ∨ (W4.alloc (.cells #[.int .u64 h] 95)).drew.heap.size ≤ g') →
            (w2.cell? ⟨cb, 1, none⟩ = some (.slice A n c) ∧ w2.frozen? ⟨cb, 1, none⟩ = false ∧ w2.cell? ⟨w.heap.size, 0, none⟩ = some (.pointer (some ⟨cb, 0, none⟩)) ∧ w2.cell? ⟨w.heap.size + 1, 0, none⟩ = some (.int .u64 h)) ∧
              CtNew cb (ctFoot cb A) { s with R := insD s.R k h } (.bool true) w (.returned (.bool true)) (w2.setCell ⟨cb, 1, none⟩ (.slice (some ⟨g', 0, none⟩) (insD s.R k h).length c')) := fun w2 g' c' hr hg hl => by
          have hlt := HC.out.foot_lt
          obtain ⟨y1, y2, y3, y4⟩ := hC4.put hKW hr (by rw [HN.out]; exact hg) (by rw [HN.out]; exact hl) hrs hle hbd
          rw [HN.out] at y1
          have hkk : Keeps (fun k => some k = (Value.slice A n c).ownBlock) W4 w2 := (hKW.mono (fun _ _ e => e.elim)).trans (Keeps.ofGrown hg) (fun k _ e => e)
          have hno : ∀ j, w.heap.size ≤ j → ¬ some j = (Value.slice A n c).ownBlock := fun j hj e => by
            rw [← HN.out] at e
            rcases HC.out.shape with ⟨e1, -⟩ | ⟨g, e1, hg⟩
            · rw [e1] at e; cases e
            · rw [e1] at e; injection e with e; have e3 : j = g := e; omega
          have z1 := World.block_lt_of_cell? _ _ k1
          have z2 := World.block_lt_of_cell? _ _ k2
          exact ⟨⟨y1, y2, (hkk.cell (p := ⟨w.heap.size, 0, none⟩) z1 (hno _ (Nat.le_refl _))).trans k1, (hkk.cell (p := ⟨w.heap.size + 1, 0, none⟩) z2 (hno _ (Nat.le_succ _))).trans k2⟩, rfl, _, ⟨_, _, y3, rfl⟩, (Upd.stay hb4).trans y4⟩
        have HP := Lib.hid hPUT
        have HS4 := Lib.hid hC4
        have q0 : W4.drew.cell? ⟨w.heap.size, 0, none⟩ = some (.pointer (some ⟨cb, 0, none⟩)) ∧ W4.drew.cell? ⟨w.heap.size + 1, 0, none⟩ = some (.int .u64 h) ∧ W4.drew.cell? ⟨cb, 1, none⟩ = some (.slice A n c) ∧ W4.drew.frozen? ⟨cb, 1, none⟩ = false := ⟨k1, k2, d1, f1⟩
        have z1 := World.block_lt_of_cell? _ _ k1
        have z2 := World.block_lt_of_cell? _ _ k2
        have z3 := World.block_lt_of_cell? _ _ d1
        have q1 : (W4.alloc (.cells #[.int .u64 h] 95)).drew.cell? ⟨w.heap.size, 0, none⟩ = some (.pointer (some ⟨cb, 0, none⟩)) ∧ (W4.alloc (.cells #[.int .u64 h] 95)).drew.cell? ⟨w.heap.size + 1, 0, none⟩ = some (.int .u64 h) ∧ (W4.alloc (.cells #[.int .u64 h] 95)).drew.cell? ⟨cb, 1, none⟩ = some (.slice A n c) ∧ (W4.alloc (.cells #[.int .u64 h] 95)).drew.frozen? ⟨cb, 1, none⟩ = false :=
          ⟨(hKW.cell (p := ⟨w.heap.size, 0, none⟩) z1 id).trans k1, (hKW.cell (p := ⟨w.heap.size + 1, 0, none⟩) z2 id).trans k2, (hKW.cell (p := ⟨cb, 1, none⟩) z3 id).trans d1, (hKW.frozen (p := ⟨cb, 1, none⟩) z3 id).trans f1⟩
        clear hPUT hIns hvb hC5 hKW hbd hle hln hrs hC4 hb4 k1 k2 d1 f1 z1 z2 z3 HMP HK HLB
        go_wp2_with fail
        refine heldStart 11 (S := fun W => W.cell? ⟨w.heap.size, 0, none⟩ = some (.pointer (some ⟨cb, 0, none⟩)) ∧ W.cell? ⟨w.heap.size + 1, 0, none⟩ = some (.int .u64 h) ∧ W.cell? ⟨cb, 1, none⟩ = some (.slice A n c) ∧ W.frozen? ⟨cb, 1, none⟩ = false) (by kernel_rfl) ?_ (fun hHeld => ?_)
        · first | exact q0 | exact q1 | exact q2
        refine heldTake 0 (v := ?_) (by simp only [List.getElem?_toArray, List.getElem?_cons_succ, List.getElem?_cons_zero]; rfl) (by kernel_rfl) (by intro _ _ _ h; exact h) (by rfl) (by assumption) ?_ ?_
        rotate_left
        · intro W hSw; (try dsimp only at hSw); go_simp; try with_reducible rfl
        simp only [Act.put, List.setIfInBounds_toArray, List.set_cons_zero, List.set_cons_succ]
        refine heldTake 1 (v := ?_) (by simp only [List.getElem?_toArray, List.getElem?_cons_succ, List.getElem?_cons_zero]; rfl) (by kernel_rfl) (by intro _ _ _ h; exact h) (by rfl) (by assumption) ?_ ?_
        rotate_left
        · intro W hSw; (try dsimp only at hSw); go_simp; try with_reducible rfl
        simp only [Act.put, List.setIfInBounds_toArray, List.set_cons_zero, List.set_cons_succ]
        refine heldTake 2 (v := ?_) (by simp only [List.getElem?_toArray, List.getElem?_cons_succ, List.getElem?_cons_zero]; rfl) (by kernel_rfl) (by intro _ _ _ h; exact h) (by rfl) (by assumption) ?_ ?_
        rotate_left
        · intro W hSw; (try dsimp only at hSw); go_simp; try with_reducible rfl
        simp only [Act.put, List.setIfInBounds_toArray, List.set_cons_zero, List.set_cons_succ]
        refine heldTake 3 (v := ?_) (by simp only [List.getElem?_toArray, List.getElem?_cons_succ, List.getElem?_cons_zero]; rfl) (by kernel_rfl) (by intro _ _ _ h; exact h) (by rfl) (by assumption) ?_ ?_
        rotate_left
        · intro W hSw; (try dsimp only at hSw); go_simp; try with_reducible rfl
        simp only [Act.put, List.setIfInBounds_toArray, List.set_cons_zero, List.set_cons_succ]
        refine heldTake 4 (v := ?_) (by simp only [List.getElem?_toArray, List.getElem?_cons_succ, List.getElem?_cons_zero]; rfl) (by kernel_rfl) (by intro _ _ _ h; exact h) (by rfl) (by assumption) ?_ ?_
        rotate_left
        · intro W hSw; (try dsimp only at hSw); go_simp; try with_reducible rfl
        simp only [Act.put, List.setIfInBounds_toArray, List.set_cons_zero, List.set_cons_succ]
        refine heldTake 5 (v := ?_) (by simp only [List.getElem?_toArray, List.getElem?_cons_succ, List.getElem?_cons_zero]; rfl) (by kernel_rfl) (by intro _ _ _ h; exact h) (by rfl) (by assumption) ?_ ?_
        rotate_left
        · intro W hSw; (try dsimp only at hSw); go_simp; try with_reducible rfl
        simp only [Act.put, List.setIfInBounds_toArray, List.set_cons_zero, List.set_cons_succ]
        refine heldTake 6 (v := ?_) (by simp only [List.getElem?_toArray, List.getElem?_cons_succ, List.getElem?_cons_zero]; rfl) (by kernel_rfl) (by intro _ _ _ h; exact h) (by rfl) (by assumption) ?_ ?_
        rotate_left
        · intro W hSw; (try dsimp only at hSw); go_simp; try with_reducible rfl
        simp only [Act.put, List.setIfInBounds_toArray, List.set_cons_zero, List.set_cons_succ]
        refine heldCall 7 (by simp only [List.getElem?_toArray, List.getElem?_cons_succ, List.getElem?_cons_zero]; rfl) (by kernel_rfl) (fun K hK => ?_)
        go_simp
        refine hK.out _ _ ?_ (fun hHeld => ?_)
        · first | exact q0 | exact q1 | exact q2
        clear hK K
        (try simp only [Act.put, List.setIfInBounds_toArray, List.set_cons_zero, List.set_cons_succ])
        refine heldCall 8 (by simp only [List.getElem?_toArray, List.getElem?_cons_succ, List.getElem?_cons_zero]; rfl) (by kernel_rfl) (fun K hK => ?_)
        go_simp
        refine (HI.out _).mono ?_
        rintro e w5 ⟨g', c', rfl, hrow, hgr, hgg⟩
        obtain ⟨⟨m1, m2, m3, m4⟩, hPN⟩ := HP.out w5 g' c' hrow hgr hgg
        have q2 : w5.cell? ⟨w.heap.size, 0, none⟩ = some (.pointer (some ⟨cb, 0, none⟩)) ∧ w5.cell? ⟨w.heap.size + 1, 0, none⟩ = some (.int .u64 h) ∧ w5.cell? ⟨cb, 1, none⟩ = some (.slice A n c) ∧ w5.frozen? ⟨cb, 1, none⟩ = false := ⟨m3, m4, m1, m2⟩
        have HPN := Lib.hid hPN
        clear hPN hrow hgr hgg
        go_wp2_with fail
        refine hK.out _ _ ?_ (fun hHeld => ?_)
        · first | exact q0 | exact q1 | exact q2
        clear hK K
        (try simp only [Act.put, List.setIfInBounds_toArray, List.set_cons_zero, List.set_cons_succ])
        refine heldTake 9 (v := ?_) (by simp only [List.getElem?_toArray, List.getElem?_cons_succ, List.getElem?_cons_zero]; rfl) (by kernel_rfl) (by intro _ _ _ h; exact h) (by rfl) (by assumption) ?_ ?_
        rotate_left
        · intro W hSw; (try dsimp only at hSw); go_simp; try with_reducible rfl
        simp only [Act.put, List.setIfInBounds_toArray, List.set_cons_zero, List.set_cons_succ]
        refine heldTake 10 (v := ?_) (by simp only [List.getElem?_toArray, List.getElem?_cons_succ, List.getElem?_cons_zero]; rfl) (by kernel_rfl) (by intro _ _ _ h; exact h) (by rfl) (by assumption) ?_ ?_
        rotate_left
        · intro W hSw; (try dsimp only at hSw); go_simp; try with_reducible rfl
        simp only [Act.put, List.setIfInBounds_toArray, List.set_cons_zero, List.set_cons_succ]
        refine heldLast 11 (by simp only [List.getElem?_toArray, List.getElem?_cons_succ, List.getElem?_cons_zero]; rfl) (by kernel_rfl) rfl (fun K hK => ?_)
        go_simp
        refine hK.out _ _ ?_
        clear hK K
        (try simp only [Act.put, List.setIfInBounds_toArray, List.set_cons_zero, List.set_cons_succ])
        refine heldDone (by kernel_rfl) ?_ _
        go_wp2
        go_ret
        rw [es, eb]
        exact HPN.out
end Go.Proofs.Ytmigjlceogofaaa
