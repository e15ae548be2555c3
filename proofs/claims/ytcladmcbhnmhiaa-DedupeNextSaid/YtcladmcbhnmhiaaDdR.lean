/- Walk of DedupeNext. -/
import Derived.Test.YtcladmcbhnmhiaaDdQ
namespace Go.Proofs.Ytcladmcbhnmhiaa
open Go.ChangeShapes Go.WideShapes Go.ChangeAt Go.RowKit Go.Shelf Go.Lib Go.Sort Go.Proofs
set_option linter.unusedVariables false
set_option linter.unusedSimpArgs false

theorem RowOk.next {R : List Rg} (h : RowOk 0 R) : 1 ≤ nextR R ∧ ¬ memR R (nextR R) ∧ ∀ m, 1 ≤ m → m < nextR R → memR R m := by
  cases R with
  | nil => exact ⟨by decide, memR_nil _, fun m h1 h2 => by simp [nextR] at h2; omega⟩
  | cons r R =>
    obtain ⟨h1, h2, h3⟩ := h
    by_cases hr : 1 < r.1
    · have e : nextR (r :: R) = 1 := by simp [nextR, hr]
      rw [e]
      refine ⟨Int.le_refl _, fun q => ?_, fun m a b => by omega⟩
      rcases (memR_cons _ _ _).1 q with q | q
      · omega
      · have := h3.memR_gt q; omega
    · have e : nextR (r :: R) = r.2 := by simp [nextR, hr]
      rw [e]
      refine ⟨by omega, fun q => ?_, fun m a b => (memR_cons _ _ _).2 (.inl ⟨by omega, b⟩)⟩
      rcases (memR_cons _ _ _).1 q with q | q
      · omega
      · have := h3.memR_gt q; omega
theorem next_put {R : List Rg} (h : RowOk 0 R) : nextR R + 1 ≤ nextR (putR R (nextR R)) := by
  obtain ⟨h1, h2, h3⟩ := h.next
  obtain ⟨p1, p2⟩ := putR_ok h h1 h2
  obtain ⟨q1, q2, -⟩ := p1.next
  rcases Int.lt_or_le (nextR R) (nextR (putR R (nextR R))) with q | q
  · omega
  · exfalso
    rcases Int.lt_or_le (nextR (putR R (nextR R))) (nextR R) with z | z
    · exact q2 ((p2 _).2 (.inl (h3 _ q1 z)))
    · exact q2 ((p2 _).2 (.inr (by omega)))
/-- What is full up to its greatest is one range. -/
theorem next_full {R : List Rg} {M : Int} (h : RowOk 0 R) (hb : ∀ m, memR R m → m ≤ M) (hM : 0 < M → memR R M) (hn : M < nextR R) (h0 : 0 ≤ M) : (M = 0 ∧ R = []) ∨ (0 < M ∧ R = [(1, M + 1)]) := by
  obtain ⟨h1, h2, h3⟩ := h.next
  rcases Int.lt_or_le 0 M with q | q
  · refine .inr ⟨q, ?_⟩
    have hR : RowOk 0 [((1 : Int), M + 1)] := ⟨by show (0 : Int) < 1; omega, by show (1 : Int) < M + 1; omega, trivial⟩
    refine h.unique hR (fun m => ?_)
    constructor
    · intro hm
      have := hb m hm
      have := h.memR_gt hm
      exact ⟨_, List.mem_singleton.2 rfl, by show (1 : Int) ≤ m; omega, by show m < M + 1; omega⟩
    · rintro ⟨r, hr, a, b⟩
      simp at hr
      subst hr
      simp only at a b
      exact h3 m a (by omega)
  · refine .inl ⟨by omega, ?_⟩
    cases R with
    | nil => rfl
    | cons r R =>
      have := h.2.1
      have := h.1
      have := hb r.1 ⟨r, List.mem_cons_self, by omega, by omega⟩
      omega
theorem SetObj.ok {w : World} {sb : Nat} {G : Nat → Prop} {F : RowsF} (h : SetObj w sb G F) (k : ByteArray) : RowOk 0 (F k) := by
  obtain ⟨mb, D, h1, -⟩ := h
  exact h1.ok k
/-- The greatest of a rising row. -/
theorem last_max {l : List Int} (h : l.Pairwise (· < ·)) (hn : 0 < l.length) : (l[l.length - 1]'(by omega)) ∈ l ∧ ∀ m ∈ l, m ≤ l[l.length - 1]'(by omega) := by
  refine ⟨List.getElem_mem _, fun m hm => ?_⟩
  obtain ⟨j, hj, rfl⟩ := List.getElem_of_mem hm
  rcases Nat.lt_or_ge j (l.length - 1) with q | q
  · have := List.pairwise_iff_getElem.1 h j (l.length - 1) hj (by omega) q
    omega
  · have : j = l.length - 1 := by omega
    subst this
    exact Int.le_refl _
def NextInv (F : RowsF) (key : ByteArray) (M : Int) : Prop := (∀ m, memR (F key) m → m ≤ M) ∧ (0 < M → memR (F key) M)
theorem NextInv.put {F : RowsF} {key : ByteArray} {M : Int} (h : NextInv F key M) (hok : RowOk 0 (F key)) (hk : nameB key = true) (hn : nextR (F key) ≤ M) (hM : M ≤ 200) : putB F key (nextR (F key)) = true ∧ NextInv (putF F key (nextR (F key))) key M ∧ nextR (F key) + 1 ≤ nextR (putF F key (nextR (F key)) key) ∧ (putF F key (nextR (F key)) key).length ≤ (F key).length + 1 := by
  obtain ⟨h1, h2, h3⟩ := hok.next
  have hb : putB F key (nextR (F key)) = true := (putB_iff _ _ _).2 ⟨⟨hk, h1, by show nextR (F key) ≤ _; omega⟩, h2⟩
  have e : putF F key (nextR (F key)) key = putR (F key) (nextR (F key)) := by unfold putF updF; rw [if_pos hb, if_pos rfl]
  obtain ⟨p1, p2⟩ := putR_ok hok h1 h2
  refine ⟨hb, ⟨fun m hm => ?_, fun h0 => ?_⟩, ?_, ?_⟩
  · rw [e] at hm
    rcases (p2 m).1 hm with q | q
    · exact h.1 m q
    · omega
  · rw [e]; exact (p2 _).2 (.inl (h.2 h0))
  · rw [e]; exact next_put hok
  · rw [e]; exact putR_len _ _

set_option maxHeartbeats 16000000 in
set_option maxRecDepth 100000 in
theorem next_walk (A : Option Addr) (c : Nat) (l : List OpD) (key : ByteArray) (w : World) (h : OpsAt w w.heap.size A l) (hl : (l.length : Int) ≤ 9223372036854775807) (hkz : key.size ≤ maxLen) :
    Calls Try.prog 4 #[.slice A l.length c, .string key] w fun e w' => e = .returned (.bool true) ∧ Below w.heap.size w w' := by
  have HL := Lib.hid h
  clear h
  obtain ⟨nb, hnb⟩ : ∃ nb, nb = nameB key := ⟨_, rfl⟩
  have HNB := Lib.hid hnb
  clear hnb
  go_enter Try.func4, Try.ntmps4
  go_wp2_with fail
  refine Calls.mono (long_any A c l w HL.out hl) ?_
  rintro e w1 ⟨lb, rfl, hlong, hb1⟩
  have HB1 := Lib.hid hb1
  have HLG := Lib.hid hlong
  clear hb1 hlong
  have hgo : Calls Try.prog 11 #[] w1 fun e w' => e = .returned (.bool true) ∧ Below w.heap.size w w' := (awake_any w1).mono (by
    rintro e w2 ⟨rfl, hb2⟩
    exact ⟨rfl, HB1.out.trans (hb2.mono HB1.out.size)⟩)
  have HGO := Lib.hid hgo
  clear hgo
  cases lb with
  | true =>
    go_wp2_with fail
    refine Calls.mono HGO.out ?_
    rintro e w2 ⟨rfl, hb2⟩
    have HB2 := Lib.hid hb2
    clear hb2
    go_wp2
    go_ret
    exact ⟨rfl, HB2.out⟩
  | false =>
  obtain ⟨h80, -⟩ := HLG.out rfl
  have hrn := rname07_any key w1 hkz
  rw [← HNB.out] at hrn
  have HRN := Lib.hid hrn
  clear hrn
  go_wp2_with fail
  refine Calls.mono HRN.out ?_
  rintro e w1' ⟨rfl, rfl⟩
  cases nb with
  | false =>
    go_wp2_with fail
    refine Calls.mono HGO.out ?_
    rintro e w2 ⟨rfl, hb2⟩
    have HB2 := Lib.hid hb2
    clear hb2
    go_wp2
    go_ret
    exact ⟨rfl, HB2.out⟩
  | true =>
  go_wp2_with fail
  refine Calls.mono (fill_any A c w.heap.size l w1 (HL.out.below HB1.out) HB1.out.size (by omega)) ?_
  rintro e w2 ⟨sb, A2, c2, xs, G, H, rfl, hO, hS, hX, -, hG, -, hb2⟩
  have hB2 : Below w.heap.size w w2 := HB1.out.trans (hb2.mono HB1.out.size)
  have hG2 : ∀ q, G q → w.heap.size ≤ q := fun q hq => Nat.le_trans HB1.out.size (hG q hq)
  have hF := foldF_ok l
  have hXo := foldX_ok l
  rw [← hX] at hXo
  obtain ⟨nu, nl, nll⟩ := names_of hX
  have hat := rat07_any A2 c2 w2.heap.size xs key w2 hS.at_ (by omega)
  have hcase := atP_cases xs key
  -- the greatest number of the source
  have hmost : ∃ M : Int, 0 ≤ M ∧ NextInv (foldF l) key M ∧ ((atP xs key = -1 ∧ M = 0) ∨ ∃ i : Nat, ∃ h : i < xs.length, atP xs key = i ∧ 0 < xs[i].l.length ∧ xs[i].l[xs[i].l.length - 1]? = some M) := by
    rcases hcase with ⟨e1, hno⟩ | ⟨i, hi, e1, he, -⟩
    · refine ⟨0, Int.le_refl _, ⟨fun m hm => ?_, fun h => absurd h (by omega)⟩, .inl ⟨e1, rfl⟩⟩
      exact absurd ((hXo.mem key m).2 hm) (hasX_none hno m)
    · have hup := hXo.ups (plS xs[i]) (List.mem_map.2 ⟨_, List.getElem_mem hi, rfl⟩)
      have hpos : 0 < xs[i].l.length := List.length_pos_iff.2 hup.2
      obtain ⟨m1, m2⟩ := last_max hup.1 hpos
      have hmem : ∀ m, memR (foldF l key) m ↔ m ∈ xs[i].l := fun m => by rw [← hXo.mem key m, ← he]; exact hasX_at nu hi m
      have hgt := (hF.ok key).memR_gt ((hmem _).2 m1)
      refine ⟨_, Int.le_of_lt hgt, ⟨fun m hm => m2 m ((hmem m).1 hm), fun _ => (hmem _).2 m1⟩, .inr ⟨i, hi, e1, hpos, List.getElem?_eq_getElem (by omega)⟩⟩
  obtain ⟨M, hM0, hNI, hMc⟩ := hmost
  have hlen0 := hF.len key
  have HO := Lib.hid hO
  have HS := Lib.hid hS
  have HB2 := Lib.hid hB2
  have HG2 := Lib.hid hG2
  have HAT := Lib.hid hat
  have HNI := Lib.hid hNI
  have HLL := Lib.hid nll
  have HLEN := Lib.hid hlen0
  clear hO hS hB2 hG2 hat hNI hcase hX hXo hG hb2 hF nu nll hlen0
  go_wp2_with fail
  refine Calls.mono HAT.out ?_
  rintro e w2' ⟨rfl, rfl⟩
  generalize foldF l = F at *
  have hatr : -1 ≤ atP xs key ∧ atP xs key ≤ 1000 := by
    rcases hMc with ⟨e1, -⟩ | ⟨i, hi, e1, -, -⟩
    · omega
    · omega
  generalize atP xs key = av at *
  go_upto_if 30 with fail
  go_cut [7] (fun s7 wx => s7 = .int .i64 M ∧ Below w2.heap.size w2 wx)
  case first =>
    rcases hMc with ⟨e1, e2⟩ | ⟨i, hi, e1, hpos, e2⟩
    · subst e2
      have hav : av < 0 := by omega
      have hav2 : ¬ 0 ≤ av := by omega
      clear hatr e1
      go_wp2_with fail
      go_meet
      exact ⟨rfl, Below.refl _ _⟩
    · subst e1
      obtain ⟨b, o, rfl, hb, y1, y2, hok⟩ := HS.out.at_.one hi
      have hln := HLL.out _ (List.getElem_mem hi)
      have hii : (i : Int) < (xs.length : Int) := by omega
      clear hatr y1
      generalize xs[i] = s at *
      obtain ⟨name, adr, cap, ll⟩ := s
      simp only at y2 hln hpos e2
      have hrl : Reads w2 w2.heap.size 1 adr ll.length (intC ll) := hok
      obtain ⟨b2, o2, rfl, hb2, hcc⟩ := hrl.2 hpos
      have z1 := hcc (ll.length - 1) (.int .i64 M) (by unfold intC; rw [List.getElem?_map, e2]; rfl)
      have q1 : (0 : Int) ≤ (ll.length : Int) - 1 := by omega
      have q2 : ((ll.length : Int) - 1).toNat = ll.length - 1 := by omega
      have q3 : wrap64 ((ll.length : Int) - 1) = (ll.length : Int) - 1 := by unfold wrap64; omega
      have q4 : IntKind.i64.wrap ((ll.length : Int) - 1) = (ll.length : Int) - 1 := IntWalk.i64_in _ (by omega)
      have q5 : (ll.length : Int) - 1 < (ll.length : Int) := by omega
      have q6 : (1 : Int) ≤ (ll.length : Int) := by omega
      have mixed := mixedD
      clear hrl hok e2 hcc
      go_wp2_with fail
      go_region_o
      all_goals go_wp2_with fail
      all_goals go_meet
      all_goals exact ⟨rfl, (Below.refl _ _).drew⟩
  case rest =>
    obtain ⟨rfl, hb3⟩ := hcut
    obtain ⟨w3, rfl⟩ : ∃ w3 : World, w3 = wc := ⟨_, rfl⟩
    have hO3 := (SetObj.own sb F).below HO.out hb3
    have hB3 : Below w.heap.size w w3 := HB2.out.trans (hb3.mono HB2.out.size)
    have HO3 := Lib.hid hO3
    have HB3 := Lib.hid hB3
    have hA3 : ∀ (W : World), Below w.heap.size w W → Calls Try.prog 11 #[] W fun e w' => e = .returned (.bool true) ∧ Below w.heap.size w w' := fun W hb => (awake_any W).mono (by
      rintro e w2 ⟨rfl, hb2⟩
      exact ⟨rfl, hb.trans (hb2.mono hb.size)⟩)
    have HAW := Lib.hid hA3
    clear hA3 hO3 hb3 hB3 hMc hatr
    by_cases h200 : (200 : Int) < M
    · go_wp2_with fail
      refine Calls.mono (HAW.out w3 HB3.out) ?_
      rintro e v2 ⟨rfl, hv2⟩
      have HV2 := Lib.hid hv2
      clear hv2
      go_wp2
      go_ret
      exact ⟨rfl, HV2.out⟩
    go_upto_region 12 with fail
    have hlenF : (F key).length ≤ 80 := by have := HLEN.out; omega
    have hn1 := (HO3.out.ok key).next.1
    go_wp2_with fail
    go_loopg [48] 200 (fun rest s48 wr => ∃ (i : Nat) (F' : RowsF) (G' : Nat → Prop), s48 = .int .i64 i ∧ Hid (i + rest = 200) ∧ (i : Int) ≤ 200 ∧ Hid (SetObj wr sb G' F') ∧ Hid (∀ q, G' q → w.heap.size ≤ q) ∧ Hid (NextInv F' key M) ∧ (F' key).length ≤ 80 + i ∧ (i : Int) + 1 ≤ nextR (F' key) ∧ Hid (Below w.heap.size w wr))
    case atStart => exact ⟨0, F, G, rfl, Lib.hid rfl, by omega, HO3, HG2, HNI, by omega, by omega, HB3⟩
    case round =>
      obtain ⟨i, F', G', rfl, HI, hi0, HOO, HGG, HNN, hfl, hnx0, HBB⟩ := hrel
      by_cases hi : (i : Int) < 200
      · have hnx := next_any sb G' F' key wr HOO.out hkz
        have HNX0 := Lib.hid hnx
        clear hnx
        go_wp2_with fail
        refine Calls.mono HNX0.out ?_
        rintro e w5 ⟨rfl, hb5⟩
        have hO5 := (SetObj.own sb F').below HOO.out hb5
        have hB5 : Below w.heap.size w w5 := HBB.out.trans (hb5.mono HBB.out.size)
        by_cases hgt : M < nextR (F' key)
        · have HOO := Lib.hid hO5
          have HBB := Lib.hid hB5
          clear hO5 hB5 hb5 HNX0
          go_wp2_with fail
          have hok := HOO.out.ok key
          have hfull := next_full hok HNN.out.1 HNN.out.2 hgt hM0
          have hrg := ranges_any sb G' F' key w5 HOO.out hkz (by omega)
          have hnx := fun W h => next_any sb G' F' key W h hkz
          rcases hfull with ⟨rfl, hR⟩ | ⟨hMp, hR⟩
          · rw [hR] at hrg hnx
            have HRG := Lib.hid hrg
            have HNX := Lib.hid hnx
            have e1 : nextR [] = 1 := rfl
            rw [e1] at HNX
            clear hrg hnx hok hR e1 hgt
            go_wp2_with fail
            refine Calls.mono HRG.out ?_
            rintro e v1 ⟨A1, c1', rfl, -, hv1⟩
            have HV1 := Lib.hid (HBB.out.trans (hv1.mono HBB.out.size))
            have HO1 := Lib.hid ((SetObj.own sb _).below HOO.out hv1)
            clear hv1
            go_wp2_with fail
            refine Calls.mono (HNX.out v1 HO1.out) ?_
            rintro e v2 ⟨rfl, hv2⟩
            have HV2 := Lib.hid (HV1.out.trans (hv2.mono HV1.out.size))
            clear hv2
            go_wp2_with fail
            refine Calls.mono (HAW.out v2 HV2.out) ?_
            rintro e v3 ⟨rfl, hv3⟩
            have HV3 := Lib.hid hv3
            clear hv3
            go_wp2
            go_ret
            exact ⟨rfl, HV3.out⟩
          · rw [hR] at hrg hnx
            have e1 : nextR [((1 : Int), M + 1)] = M + 1 := by simp [nextR]
            rw [e1] at hnx
            have HRG := Lib.hid hrg
            have HNX := Lib.hid hnx
            have hm0 : (M == 0) = false := by simp; omega
            have hm1 : wrap64 (M + 1) = M + 1 := by unfold wrap64; omega
            have hq := fun W => eql_rg 1 (M + 1) 1 (M + 1) W
            simp only [beq_self_eq_true, Bool.and_self] at hq
            clear hrg hnx hok hR e1 hgt
            go_wp2_with fail
            refine Calls.mono HRG.out ?_
            rintro e v1 ⟨A1, c1', rfl, hr1, hv1⟩
            obtain ⟨b1, o1, rfl, hb1', hc1'⟩ := hr1.2 (by simp)
            have z1 := hc1' 0 (.int .i64 1) rfl
            have z2 := hc1' 1 (.int .i64 (M + 1)) rfl
            rw [Nat.add_zero] at z1
            have HV1 := Lib.hid (HBB.out.trans (hv1.mono HBB.out.size))
            have HO1 := Lib.hid ((SetObj.own sb _).below HOO.out hv1)
            clear hv1 hc1' hr1
            go_wp2_with fail
            refine Calls.mono (HNX.out v1 HO1.out) ?_
            rintro e v2 ⟨rfl, hv2⟩
            have HV2 := Lib.hid (HV1.out.trans (hv2.mono HV1.out.size))
            clear hv2
            go_wp2_with fail
            refine Calls.mono (HAW.out v2 HV2.out) ?_
            rintro e v3 ⟨rfl, hv3⟩
            have HV3 := Lib.hid hv3
            clear hv3
            go_wp2
            go_ret
            exact ⟨rfl, HV3.out⟩
        · have hle : nextR (F' key) ≤ M := by omega
          obtain ⟨p1, p2, p3, p4⟩ := HNN.out.put (hO5.ok key) HNB.out.symm hle (by omega)
          have hnm := (hO5.ok key).next.2.1
          have hr1 := (hO5.ok key).next.1
          have hhas := has_any sb G' F' key (nextR (F' key)) w5 hO5 hkz (by omega)
          have hd : decide (memR (F' key) (nextR (F' key))) = false := by simpa using hnm
          rw [hd] at hhas
          have hput := fun W h => put_any sb G' F' key (nextR (F' key)) W h hkz (by omega) (by omega) (by omega)
          have HHAS := Lib.hid hhas
          have HPUT := Lib.hid hput
          have HP := Lib.hid (And.intro p1 (And.intro p2 (And.intro p3 p4)))
          have HO5 := Lib.hid hO5
          have HB5 := Lib.hid hB5
          clear hhas hput p1 p2 p3 p4 hO5 hB5 hb5 hnm hd hr1
          generalize nextR (F' key) = nn at *
          go_wp2_with fail
          refine Calls.mono HHAS.out ?_
          rintro e w6 ⟨rfl, hb6⟩
          have hO6 := (SetObj.own sb F').below HO5.out hb6
          have hB6 : Below w.heap.size w w6 := HB5.out.trans (hb6.mono HB5.out.size)
          have HB6 := Lib.hid hB6
          have HPP := Lib.hid (HPUT.out w6 hO6)
          clear hO6 hB6 hb6
          go_wp2_with fail
          refine Calls.mono HPP.out ?_
          rintro e w7 ⟨G7, rfl, hO7, hU7⟩
          rw [HP.out.1]
          have HO7 := Lib.hid hO7
          have hB7 : Below w.heap.size w w7 := hU7.belowB HB6.out (Nat.le_refl _) HGG.out
          have hG7 : ∀ q, G7 q → w.heap.size ≤ q := fun q hq => by
            rcases hU7.foot q hq with h | h
            · exact HGG.out q h
            · have := HB6.out.size; omega
          have HB7 := Lib.hid hB7
          have HG7 := Lib.hid hG7
          clear hO7 hU7 hB7 hG7
          go_wp2_with fail
          go_roundg (gk - 1)
          case measure => have := HI.out; omega
          case rel => exact ⟨i + 1, _, G7, by go_num, Lib.hid (by have := HI.out; omega), by omega, HO7, HG7, Lib.hid HP.out.2.1, by have := HP.out.2.2.2; omega, by have := HP.out.2.2.1; omega, HB7⟩
      · have hgt : M < nextR (F' key) := by omega
        go_wp2_with fail
        have hok := HOO.out.ok key
        have hfull := next_full hok HNN.out.1 HNN.out.2 hgt hM0
        have hrg := ranges_any sb G' F' key wr HOO.out hkz (by omega)
        have hnx := fun W h => next_any sb G' F' key W h hkz
        rcases hfull with ⟨rfl, hR⟩ | ⟨hMp, hR⟩
        · rw [hR] at hrg hnx
          have HRG := Lib.hid hrg
          have HNX := Lib.hid hnx
          have e1 : nextR [] = 1 := rfl
          rw [e1] at HNX
          clear hrg hnx hok hR e1 hgt
          go_wp2_with fail
          refine Calls.mono HRG.out ?_
          rintro e v1 ⟨A1, c1', rfl, -, hv1⟩
          have HV1 := Lib.hid (HBB.out.trans (hv1.mono HBB.out.size))
          have HO1 := Lib.hid ((SetObj.own sb _).below HOO.out hv1)
          clear hv1
          go_wp2_with fail
          refine Calls.mono (HNX.out v1 HO1.out) ?_
          rintro e v2 ⟨rfl, hv2⟩
          have HV2 := Lib.hid (HV1.out.trans (hv2.mono HV1.out.size))
          clear hv2
          go_wp2_with fail
          refine Calls.mono (HAW.out v2 HV2.out) ?_
          rintro e v3 ⟨rfl, hv3⟩
          have HV3 := Lib.hid hv3
          clear hv3
          go_wp2
          go_ret
          exact ⟨rfl, HV3.out⟩
        · rw [hR] at hrg hnx
          have e1 : nextR [((1 : Int), M + 1)] = M + 1 := by simp [nextR]
          rw [e1] at hnx
          have HRG := Lib.hid hrg
          have HNX := Lib.hid hnx
          have hm0 : (M == 0) = false := by simp; omega
          have hm1 : wrap64 (M + 1) = M + 1 := by unfold wrap64; omega
          have hq := fun W => eql_rg 1 (M + 1) 1 (M + 1) W
          simp only [beq_self_eq_true, Bool.and_self] at hq
          clear hrg hnx hok hR e1 hgt
          go_wp2_with fail
          refine Calls.mono HRG.out ?_
          rintro e v1 ⟨A1, c1', rfl, hr1, hv1⟩
          obtain ⟨b1, o1, rfl, hb1', hc1'⟩ := hr1.2 (by simp)
          have z1 := hc1' 0 (.int .i64 1) rfl
          have z2 := hc1' 1 (.int .i64 (M + 1)) rfl
          rw [Nat.add_zero] at z1
          have HV1 := Lib.hid (HBB.out.trans (hv1.mono HBB.out.size))
          have HO1 := Lib.hid ((SetObj.own sb _).below HOO.out hv1)
          clear hv1 hc1' hr1
          go_wp2_with fail
          refine Calls.mono (HNX.out v1 HO1.out) ?_
          rintro e v2 ⟨rfl, hv2⟩
          have HV2 := Lib.hid (HV1.out.trans (hv2.mono HV1.out.size))
          clear hv2
          go_wp2_with fail
          refine Calls.mono (HAW.out v2 HV2.out) ?_
          rintro e v3 ⟨rfl, hv3⟩
          have HV3 := Lib.hid hv3
          clear hv3
          go_wp2
          go_ret
          exact ⟨rfl, HV3.out⟩
end Go.Proofs.Ytcladmcbhnmhiaa
