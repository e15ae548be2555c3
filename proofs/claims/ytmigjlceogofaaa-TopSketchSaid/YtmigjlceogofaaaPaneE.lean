/- Contract of (*pane.Panes).Sum: what was added of a key in the panes from a tick to a tick. -/
import Derived.Test.YtmigjlceogofaaaPaneD
namespace Go.Proofs.Ytmigjlceogofaaa
open Go.ChangeShapes Go.WideShapes Go.ChangeAt Go.RowKit
set_option linter.unusedVariables false
set_option linter.unusedSimpArgs false

theorem tot_split (S : SumsL) (key : ByteArray) (lo mid hi : Int) (h1 : lo ≤ mid) (h2 : mid ≤ hi) : tot S key lo hi = tot S key lo mid + tot S key mid hi := by
  induction S with
  | nil => rfl
  | cons p S ih =>
    rw [tot_cons, tot_cons, tot_cons, ih]
    by_cases hk : p.1.1 = key
    · by_cases ha : lo ≤ p.1.2
      · by_cases hb : p.1.2 < mid
        · have hc : p.1.2 < hi := by omega
          have hd : ¬ mid ≤ p.1.2 := by omega
          simp [hk, ha, hb, hc, hd]; omega
        · have hd : mid ≤ p.1.2 := by omega
          by_cases hc : p.1.2 < hi
          · simp [hk, ha, hb, hc, hd]; omega
          · simp [hk, ha, hb, hc, hd]
      · have hd : ¬ mid ≤ p.1.2 := by omega
        simp [hk, ha, hd]
    · simp [hk]
theorem tot_empty (S : SumsL) (key : ByteArray) (lo hi : Int) (h : hi ≤ lo) : tot S key lo hi = 0 := by
  induction S with
  | nil => rfl
  | cons p S ih =>
    rw [tot_cons, ih, if_neg (by omega)]
    rfl
theorem tot_succ (S : SumsL) (hS : (S.map (·.1)).Nodup) (key : ByteArray) (lo hi : Int) (h : lo ≤ hi) : tot S key lo (hi + 1) = tot S key lo hi + val S (key, hi) := by
  rw [tot_split S key lo hi (hi + 1) h (by omega), val_tot S hS]

def part (S : SumsL) (key : ByteArray) (lo hi : Int) (ns : List Int) : Int := ((ns.filter (fun n => decide (lo ≤ n) && decide (n < hi))).map (fun n => val S (key, n))).sum
theorem part_snoc (S : SumsL) (key : ByteArray) (lo hi : Int) (ns : List Int) (n : Int) : part S key lo hi (ns ++ [n]) = part S key lo hi ns + (if lo ≤ n ∧ n < hi then val S (key, n) else 0) := by
  unfold part
  rw [List.filter_append, List.map_append, List.sum_append]
  congr 1
  by_cases h : lo ≤ n ∧ n < hi
  · simp [List.filter_cons, h.1, h.2]
  · rw [if_neg h]
    have : (decide (lo ≤ n) && decide (n < hi)) = false := by
      simp only [Bool.and_eq_false_iff, decide_eq_false_iff_not]
      by_cases a : lo ≤ n
      · exact .inr (fun b => h ⟨a, b⟩)
      · exact .inl a
    simp [List.filter_cons, this]
theorem part_append_le (S : SumsL) (hv : ∀ c, 0 ≤ val S c) (key : ByteArray) (lo hi : Int) (ns ms : List Int) : part S key lo hi ns ≤ part S key lo hi (ns ++ ms) ∧ 0 ≤ part S key lo hi ns := by
  have hnn : ∀ l : List Int, 0 ≤ part S key lo hi l := by
    intro l
    unfold part
    induction (l.filter (fun n => decide (lo ≤ n) && decide (n < hi))) with
    | nil => simp
    | cons a l ih => simp only [List.map_cons, List.sum_cons]; have := hv (key, a); omega
  refine ⟨?_, hnn ns⟩
  have : part S key lo hi (ns ++ ms) = part S key lo hi ns + part S key lo hi ms := by
    unfold part
    rw [List.filter_append, List.map_append, List.sum_append]
  have := hnn ms
  omega
theorem part_tot {wd : Int} {S : SumsL} {R : RowsL} {hist : List AddD} (h : PaneInv wd S R hist) (key : ByteArray) (lo hi : Int) : part S key lo hi (rowOf R key).ns = tot S key lo hi := by
  have hN : (rowOf R key).ns.Nodup := by
    rw [rowOf_eq]
    cases hl : mget R key with
    | none => simp
    | some r => exact h.rowN _ (mget_some_mem hl)
  refine sum_vals S h.nodS key lo hi _ (hN.sublist List.filter_sublist) ?_ ?_
  · intro n hn
    simp at hn
    exact hn.2
  · intro p hp h1 h2 h3
    simp only [List.mem_filter, Bool.and_eq_true, decide_eq_true_eq]
    refine ⟨?_, h2, h3⟩
    have hs := h.rowS p hp
    rw [h1] at hs
    obtain ⟨r, hr⟩ := Option.isSome_iff_exists.1 hs
    have : (rowOf R key).ns = r.ns := by unfold rowOf; rw [hr]; rfl
    rw [this]
    refine (h.rowM _ (mget_some_mem hr) p.1.2).2 (mget_isSome_iff.2 ⟨p, hp, ?_⟩)
    rw [← h1]

set_option maxRecDepth 20000 in
set_option maxHeartbeats 2000000 in
theorem psum_any (pb : Nat) (F : Nat → Prop) (wd : Int) (hist : List AddD) (key : ByteArray) (frm to : Int) (w : World) (h : PaneObj w pb F wd hist) (hk : key.size ≤ maxLen)
    (f1 : -1152921504606846976 ≤ frm) (f2 : frm ≤ 1152921504606846976) (t1 : -1152921504606846976 ≤ to) (t2 : to ≤ 1152921504606846976) :
    Calls Try.prog 36 #[.pointer (some ⟨pb, 0, none⟩), .string key, .int .i64 frm, .int .i64 to] w fun e w' => e = .returned (.int .i64 (histTot wd hist key (frm / wd) (to / wd))) ∧ w = w' := by
  obtain ⟨bs, br, S, R, hP, hI, rfl⟩ := h
  obtain ⟨c0, c1, c2, c3⟩ := cell_of_panes hP
  have hwd := hI.wide
  have hlo := floor_bd frm wd 1152921504606846976 hwd.1 (by omega) f1 f2
  have hhi := floor_bd to wd 1152921504606846976 hwd.1 (by omega) t1 t2
  have hlk := look_row hP.rows (key := key) hk
  have hro := hP.rowOwn key
  have HE := Lib.hid (hI.same key (frm / wd) (to / wd))
  have hb := fun lo hi => hI.bound key lo hi
  have hvb := fun c => hI.valB c
  have HB := Lib.hid hb
  have HV := Lib.hid hvb
  have HI := Lib.hid hI
  have HP := Lib.hid hP
  have hrl : ((rowOf R key).ns.length : Int) ≤ 1048576 := by
    have : (rowOf R key).ns.length ≤ 1048576 := by
      unfold rowOf
      cases hl : mget R key with
      | none => simp
      | some r => exact Nat.le_trans (hI.lenR _ (mget_some_mem hl)) hI.cnt
    omega
  clear hb hvb hI hP
  have hrn : (0 : Int) ≤ ((rowOf R key).ns.length : Int) := by omega
  have hpt := part_tot HI.out key (frm / wd) (to / wd)
  have hN := HI.out.nodS
  have hnr : ∀ m (hm : m < (rowOf R key).ns.length), -1152921504606846976 ≤ (rowOf R key).ns[m] ∧ (rowOf R key).ns[m] ≤ 1152921504606846976 := by
    intro m hm
    have hmem : (rowOf R key).ns[m] ∈ (rowOf R key).ns := List.getElem_mem hm
    generalize (rowOf R key).ns[m] = x at hmem
    unfold rowOf at hmem
    cases hl : mget R key with
    | none => rw [hl] at hmem; simp at hmem
    | some r =>
      rw [hl] at hmem
      have hs := (HI.out.rowM _ (mget_some_mem hl) x).1 hmem
      obtain ⟨p, hp, e⟩ := mget_isSome_iff.1 hs
      have h1 := HI.out.pos p hp
      have h2 := mget_of_mem HI.out.nodS hp
      have hx : p.1.2 = x := by rw [e]
      have h3 : 0 < tot S p.1.1 x (x + 1) := by
        rw [← val_tot S HI.out.nodS]
        unfold val
        rw [← hx, h2]
        exact h1
      rw [HI.out.same] at h3
      by_cases hb : -1152921504606846976 ≤ x ∧ x ≤ 1152921504606846976
      · exact hb
      · exfalso
        have : histTot wd hist p.1.1 x (x + 1) = 0 := by
          unfold histTot
          have hnil : hist.filter (fun a => decide (a.key = p.1.1) && (decide (x ≤ a.at_ / wd) && decide (a.at_ / wd < x + 1))) = [] := by
            rw [List.filter_eq_nil_iff]
            intro a ha
            have ht := HI.out.ticks a ha
            have hfb := floor_bd a.at_ wd 1099511627776 HI.out.wide.1 (by omega) (by omega) ht.2.1
            simp
            intro _ h5
            omega
          rw [hnil]; rfl
        omega
  generalize rowOf R key = r at *
  obtain ⟨rA, rc, ns⟩ := r
  unfold rowVf at hro
  dsimp only at *
  obtain ⟨rl, hrl'⟩ : ∃ rl : Int, rl = (ns.length : Int) := ⟨_, rfl⟩
  have HRL := Lib.hid hrl'
  clear hrl'
  have HPT := Lib.hid hpt
  have HNS := Lib.hid hN
  have HNR := Lib.hid hnr
  clear hnr
  clear hpt hN
  have hf := fun wd1 wd2 => pof_any pb wd frm w c0 wd1 wd2 (by omega) (by omega)
  go_enter Try.func36, Try.ntmps36
  go_wp2_with fail
  refine (pof_any pb wd frm _ c0 hwd.1 hwd.2 (by omega) (by omega)).mono ?_
  rintro e w1 ⟨rfl, rfl⟩
  go_wp2_with fail
  refine (pof_any pb wd to _ c0 hwd.1 hwd.2 (by omega) (by omega)).mono ?_
  rintro e w1 ⟨rfl, rfl⟩
  generalize hLO : frm / wd = lo at *
  generalize hHI : to / wd = hi at *
  have HLO := Lib.hid hLO
  have HHI := Lib.hid hHI
  clear hLO hHI
  clear f1 f2 t1 t2 hf
  by_cases g1 : hi - lo < (ns.length : Int)
  · by_cases g2 : 0 ≤ lo
    · go_wp2_with fail
      go_loopg [11, 12] (hi - lo).toNat (fun rest s i wr => ∃ k : Int, i = .int .i64 k ∧ s = .int .i64 (tot S key lo k) ∧ lo ≤ k ∧ Hid (rest = (hi - k).toNat) ∧ k ≤ max lo hi ∧ w = wr)
      case atStart => exact ⟨lo, rfl, by rw [tot_empty _ _ _ _ (Int.le_refl _)], Int.le_refl _, Lib.hid rfl, by omega, rfl⟩
      case round =>
        obtain ⟨k, rfl, rfl, hlk1, HR, hkm, rfl⟩ := hrel
        by_cases hkh : k < hi
        · have hs := tot_succ S HNS.out key lo k hlk1
          have hb1 := HB.out lo k
          have hb2 := HB.out lo (k + 1)
          have hv1 := HV.out (key, k)
          have hlk2 := look_sum HP.out.sums (key := key) (q := k) ⟨hk, by show _ ≤ k ∧ k ≤ _; omega⟩
          have HS := Lib.hid hs
          rw [hs] at hb2
          clear hs
          go_wp2
          go_roundg (gk - 1)
          case measure => have := HR.out; omega
          case rel => exact ⟨k + 1, rfl, by rw [HS.out], by omega, Lib.hid (by have := HR.out; omega), by omega, rfl⟩
        · go_wp2
          go_ret
          refine ⟨ret_int ?_, rfl⟩
          rw [HLO.out, HHI.out]
          rw [← HE.out]
          by_cases hle : lo ≤ hi
          · have : k = hi := by omega
            rw [this]
          · rw [tot_empty S key lo hi (by omega), tot_empty S key lo k (by omega)]
    · go_wp2_with fail
      go_loopg [11, 60] ns.length (fun rest s i wr => ∃ m : Nat, i = .int .i64 m ∧ s = .int .i64 (part S key lo hi (ns.take m)) ∧ Hid (m + rest = ns.length) ∧ w = wr)
      case atStart => exact ⟨0, rfl, rfl, Lib.hid (by simp), rfl⟩
      case round =>
        obtain ⟨m, rfl, rfl, HM, rfl⟩ := hrel
        by_cases hm : (m : Int) < (ns.length : Int)
        · have hml : m < ns.length := by omega
          obtain ⟨b, o, rfl, hbl, hcell⟩ := (Reads.of_own (show w.ownsRow 0 3 1 (.slice rA ns.length rc) ns.length (ns.map (Value.int .i64)) from hro)).one hml
          have hps := part_snoc S key lo hi (ns.take m) ns[m]
          rw [← List.take_succ_eq_append_getElem hml] at hps
          have hle := part_append_le S (fun c => (HV.out c).1) key lo hi (ns.take m) (ns.drop m)
          rw [List.take_append_drop, HPT.out] at hle
          have hle2 := part_append_le S (fun c => (HV.out c).1) key lo hi (ns.take (m + 1)) (ns.drop (m + 1))
          rw [List.take_append_drop, HPT.out] at hle2
          have hbb := HB.out lo hi
          have hnr := HNR.out m hml
          generalize ns[m] = x at *
          have hlk2 := look_sum HP.out.sums (key := key) (q := x) ⟨hk, by show _ ≤ x ∧ x ≤ _; omega⟩
          by_cases i1 : lo ≤ x
          · by_cases i2 : x < hi
            · rw [if_pos ⟨i1, i2⟩] at hps
              rw [hps] at hle2
              have HS := Lib.hid hps
              clear hps
              generalize part S key lo hi (ns.take m) = s0 at *
              generalize tot S key lo hi = T at *
              have hs1 : 0 ≤ s0 + val S (key, x) ∧ s0 + val S (key, x) ≤ 1099511627776 := by omega
              clear hle2
              go_wp2
              go_roundg (gk - 1)
              case measure => have := HM.out; omega
              case rel => exact ⟨m + 1, by go_num, by rw [HS.out], Lib.hid (by have := HM.out; omega), rfl⟩
            · rw [if_neg (fun h => i2 h.2)] at hps
              have HS := Lib.hid hps
              clear hps hle2 hle
              go_wp2
              go_roundg (gk - 1)
              case measure => have := HM.out; omega
              case rel => exact ⟨m + 1, by go_num, by rw [HS.out, Int.add_zero], Lib.hid (by have := HM.out; omega), rfl⟩
          · rw [if_neg (fun h => i1 h.1)] at hps
            have HS := Lib.hid hps
            clear hps hle2 hle
            go_wp2
            go_roundg (gk - 1)
            case measure => have := HM.out; omega
            case rel => exact ⟨m + 1, by go_num, by rw [HS.out, Int.add_zero], Lib.hid (by have := HM.out; omega), rfl⟩
        · go_wp2
          go_ret
          refine ⟨ret_int ?_, rfl⟩
          rw [HLO.out, HHI.out]
          have := HM.out
          rw [List.take_of_length_le (by omega), HPT.out, HE.out]
  · go_wp2_with fail
    go_loopg [11, 60] ns.length (fun rest s i wr => ∃ m : Nat, i = .int .i64 m ∧ s = .int .i64 (part S key lo hi (ns.take m)) ∧ Hid (m + rest = ns.length) ∧ w = wr)
    case atStart => exact ⟨0, rfl, rfl, Lib.hid (by simp), rfl⟩
    case round =>
      obtain ⟨m, rfl, rfl, HM, rfl⟩ := hrel
      by_cases hm : (m : Int) < (ns.length : Int)
      · have hml : m < ns.length := by omega
        obtain ⟨b, o, rfl, hbl, hcell⟩ := (Reads.of_own (show w.ownsRow 0 3 1 (.slice rA ns.length rc) ns.length (ns.map (Value.int .i64)) from hro)).one hml
        have hps := part_snoc S key lo hi (ns.take m) ns[m]
        rw [← List.take_succ_eq_append_getElem hml] at hps
        have hle := part_append_le S (fun c => (HV.out c).1) key lo hi (ns.take m) (ns.drop m)
        rw [List.take_append_drop, HPT.out] at hle
        have hle2 := part_append_le S (fun c => (HV.out c).1) key lo hi (ns.take (m + 1)) (ns.drop (m + 1))
        rw [List.take_append_drop, HPT.out] at hle2
        have hbb := HB.out lo hi
        have hnr := HNR.out m hml
        generalize ns[m] = x at *
        have hlk2 := look_sum HP.out.sums (key := key) (q := x) ⟨hk, by show _ ≤ x ∧ x ≤ _; omega⟩
        by_cases i1 : lo ≤ x
        · by_cases i2 : x < hi
          · rw [if_pos ⟨i1, i2⟩] at hps
            rw [hps] at hle2
            have HS := Lib.hid hps
            clear hps
            generalize part S key lo hi (ns.take m) = s0 at *
            generalize tot S key lo hi = T at *
            have hs1 : 0 ≤ s0 + val S (key, x) ∧ s0 + val S (key, x) ≤ 1099511627776 := by omega
            clear hle2
            go_wp2
            go_roundg (gk - 1)
            case measure => have := HM.out; omega
            case rel => exact ⟨m + 1, by go_num, by rw [HS.out], Lib.hid (by have := HM.out; omega), rfl⟩
          · rw [if_neg (fun h => i2 h.2)] at hps
            have HS := Lib.hid hps
            clear hps hle2 hle
            go_wp2
            go_roundg (gk - 1)
            case measure => have := HM.out; omega
            case rel => exact ⟨m + 1, by go_num, by rw [HS.out, Int.add_zero], Lib.hid (by have := HM.out; omega), rfl⟩
        · rw [if_neg (fun h => i1 h.1)] at hps
          have HS := Lib.hid hps
          clear hps hle2 hle
          go_wp2
          go_roundg (gk - 1)
          case measure => have := HM.out; omega
          case rel => exact ⟨m + 1, by go_num, by rw [HS.out, Int.add_zero], Lib.hid (by have := HM.out; omega), rfl⟩
      · go_wp2
        go_ret
        refine ⟨ret_int ?_, rfl⟩
        rw [HLO.out, HHI.out]
        have := HM.out
        rw [List.take_of_length_le (by omega), HPT.out, HE.out]
end Go.Proofs.Ytmigjlceogofaaa
