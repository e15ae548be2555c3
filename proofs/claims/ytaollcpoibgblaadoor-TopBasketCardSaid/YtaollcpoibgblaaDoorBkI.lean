/- Contract of ciceronetop.turned: a permutation. -/
import Derived.Test.YtaollcpoibgblaaDoorBkD
import Derived.Test.YtaollcpoibgblaaDoorTlF
import Derived.Deep.DeepCutAuto
namespace Go.Proofs.YtaollcpoibgblaaDoor
open Go.ChangeShapes Go.WideShapes Go.ChangeAt Go.RowKit
set_option linter.unusedVariables false
set_option linter.unusedSimpArgs false

theorem mixedD : Tryd.prog.follows .mixedOrders = true := by kernel_rfl
theorem splice_take {cur : List Value} {o : Nat} {cs : List Value} (h : o ≤ cur.length) : (spliceL cur o cs).take (o + cs.length) = cur.take o ++ cs := by
  unfold spliceL
  rw [← List.append_assoc, List.take_append_of_le_length (by simp; omega)]
  rw [List.take_of_length_le (by simp; omega)]

def TurnedNew (w : World) (E : List EvV) (e : Ending) (w' : World) : Prop :=
  ∃ A c O, e = .returned (.slice A E.length c) ∧ O.Perm E ∧ Reads w' w'.heap.size 8 A E.length (evsCells O) ∧ Below w.heap.size w w'
/-- The rounds: what is left, what came out. -/
def Tn1 (w0 : World) (E : List EvV) (rest : Nat) (s5 s6 s7 : Value) (wr : World) : Prop :=
  ∃ (A A2 : Option Addr) (nL c nO c2 : Nat) (L O : List EvV), s5 = .slice A nL c ∧ s6 = .slice A2 nO c2 ∧ s7 = .int .i64 nO ∧ Hid (nL = rest) ∧ nL + nO = E.length ∧ Hid (nL = L.length) ∧ Hid (nO = O.length) ∧ Hid ((O ++ L).Perm E) ∧
    Hid (wr.ownsRow w0.heap.size 51 8 (.slice A nL c) nL (evsCells L)) ∧ Hid (wr.ownsRow w0.heap.size 51 8 (.slice A2 nO c2) nO (evsCells O)) ∧
    Hid (∀ q, (Value.slice A nL c).ownBlock = some q → (Value.slice A2 nO c2).ownBlock ≠ some q) ∧ Hid (Below w0.heap.size w0 wr)
theorem pick_perm {O L E : List EvV} (h : (O ++ L).Perm E) {k : Nat} (hk : k < L.length) : ((O ++ [L[k]]) ++ (L.take k ++ L.drop (k + 1))).Perm E := by
  refine List.Perm.trans ?_ h
  rw [List.append_assoc]
  refine List.Perm.append_left O ?_
  have e : L = L.take k ++ (L[k] :: L.drop (k + 1)) := by rw [← List.drop_eq_getElem_cons hk, List.take_append_drop]
  conv => rhs; rw [e]
  show (L[k] :: (L.take k ++ L.drop (k + 1))).Perm _
  exact List.perm_middle.symm

set_option maxRecDepth 20000 in
set_option maxHeartbeats 4000000 in
theorem turned_any (A : Option Addr) (c : Nat) (E : List EvV) (TA : Option Addr) (tc : Nat) (T : List Int) (w : World) (hr : Reads w w.heap.size 8 A E.length (evsCells E)) (hn : A = none → c = 0) (hl : E.length ≤ 60) (ht : U8At w w.heap.size TA T) (hT : T.length ≤ 60) :
    Calls Tryd.prog 7 #[.slice A E.length c, .slice TA T.length tc] w (TurnedNew w E) := by
  have mixed := mixedD
  have HRD := Lib.hid hr
  have HN := Lib.hid hn
  have HTD := Lib.hid ht
  have hli : (E.length : Int) ≤ 60 := by omega
  have hTi : (T.length : Int) ≤ 60 := by omega
  obtain ⟨W1, hW1⟩ : ∃ W1, W1 = w.alloc (.cells #[] 51) := ⟨_, rfl⟩
  have hb1 : Below w.heap.size w W1 := by rw [hW1]; exact (Below.refl _ w).alloc (Nat.le_refl _) _
  have hem : W1.ownsRow w.heap.size 51 8 (.slice (some ⟨w.heap.size, 0, none⟩) 0 0) 0 [] := own_empty (Nat.le_refl _) (by rw [hW1]; exact heap_alloc_new w _)
  have HEM := Lib.hid hem
  have HB1 := Lib.hid hb1
  clear hr hn ht hb1 hem hl hT
  go_enter Tryd.func7, Tryd.ntmps7
  have hW1' := hW1
  go_upto_region 1 with fail
  go_wp2_with (at_builtin; rw [← hW1']; refine wpList_append_to W1 (by rfl) (.tmp 9) (.tmp 10) _ rfl w.heap.size 51 (.agg #[.string ⟨#[]⟩, .int .i64 0, .int .i64 0, .int .i64 0, .string ⟨#[]⟩, .string ⟨#[]⟩, .int .i64 0, .string ⟨#[]⟩]) 8 96 u_evs ev_info rfl (by omega) (some ⟨w.heap.size, 0, none⟩) 0 0 [] rfl HEM.out A w.heap.size E.length c (evsCells E) rfl (HRD.out.below HB1.out) HN.out (evsCells_one E) E.length (by omega) (by unfold maxLen; omega) (by omega) HB1.out.size ?_; intro A2 c2 w2 hown2 hg2 hb2)
  have HOW2 : Hid (w2.ownsRow w.heap.size 51 8 (.slice A2 E.length c2) E.length (evsCells E)) := Lib.hid hown2
  have HB2 := Lib.hid (HB1.out.trans hb2)
  clear hown2 hg2 hb2 hW1 hW1' HEM HB1
  go_wp2_with fail
  go_loopg [5, 6, 7] E.length (Tn1 w E)
  case atStart => exact ⟨A2, none, E.length, c2, 0, 0, E, [], rfl, rfl, rfl, Lib.hid rfl, by omega, Lib.hid rfl, Lib.hid rfl, Lib.hid (List.Perm.refl _), HOW2, Lib.hid (World.ownsRow_nil w2 _ _ _), Lib.hid (fun q _ h => by cases h), HB2⟩
  case round =>
    clear HOW2 HB2
    obtain ⟨A3, A4, nL, c3, nO, c4, L, O, rfl, rfl, rfl, HNR, hsum, HNL, HNO, HP, HOL, HOO, HAP, HB⟩ := hrel
    have hnOi : (nO : Int) ≤ 60 := by omega
    have hnLi : (nL : Int) ≤ 60 := by omega
    by_cases h0 : (0 : Int) < (nL : Int)
    · have h0n : 0 < nL := by omega
      have hsz := HB.out.size
      obtain ⟨gl, cap, hv, hgB, hgl⟩ := HOL.out.form h0n
      injection hv with e1 e2 e3
      subst e1 e3
      have HGL := Lib.hid hgl
      have HSZ := Lib.hid hsz
      clear hgB hgl hsz
      by_cases hTn : (0 : Int) < (T.length : Int)
      · have ht := HTD.out.below HB.out
        have hmod : nO % T.length < T.length := Nat.mod_lt _ (by omega)
        obtain ⟨b, o, rfl, hb, y1⟩ := ht.1.one hmod
        have hbd := ht.2 _ (List.getElem_mem hmod)
        generalize T[nO % T.length] = t at *
        have hm1 : (nO : Int).tmod (T.length : Int) = ((nO % T.length : Nat) : Int) := (Int.ofNat_tmod nO T.length).symm
        have hm2 : (t : Int).tmod (nL : Int) = ((t.toNat % nL : Nat) : Int) := by
          have : t = (t.toNat : Int) := by omega
          conv => lhs; rw [this]
          exact (Int.ofNat_tmod t.toNat nL).symm
        have hm3 : t.toNat % nL < nL := Nat.mod_lt _ h0n
        have hwt : IntKind.i64.wrap t = t := IntWalk.i64_in _ (by omega)
        have hT0 : ¬ ((T.length : Int) = 0) := by omega
        have hL0 : ¬ ((nL : Int) = 0) := by omega
        have hmi : ((nO % T.length : Nat) : Int) < (T.length : Int) := by omega
        generalize nO % T.length = tm at *
        generalize t.toNat % nL = kk at *
        have hTn2 : 0 < T.length := by omega
        have hTd : decide (0 < T.length) = true := decide_eq_true hTn2
        clear ht hmod HTD HRD HN
        go_upto_region 9 with fail
        clear hm1 hm2 hwt hT0 hL0 hmi hTn2 hTd y1 hbd hb hTn
        have hkl : kk < L.length := by have := HNL.out; omega
        have hkli : (kk : Int) < (nL : Int) := by omega
        obtain ⟨cur, hgb, hgB, hnc, hcm, hcl, htk, -⟩ := own_block HOL.out
        have hrg : wr.rangeAt gl (kk * 8) (evCells L[kk]) := by
          intro j v hv
          have hj : j < 8 := (List.getElem?_eq_some_iff.1 hv).1
          have h1 := (ev_at hkl j hj).trans hv
          rw [cell_of_row wr gl _ _ _ _ hgb]
          rw [← htk, List.getElem?_take] at h1
          split at h1
          · simpa using h1
          · cases h1
        have hpp := pick_perm HP.out hkl
        obtain ⟨L2, hL2⟩ : ∃ L2, L2 = L.take kk ++ L.drop (kk + 1) := ⟨_, rfl⟩
        rw [← hL2] at hpp
        have hnl := HNL.out
        have hl2 : L2.length = nL - 1 := by rw [hL2, List.length_append, List.length_take, List.length_drop]; omega
        have hdl : (evsCells (L.drop (kk + 1))).length = (nL - (kk + 1)) * 8 := by rw [evsCells_len, List.length_drop, hnl]
        obtain ⟨cur1, hc1⟩ : ∃ cur1, cur1 = spliceL cur (kk * 8) (evsCells (L.drop (kk + 1))) := ⟨_, rfl⟩
        have hcl1 : cur1.length = c3 * 8 := by rw [hc1, spliceL_len (by rw [hdl, hcl]; omega), hcl]
        have hcells : cur1.take ((nL - 1) * 8) = evsCells L2 := by
          have e1 := splice_take (cur := cur) (o := kk * 8) (cs := evsCells (L.drop (kk + 1))) (by rw [hcl]; omega)
          rw [← hc1, hdl] at e1
          have e3 : kk * 8 + (nL - (kk + 1)) * 8 = (nL - 1) * 8 := by omega
          rw [e3] at e1
          have e4 : cur.take (kk * 8) = evsCells (L.take kk) := by
            rw [← evsCells_take, ← htk, List.take_take]
            congr 1
            omega
          rw [e4] at e1
          rw [e1, hL2, evsCells_append]
        have hsrcc : ∀ j u, (evsCells (L.drop (kk + 1)))[j]? = some u → cur[(kk + 1) * 8 + j]? = some u := fun j u hu => by
          rw [← evsCells_drop, List.getElem?_drop, ← htk, List.getElem?_take] at hu
          split at hu
          · exact hu
          · cases hu
        have hgl0 := HAP.out gl rfl
        generalize L[kk] = ev at *
        obtain ⟨src, num, at_, kd, pe, it, va, tx⟩ := ev
        unfold evCells at hrg
        simp only at hrg
        have HRG := Lib.hid hrg
        have HPP := Lib.hid hpp
        have HL2 := Lib.hid hL2
        have HLL2 := Lib.hid hl2
        have HDL := Lib.hid hdl
        have HC1 := Lib.hid hc1
        have HCL1 := Lib.hid hcl1
        have HCELLS := Lib.hid hcells
        have HSRC := Lib.hid hsrcc
        have HGB := Lib.hid hgb
        have HGBB := Lib.hid (And.intro hgB (And.intro hnc hcm))
        have HCL := Lib.hid hcl
        have HGL0 := Lib.hid hgl0
        clear hrg hpp hL2 hl2 hdl hc1 hcl1 hcells hsrcc hgb hgB hnc hcm hcl htk hnl hgl0 hkl
        go_wp2_with (first | (refine wpList_load_mid rfl _ _ rfl gl (kk * 8) (by rfl) _ _ HRG.out Tryd.underlying51 (by rfl) (by kernel_rfl) ?_) | (at_builtin; refine wpList_plain rfl fun K' hK' => ?_; refine wp_append_one wr (.tmp 31) (.tmp 36) _ rfl w.heap.size 51 (.agg #[.string ⟨#[]⟩, .int .i64 0, .int .i64 0, .int .i64 0, .string ⟨#[]⟩, .string ⟨#[]⟩, .int .i64 0, .string ⟨#[]⟩]) 8 96 u_evs ev_info rfl (by omega) A4 nO c4 (evsCells O) rfl HOO.out [Value.string src, .int .i64 num, .int .i64 at_, .int .i64 kd, .string pe, .string it, .int .i64 va, .string tx] rfl rfl (evCells_one ⟨src, num, at_, kd, pe, it, va, tx⟩) (by omega) (by unfold maxLen; omega) HSZ.out ?_; intro A7 c7 w7 hown7 hg7 hb7 hloc7; refine hK' _ _ ?_))
        have hb7s := hb7.size
        have hgl7 : gl < w7.heap.size := by have := HGL.out; have := hg7.size; omega
        have hgb7 : w7.heap[gl]? = some (.cells cur.toArray 51 (0, 0)) := (hg7.block gl HGL.out (fun h => HGL0.out h.symm)).trans HGB.out
        have hap7 : (Value.slice A7 (nO + 1) c7).ownBlock ≠ some gl := by
          rcases hloc7 with h | h
          · rw [h]; exact HGL0.out
          · rw [h]; intro e; injection e with e; have := HGL.out; omega
        have hrun : ∀ ty ad m', (nL - (kk + 1) = 0 ∨ ad = ⟨gl, (kk + 1) * 8, none⟩) → (Builtin.append_ #[23, 23] ty #[.slice (some ⟨gl, 0, none⟩) kk c3, .slice (some ad) (nL - (kk + 1)) m']).run Tryd.prog w7.drew = .ok (.slice (some ⟨gl, 0, none⟩) (kk + (nL - (kk + 1))) c3) (w7.drew.setRow gl (spliceL cur (kk * 8) (evsCells (L.drop (kk + 1)))).toArray) := fun ty ad m' had =>
          run_append_roomK (P := Tryd.prog) w7.drew _ ty 51 8 u_evs s_ev gl kk c3 cur hgb7 ad (nL - (kk + 1)) m' (evsCells (L.drop (kk + 1))) HDL.out (fun j u hu => by
            rcases had with h0 | rfl
            · have := (List.getElem?_eq_some_iff.1 hu).1
              rw [HDL.out] at this
              omega
            · exact cells_block (w := w7.drew) hgb7 ((kk + 1) * 8) HSRC.out j u hu) (evsCells_one _) (by have := HGBB.out; omega) (by have := HGBB.out; rw [HDL.out, HCL.out]; omega)
        have hil : kk + (nL - (kk + 1)) = nL - 1 := by omega
        rw [hil, ← HC1.out] at hrun
        obtain ⟨W8, hW8⟩ : ∃ W8, W8 = w7.drew.setRow gl cur1.toArray := ⟨_, rfl⟩
        rw [← hW8] at hrun
        have hg8 : w7.drew.grownBy W8 (some gl) := by rw [hW8]; exact grown_setRow w7.drew gl _
        have hol8 : W8.ownsRow w.heap.size 51 8 (.slice (some ⟨gl, 0, none⟩) (nL - 1) c3) (nL - 1) (evsCells L2) := own_of_block (by rw [hW8]; exact setRow_block (w := w7.drew) hgb7) HGBB.out.1 (by have := HGBB.out; omega) HGBB.out.2.2 HCL1.out HCELLS.out
        have hoo8 : W8.ownsRow w.heap.size 51 8 (.slice A7 (nO + 1) c7) (nO + 1) (evsCells (O ++ [⟨src, num, at_, kd, pe, it, va, tx⟩])) := by
          rw [evsCells_snoc]
          exact (Keeps.ofGrown hg8).own (show w7.drew.ownsRow _ _ _ _ _ _ from hown7) (fun q hq h => hap7 (by rw [hq, h]))
        have hb8 : Below w.heap.size w W8 := by
          refine (HB.out.trans hb7).drew.trans ((Keeps.ofGrown hg8).toBelow (by show w.heap.size ≤ w7.heap.size; have := HSZ.out; omega) (fun q h => ?_))
          injection h with h
          have := HGBB.out.1
          omega
        have HOL8 := Lib.hid hol8
        have HOO8 := Lib.hid hoo8
        have HB8 := Lib.hid hb8
        have HAP7 := Lib.hid hap7
        have HNC := Lib.hid HGBB.out.2
        have hcm2 : (c3 : Int) ≤ 9223372036854775807 := by have := HGBB.out.2.2; unfold maxLen at this; omega
        have hnc2 : (nL : Int) ≤ (c3 : Int) := by have := HGBB.out.2.1; omega
        clear hol8 hoo8 hb8 hg8 hW8 hap7 hgb7 hgl7 hb7s hb7 hg7 hown7 hloc7 HDL HC1 HCL1 HCELLS HSRC HGB HGBB HCL HGL0 HRG HOO HOL HAP hil
        have hw1 : IntKind.i64.wrap ((kk : Int) + 1) = (kk : Int) + 1 := by rw [IntKind.wrap_i64]; omega
        have hb1 : (0 : Int) ≤ (kk : Int) + 1 := by omega
        have hb0 : (kk : Int) + 1 ≤ (nL : Int) := by omega
        have hb6 : (kk : Int) ≤ (kk : Int) + 1 := by omega
        have htn : ((kk : Int) + 1).toNat = kk + 1 := by omega
        have hin : kk ≤ nL := by omega
        have hin2 : kk + 1 ≤ nL := by omega
        have hic : (kk : Int) ≤ (c3 : Int) := by omega
        have hl6 : ¬ (c3 = kk) := by omega
        by_cases hce : c3 = kk + 1
        · have had : nL - (kk + 1) = 0 := by omega
          have hrun0 := fun ty => hrun ty ⟨gl, 0, none⟩ 0 (.inl had)
          rw [had] at hrun0
          clear hrun
          subst hce
          go_wp2_with fail
          go_region_law_o (refine step_append_runI rfl _ _ 23 23 rfl _ _ (by simp [Act.eval, Act.put]) (by simp [Act.eval, Act.put]) (hrun0 _) ?_)
          go_wp2_with fail
          go_roundg (gk - 1)
          case measure => have := HNR.out; omega
          case rel => exact ⟨some ⟨gl, 0, none⟩, A7, nL - 1, kk + 1, nO + 1, c7, L2, O ++ [⟨src, num, at_, kd, pe, it, va, tx⟩], rfl, rfl, by go_num, Lib.hid (by have := HNR.out; omega), by omega, Lib.hid HLL2.out.symm, Lib.hid (by rw [List.length_append, ← HNO.out]; rfl), HPP, HOL8, HOO8, Lib.hid (fun q h => by injection h with h; rw [← h]; exact HAP7.out), HB8⟩
        · have hce2 : ¬ (c3 = kk + 1) := hce
          go_wp2_with fail
          go_region_law_o (refine step_append_runI rfl _ _ 23 23 rfl _ _ (by simp [Act.eval, Act.put]) (by simp [Act.eval, Act.put]) (hrun _ ⟨gl, (kk + 1) * 8, none⟩ (c3 - (kk + 1)) (.inr rfl)) ?_)
          go_wp2_with fail
          go_roundg (gk - 1)
          case measure => have := HNR.out; omega
          case rel => exact ⟨some ⟨gl, 0, none⟩, A7, nL - 1, c3, nO + 1, c7, L2, O ++ [⟨src, num, at_, kd, pe, it, va, tx⟩], rfl, rfl, by go_num, Lib.hid (by have := HNR.out; omega), by omega, Lib.hid HLL2.out.symm, Lib.hid (by rw [List.length_append, ← HNO.out]; rfl), HPP, HOL8, HOO8, Lib.hid (fun q h => by injection h with h; rw [← h]; exact HAP7.out), HB8⟩
      · have hTn2 : ¬ 0 < T.length := by omega
        have hTd : decide (0 < T.length) = false := decide_eq_false hTn2
        go_upto_region 9 with fail
        obtain ⟨kk, hkk⟩ : ∃ kk : Nat, kk = 0 := ⟨_, rfl⟩
        have hm3 : kk < nL := by omega
        generalize hq : (Value.int IntKind.i64 (0 : Int)) = v0
        obtain rfl : v0 = Value.int .i64 ((kk : Nat) : Int) := by rw [← hq, hkk]; rfl
        clear hTn2 hTd hTn hkk hq HTD HRD HN
        have hkl : kk < L.length := by have := HNL.out; omega
        have hkli : (kk : Int) < (nL : Int) := by omega
        obtain ⟨cur, hgb, hgB, hnc, hcm, hcl, htk, -⟩ := own_block HOL.out
        have hrg : wr.rangeAt gl (kk * 8) (evCells L[kk]) := by
          intro j v hv
          have hj : j < 8 := (List.getElem?_eq_some_iff.1 hv).1
          have h1 := (ev_at hkl j hj).trans hv
          rw [cell_of_row wr gl _ _ _ _ hgb]
          rw [← htk, List.getElem?_take] at h1
          split at h1
          · simpa using h1
          · cases h1
        have hpp := pick_perm HP.out hkl
        obtain ⟨L2, hL2⟩ : ∃ L2, L2 = L.take kk ++ L.drop (kk + 1) := ⟨_, rfl⟩
        rw [← hL2] at hpp
        have hnl := HNL.out
        have hl2 : L2.length = nL - 1 := by rw [hL2, List.length_append, List.length_take, List.length_drop]; omega
        have hdl : (evsCells (L.drop (kk + 1))).length = (nL - (kk + 1)) * 8 := by rw [evsCells_len, List.length_drop, hnl]
        obtain ⟨cur1, hc1⟩ : ∃ cur1, cur1 = spliceL cur (kk * 8) (evsCells (L.drop (kk + 1))) := ⟨_, rfl⟩
        have hcl1 : cur1.length = c3 * 8 := by rw [hc1, spliceL_len (by rw [hdl, hcl]; omega), hcl]
        have hcells : cur1.take ((nL - 1) * 8) = evsCells L2 := by
          have e1 := splice_take (cur := cur) (o := kk * 8) (cs := evsCells (L.drop (kk + 1))) (by rw [hcl]; omega)
          rw [← hc1, hdl] at e1
          have e3 : kk * 8 + (nL - (kk + 1)) * 8 = (nL - 1) * 8 := by omega
          rw [e3] at e1
          have e4 : cur.take (kk * 8) = evsCells (L.take kk) := by
            rw [← evsCells_take, ← htk, List.take_take]
            congr 1
            omega
          rw [e4] at e1
          rw [e1, hL2, evsCells_append]
        have hsrcc : ∀ j u, (evsCells (L.drop (kk + 1)))[j]? = some u → cur[(kk + 1) * 8 + j]? = some u := fun j u hu => by
          rw [← evsCells_drop, List.getElem?_drop, ← htk, List.getElem?_take] at hu
          split at hu
          · exact hu
          · cases hu
        have hgl0 := HAP.out gl rfl
        generalize L[kk] = ev at *
        obtain ⟨src, num, at_, kd, pe, it, va, tx⟩ := ev
        unfold evCells at hrg
        simp only at hrg
        have HRG := Lib.hid hrg
        have HPP := Lib.hid hpp
        have HL2 := Lib.hid hL2
        have HLL2 := Lib.hid hl2
        have HDL := Lib.hid hdl
        have HC1 := Lib.hid hc1
        have HCL1 := Lib.hid hcl1
        have HCELLS := Lib.hid hcells
        have HSRC := Lib.hid hsrcc
        have HGB := Lib.hid hgb
        have HGBB := Lib.hid (And.intro hgB (And.intro hnc hcm))
        have HCL := Lib.hid hcl
        have HGL0 := Lib.hid hgl0
        clear hrg hpp hL2 hl2 hdl hc1 hcl1 hcells hsrcc hgb hgB hnc hcm hcl htk hnl hgl0 hkl
        go_wp2_with (first | (refine wpList_load_mid rfl _ _ rfl gl (kk * 8) (by rfl) _ _ HRG.out Tryd.underlying51 (by rfl) (by kernel_rfl) ?_) | (at_builtin; refine wpList_plain rfl fun K' hK' => ?_; refine wp_append_one wr (.tmp 31) (.tmp 36) _ rfl w.heap.size 51 (.agg #[.string ⟨#[]⟩, .int .i64 0, .int .i64 0, .int .i64 0, .string ⟨#[]⟩, .string ⟨#[]⟩, .int .i64 0, .string ⟨#[]⟩]) 8 96 u_evs ev_info rfl (by omega) A4 nO c4 (evsCells O) rfl HOO.out [Value.string src, .int .i64 num, .int .i64 at_, .int .i64 kd, .string pe, .string it, .int .i64 va, .string tx] rfl rfl (evCells_one ⟨src, num, at_, kd, pe, it, va, tx⟩) (by omega) (by unfold maxLen; omega) HSZ.out ?_; intro A7 c7 w7 hown7 hg7 hb7 hloc7; refine hK' _ _ ?_))
        have hb7s := hb7.size
        have hgl7 : gl < w7.heap.size := by have := HGL.out; have := hg7.size; omega
        have hgb7 : w7.heap[gl]? = some (.cells cur.toArray 51 (0, 0)) := (hg7.block gl HGL.out (fun h => HGL0.out h.symm)).trans HGB.out
        have hap7 : (Value.slice A7 (nO + 1) c7).ownBlock ≠ some gl := by
          rcases hloc7 with h | h
          · rw [h]; exact HGL0.out
          · rw [h]; intro e; injection e with e; have := HGL.out; omega
        have hrun : ∀ ty ad m', (nL - (kk + 1) = 0 ∨ ad = ⟨gl, (kk + 1) * 8, none⟩) → (Builtin.append_ #[23, 23] ty #[.slice (some ⟨gl, 0, none⟩) kk c3, .slice (some ad) (nL - (kk + 1)) m']).run Tryd.prog w7.drew = .ok (.slice (some ⟨gl, 0, none⟩) (kk + (nL - (kk + 1))) c3) (w7.drew.setRow gl (spliceL cur (kk * 8) (evsCells (L.drop (kk + 1)))).toArray) := fun ty ad m' had =>
          run_append_roomK (P := Tryd.prog) w7.drew _ ty 51 8 u_evs s_ev gl kk c3 cur hgb7 ad (nL - (kk + 1)) m' (evsCells (L.drop (kk + 1))) HDL.out (fun j u hu => by
            rcases had with h0 | rfl
            · have := (List.getElem?_eq_some_iff.1 hu).1
              rw [HDL.out] at this
              omega
            · exact cells_block (w := w7.drew) hgb7 ((kk + 1) * 8) HSRC.out j u hu) (evsCells_one _) (by have := HGBB.out; omega) (by have := HGBB.out; rw [HDL.out, HCL.out]; omega)
        have hil : kk + (nL - (kk + 1)) = nL - 1 := by omega
        rw [hil, ← HC1.out] at hrun
        obtain ⟨W8, hW8⟩ : ∃ W8, W8 = w7.drew.setRow gl cur1.toArray := ⟨_, rfl⟩
        rw [← hW8] at hrun
        have hg8 : w7.drew.grownBy W8 (some gl) := by rw [hW8]; exact grown_setRow w7.drew gl _
        have hol8 : W8.ownsRow w.heap.size 51 8 (.slice (some ⟨gl, 0, none⟩) (nL - 1) c3) (nL - 1) (evsCells L2) := own_of_block (by rw [hW8]; exact setRow_block (w := w7.drew) hgb7) HGBB.out.1 (by have := HGBB.out; omega) HGBB.out.2.2 HCL1.out HCELLS.out
        have hoo8 : W8.ownsRow w.heap.size 51 8 (.slice A7 (nO + 1) c7) (nO + 1) (evsCells (O ++ [⟨src, num, at_, kd, pe, it, va, tx⟩])) := by
          rw [evsCells_snoc]
          exact (Keeps.ofGrown hg8).own (show w7.drew.ownsRow _ _ _ _ _ _ from hown7) (fun q hq h => hap7 (by rw [hq, h]))
        have hb8 : Below w.heap.size w W8 := by
          refine (HB.out.trans hb7).drew.trans ((Keeps.ofGrown hg8).toBelow (by show w.heap.size ≤ w7.heap.size; have := HSZ.out; omega) (fun q h => ?_))
          injection h with h
          have := HGBB.out.1
          omega
        have HOL8 := Lib.hid hol8
        have HOO8 := Lib.hid hoo8
        have HB8 := Lib.hid hb8
        have HAP7 := Lib.hid hap7
        have HNC := Lib.hid HGBB.out.2
        have hcm2 : (c3 : Int) ≤ 9223372036854775807 := by have := HGBB.out.2.2; unfold maxLen at this; omega
        have hnc2 : (nL : Int) ≤ (c3 : Int) := by have := HGBB.out.2.1; omega
        clear hol8 hoo8 hb8 hg8 hW8 hap7 hgb7 hgl7 hb7s hb7 hg7 hown7 hloc7 HDL HC1 HCL1 HCELLS HSRC HGB HGBB HCL HGL0 HRG HOO HOL HAP hil
        have hw1 : IntKind.i64.wrap ((kk : Int) + 1) = (kk : Int) + 1 := by rw [IntKind.wrap_i64]; omega
        have hb1 : (0 : Int) ≤ (kk : Int) + 1 := by omega
        have hb0 : (kk : Int) + 1 ≤ (nL : Int) := by omega
        have hb6 : (kk : Int) ≤ (kk : Int) + 1 := by omega
        have htn : ((kk : Int) + 1).toNat = kk + 1 := by omega
        have hin : kk ≤ nL := by omega
        have hin2 : kk + 1 ≤ nL := by omega
        have hic : (kk : Int) ≤ (c3 : Int) := by omega
        have hl6 : ¬ (c3 = kk) := by omega
        by_cases hce : c3 = kk + 1
        · have had : nL - (kk + 1) = 0 := by omega
          have hrun0 := fun ty => hrun ty ⟨gl, 0, none⟩ 0 (.inl had)
          rw [had] at hrun0
          clear hrun
          subst hce
          go_wp2_with fail
          go_region_law_o (refine step_append_runI rfl _ _ 23 23 rfl _ _ (by simp [Act.eval, Act.put]) (by simp [Act.eval, Act.put]) (hrun0 _) ?_)
          go_wp2_with fail
          go_roundg (gk - 1)
          case measure => have := HNR.out; omega
          case rel => exact ⟨some ⟨gl, 0, none⟩, A7, nL - 1, kk + 1, nO + 1, c7, L2, O ++ [⟨src, num, at_, kd, pe, it, va, tx⟩], rfl, rfl, by go_num, Lib.hid (by have := HNR.out; omega), by omega, Lib.hid HLL2.out.symm, Lib.hid (by rw [List.length_append, ← HNO.out]; rfl), HPP, HOL8, HOO8, Lib.hid (fun q h => by injection h with h; rw [← h]; exact HAP7.out), HB8⟩
        · have hce2 : ¬ (c3 = kk + 1) := hce
          go_wp2_with fail
          go_region_law_o (refine step_append_runI rfl _ _ 23 23 rfl _ _ (by simp [Act.eval, Act.put]) (by simp [Act.eval, Act.put]) (hrun _ ⟨gl, (kk + 1) * 8, none⟩ (c3 - (kk + 1)) (.inr rfl)) ?_)
          go_wp2_with fail
          go_roundg (gk - 1)
          case measure => have := HNR.out; omega
          case rel => exact ⟨some ⟨gl, 0, none⟩, A7, nL - 1, c3, nO + 1, c7, L2, O ++ [⟨src, num, at_, kd, pe, it, va, tx⟩], rfl, rfl, by go_num, Lib.hid (by have := HNR.out; omega), by omega, Lib.hid HLL2.out.symm, Lib.hid (by rw [List.length_append, ← HNO.out]; rfl), HPP, HOL8, HOO8, Lib.hid (fun q h => by injection h with h; rw [← h]; exact HAP7.out), HB8⟩
    · have h0n : nL = 0 := by omega
      have hL : L = [] := List.eq_nil_of_length_eq_zero (by have := HNL.out; omega)
      have hnE : nO = E.length := by omega
      have hfin : TurnedNew w E (.returned (.slice A4 nO c4)) wr := by
        refine ⟨A4, c4, O, by rw [hnE], ?_, ?_, HB.out⟩
        · have := HP.out; rw [hL, List.append_nil] at this; exact this
        · have := Reads.of_own HOO.out; rw [hnE] at this; exact this
      have HF := Lib.hid hfin
      clear hfin hnE hL
      go_wp2_with fail
      go_ret
      exact HF.out
end Go.Proofs.YtaollcpoibgblaaDoor
