/- The walk of CachePlays. -/
import Derived.Test.YtjfknojkiiileaaCacN
namespace Go.Proofs.Ytjfknojkiiileaa
open Go.ChangeShapes Go.WideShapes Go.ChangeAt Go.RowKit
set_option linter.unusedVariables false
set_option linter.unusedSimpArgs false

theorem sizeOf_bd (n : Int) : 0 ≤ sizeOf' n ∧ sizeOf' n ≤ 4096 := by unfold sizeOf'; omega
/-- The reference finds what the cache has. -/
theorem at_found {us : Int} {V : CView} {m : List REnt} (hi : VInv us V) (h : Sim V m) {key : ByteArray} {q : PEnt} (hg : mget V key = some q) {i : Int} (ha : IsAt m key i) : ∃ (j : Nat) (hj : j < m.length), i = j ∧ m[j].key = key ∧ q.val = m[j].val ∧ rplain m[j] = pplain (m[j].key, q) ∧ mget V m[j].key = some q := by
  rcases ha with ⟨_, hno⟩ | ⟨j, hj, e, hk, _⟩
  · rw [sim_none h hno] at hg; cases hg
  · obtain ⟨q', hq', hp⟩ := sim_at hi h (List.getElem_mem hj)
    have hgj : mget V m[j].key = some q := by rw [hk]; exact hg
    rw [hgj] at hq'
    injection hq' with hq'
    subst hq'
    refine ⟨j, hj, e, hk, ?_, hp, hgj⟩
    exact (congrArg (fun q : ByteArray × ByteArray × List ByteArray => q.2.1) hp).symm
theorem at_gone {us : Int} {V : CView} {m : List REnt} (hi : VInv us V) (h : Sim V m) {key : ByteArray} (hg : mget V key = none) {i : Int} (ha : IsAt m key i) : i = -1 := by
  rcases ha with ⟨e, _⟩ | ⟨j, hj, _, hk, _⟩
  · exact e
  · obtain ⟨q, hq, _⟩ := sim_at hi h (List.getElem_mem hj)
    rw [hk, hg] at hq
    cases hq

set_option maxRecDepth 20000 in
set_option maxHeartbeats 16000000 in
theorem cachePlays_walk (sz0 : Int) (A : Option Addr) (c : Nat) (l : List CDeed) (w : World) (h : CDeedsAt w w.heap.size A l) (hl : (l.length : Int) ≤ 9223372036854775807) (hk : ∀ d ∈ l, d.key.size ≤ maxLen ∧ d.val.size ≤ maxLen ∧ d.deps.l.length ≤ maxLen) (hkind : ∀ d ∈ l, 0 ≤ d.kind ∧ d.kind ≤ 255) :
    Calls Try.prog 4 #[.int .i64 sz0, .slice A l.length c] w fun e w' => e = .returned (.bool true) ∧ Below w.heap.size w w' := by
  have HKS := Lib.hid hk
  have HKD := Lib.hid hkind
  clear hk hkind
  rcases Classical.em (CHeavy l) with hv | hnh
  · have HNH := Lib.hid hv
    clear hv
    go_enter Try.func4, Try.ntmps4
    go_wp2_with fail
    refine (clives_any _).mono ?_
    rintro e w1 ⟨rfl, hb1⟩
    go_wp2_with fail
    refine (cheavy_any A w.heap.size c l w1 (h.below hb1) hl HKS.out).mono ?_
    rintro e w1' ⟨⟨b, rfl, hb⟩, rfl⟩
    obtain rfl : b = true := hb.2 HNH.out
    go_wp2
    all_goals (go_ret; exact ⟨rfl, hb1⟩)
  · have HL60 : (l.length : Int) ≤ 60 := by
      have : ¬ 60 < (l.length : Int) := fun h => hnh (.inl h)
      omega
    have HDN : Hid (∀ d ∈ l, (d.deps.l.length : Int) ≤ 10) := Lib.hid (fun d hd => by
      have : ¬ 10 < (d.deps.l.length : Int) := fun h => hnh (.inr ⟨d, hd, .inr (.inr (.inl h))⟩)
      omega)
    have HNH := Lib.hid hnh
    clear hnh
    have hs12 := sizeOf_bd sz0
    obtain ⟨hs1, hs2⟩ := hs12
    have HRS := Lib.hid (fun W => rsize_any sz0 W)
    go_enter Try.func4, Try.ntmps4
    go_wp2_with fail
    refine (clives_any _).mono ?_
    rintro e w1 ⟨rfl, hb1⟩
    have z1 := hb1.size
    go_wp2_with fail
    refine (cheavy_any A w.heap.size c l w1 (h.below hb1) hl HKS.out).mono ?_
    rintro e w1' ⟨⟨b, rfl, hb⟩, rfl⟩
    obtain rfl : b = false := by
      cases b with
      | false => rfl
      | true => exact absurd (hb.1 rfl) HNH.out
    clear hb
    go_wp2_with fail
    refine (cnew_o sz0 _).mono ?_
    rintro e w2 ⟨cb, F2, rfl, hc2, hF2, hb2⟩
    generalize sizeOf' sz0 = sz at *
    have z2 := hb2.size
    have hbw2 : Below w.heap.size w w2 := hb1.trans (hb2.mono z1)
    clear hb1 hb2 HNH
    go_wp2_with fail
    go_loopg [6, 7] l.length (fun rest mm ii wr => CpRel w cb sz l rest mm ii wr)
    case atStart =>
      refine ⟨0, [], 0, some ⟨w2.heap.size, 0, none⟩, 0, [], F2, rfl, rfl, by simp, ?_⟩
      have hb3 : Below w2.heap.size w2 (w2.alloc (.cells #[] 41)) := (Below.refl _ _).alloc (by simp) _
      refine ⟨(CacO.own _ _ _ _).below hc2 hb3, fun k hk => by have := hF2 k hk; omega, VInv.init, ⟨[], ⟨List.Perm.refl _, by simp⟩, rfl⟩, ⟨Reads.none_, by simp, (fun h => by cases h), fun b o sp e => by injection e with e; injection e with _ _ e; exact e.symm⟩, ?_, ?_, by simp, by omega, by simp, by simp, by simpa using hs1, by simp, hbw2.trans (hb3.mono (by omega))⟩
      · intro b o sp e hF
        injection e with e
        injection e with e1
        have := (CacO.own _ _ _ _).lt hc2 b hF
        omega
      · intro b o sp e
        injection e with e
        injection e with e1
        simp
        omega
    case round =>
      clear hc2 hF2 hbw2 z2
      obtain ⟨k, V, us, mA, mc, m, F, rfl, rfl, hkr, hf⟩ := hrel
      have HK := Lib.hid hkr
      clear hkr
      have q1 := hf.us1
      have q2 := hf.us0
      have q3 := hf.vl
      have hml := sim_len hf.sim
      have q4 : (m.length : Int) ≤ 60 := by rw [hml]; have := HK.out; omega
      clear hml
      have HF := Lib.hid hf
      have hkl' : (k : Int) ≤ (l.length : Int) := by have := HK.out; omega
      by_cases hk : (k : Int) < (l.length : Int)
      · have hkl : k < l.length := by omega
        obtain ⟨b, o, rfl, hbl, c0, c1, c2⟩ := (h.below hf.below).one hkl
        obtain ⟨c2, c3⟩ := c2
        have hsz := HKS.out _ (List.getElem_mem hkl)
        have hkd := HKD.out _ (List.getElem_mem hkl)
        have hdn := HDN.out _ (List.getElem_mem hkl)
        have hds := h.2 _ (List.getElem_mem hkl)
        generalize l[k] = x at *
        obtain ⟨kind, xk, xv, xd⟩ := x
        obtain ⟨xA, xc, xl⟩ := xd
        simp only at c0 c1 c2 c3 hsz hkd hdn hds
        obtain ⟨z5, z6, z7⟩ := hsz
        clear hf
        have hcases : (kind = 0 ∨ kind = 1) ∨ (kind = 2 ∨ kind = 3) ∨ kind = 4 ∨ (¬ kind = 0 ∧ ¬ kind = 1 ∧ ¬ kind = 2 ∧ ¬ kind = 3 ∧ ¬ kind = 4) := by omega
        have hwd := HF.out.mid.grow ((Below.refl _ _).alloc (Nat.le_refl _) (.cells #[.int .u8 kind, .string xk, .string xv, .slice xA xl.length xc] 29))
        have HWD := Lib.hid hwd
        have HDD : Hid (StrsAt _ _ xA xl) := Lib.hid ((hds.below hwd.below).more hwd.below.size)
        clear hwd
        rcases hcases with h01 | h23 | h4 | hno
        · have hnd := sim_nodup HF.out.sim HF.out.inv.nd
          have HND := Lib.hid hnd
          clear hnd
          rcases h01 with rfl | rfl
          · go_wp2_with fail
            refine (cput_o HWD.out.cac q2 (by omega) xk xv z5 z6 xA xc xl HDD.out (by omega) (by omega) (by omega) (by omega)).mono ?_
            rintro e w5 ⟨rfl, V6, F6, hC5, hc5, hu5⟩
            obtain ⟨us6, hus6⟩ : ∃ us6, us6 = us + 1 := ⟨_, rfl⟩
            have hm5 := HWD.out.put hC5 hc5 hu5 hdn
            have hsim6 := sim_put HF.out.inv HF.out.sim ⟨xk, xv, ⟨xA, xc, xl⟩⟩ ⟨xv, xl, us + 1⟩ rfl rfl hC5
            rw [← hus6] at hm5
            have HM := Lib.hid hm5
            have HSIM := Lib.hid hsim6
            have d1 : w5.cell? ⟨wr.heap.size, 1, none⟩ = some (.string xk) := HF.out.mid.cell (j := 1) hu5 (by simp) (by simp)
            have d2 : w5.cell? ⟨wr.heap.size, 2, none⟩ = some (.string xv) := HF.out.mid.cell (j := 2) hu5 (by simp) (by simp)
            have d3 : w5.cell? ⟨wr.heap.size, 3, none⟩ = some (.slice xA xl.length xc) := HF.out.mid.cell (j := 3) hu5 (by simp) (by simp)
            have hz5 : wr.heap.size < w5.heap.size := Nat.lt_of_lt_of_le (by simp) hu5.keeps.size
            have HE5 : Hid (EntsAt w5.drew mA mc m) := Lib.hid (HM.out.ents.below (Below.refl _ _).drew)
            clear hC5 hc5 hu5 hus6 hm5 hsim6
            go_wp2_with fail
            refine heldStart 11 (S := fun W => W.cell? ⟨wr.heap.size, 1, none⟩ = some (.string xk) ∧ W.cell? ⟨wr.heap.size, 2, none⟩ = some (.string xv) ∧ W.cell? ⟨wr.heap.size, 3, none⟩ = some (.slice xA xl.length xc)) (by kernel_rfl) ?_ (fun hHeld => ?_)
            · first | exact ⟨d1, d2, d3⟩ | exact ⟨(hb6.cell (p := ⟨wr.heap.size, 1, none⟩) hz5).trans d1, (hb6.cell (p := ⟨wr.heap.size, 2, none⟩) hz5).trans d2, (hb6.cell (p := ⟨wr.heap.size, 3, none⟩) hz5).trans d3⟩
            refine heldTake 0 (v := ?_) (by simp only [List.getElem?_toArray, List.getElem?_cons_succ, List.getElem?_cons_zero]; rfl) (by kernel_rfl) (by intro _ _ _ h; exact h) (by rfl) (by assumption) ?_ ?_
            rotate_left
            · intro W hSw; (try dsimp only at hSw); go_simp; try with_reducible rfl
            simp only [Act.put, List.setIfInBounds_toArray, List.set_cons_zero, List.set_cons_succ]
            refine heldTake 1 (v := ?_) (by simp only [List.getElem?_toArray, List.getElem?_cons_succ, List.getElem?_cons_zero]; rfl) (by kernel_rfl) (by intro _ _ _ h; exact h) (by rfl) (by assumption) ?_ ?_
            rotate_left
            · intro W hSw; (try dsimp only at hSw); go_simp; try with_reducible rfl
            simp only [Act.put, List.setIfInBounds_toArray, List.set_cons_zero, List.set_cons_succ]
            refine heldTake 3 (v := ?_) (by simp only [List.getElem?_toArray, List.getElem?_cons_succ, List.getElem?_cons_zero]; rfl) (by kernel_rfl) (by intro _ _ _ h; exact h) (by rfl) (by assumption) ?_ ?_
            rotate_left
            · intro W hSw; (try dsimp only at hSw); go_simp; try with_reducible rfl
            simp only [Act.put, List.setIfInBounds_toArray, List.set_cons_zero, List.set_cons_succ]
            refine heldTake 4 (v := ?_) (by simp only [List.getElem?_toArray, List.getElem?_cons_succ, List.getElem?_cons_zero]; rfl) (by kernel_rfl) (by intro _ _ _ h; exact h) (by rfl) (by assumption) ?_ ?_
            rotate_left
            · intro W hSw; (try dsimp only at hSw); go_simp; try with_reducible rfl
            simp only [Act.put, List.setIfInBounds_toArray, List.set_cons_zero, List.set_cons_succ]
            refine heldTake 5 (v := ?_) (by simp only [List.getElem?_toArray, List.getElem?_cons_succ, List.getElem?_cons_zero]; rfl) (by kernel_rfl) (by intro _ _ _ h; exact h) (by rfl) (by assumption) ?_ ?_
            rotate_left
            · intro W hSw; (try dsimp only at hSw); go_simp; try with_reducible rfl
            simp only [Act.put, List.setIfInBounds_toArray, List.set_cons_zero, List.set_cons_succ]
            refine heldTake 6 (v := ?_) (by simp only [List.getElem?_toArray, List.getElem?_cons_succ, List.getElem?_cons_zero]; rfl) (by kernel_rfl) (by intro _ _ _ h; exact h) (by rfl) (by assumption) ?_ ?_
            rotate_left
            · intro W hSw; (try dsimp only at hSw); go_simp; try with_reducible rfl
            simp only [Act.put, List.setIfInBounds_toArray, List.set_cons_zero, List.set_cons_succ]
            refine heldTake 7 (v := ?_) (by simp only [List.getElem?_toArray, List.getElem?_cons_succ, List.getElem?_cons_zero]; rfl) (by kernel_rfl) (by intro _ _ _ h; exact h) (by rfl) (by assumption) ?_ ?_
            rotate_left
            · intro W hSw; (try dsimp only at hSw); go_simp; try with_reducible rfl
            simp only [Act.put, List.setIfInBounds_toArray, List.set_cons_zero, List.set_cons_succ]
            refine heldTake 8 (v := ?_) (by simp only [List.getElem?_toArray, List.getElem?_cons_succ, List.getElem?_cons_zero]; rfl) (by kernel_rfl) (by intro _ _ _ h; exact h) (by rfl) (by assumption) ?_ ?_
            rotate_left
            · intro W hSw; (try dsimp only at hSw); go_simp; try with_reducible rfl
            simp only [Act.put, List.setIfInBounds_toArray, List.set_cons_zero, List.set_cons_succ]
            refine heldTake 9 (v := ?_) (by simp only [List.getElem?_toArray, List.getElem?_cons_succ, List.getElem?_cons_zero]; rfl) (by kernel_rfl) (by intro _ _ _ h; exact h) (by rfl) (by assumption) ?_ ?_
            rotate_left
            · intro W hSw; (try dsimp only at hSw); go_simp; try with_reducible rfl
            simp only [Act.put, List.setIfInBounds_toArray, List.set_cons_zero, List.set_cons_succ]
            refine heldCall 2 (by simp only [List.getElem?_toArray, List.getElem?_cons_succ, List.getElem?_cons_zero]; rfl) (by kernel_rfl) (fun K hK => ?_)
            go_simp
            refine (HRS.out _).mono ?_
            rintro e w6 ⟨rfl, rfl⟩
            go_wp2_with fail
            refine hK.out _ _ ?_ (fun hHeld => ?_)
            · first | exact ⟨d1, d2, d3⟩ | exact ⟨(hb6.cell (p := ⟨wr.heap.size, 1, none⟩) hz5).trans d1, (hb6.cell (p := ⟨wr.heap.size, 2, none⟩) hz5).trans d2, (hb6.cell (p := ⟨wr.heap.size, 3, none⟩) hz5).trans d3⟩
            clear hK K
            (try simp only [Act.put, List.setIfInBounds_toArray, List.set_cons_zero, List.set_cons_succ])
            refine heldCall 10 (by simp only [List.getElem?_toArray, List.getElem?_cons_succ, List.getElem?_cons_zero]; rfl) (by kernel_rfl) (fun K hK => ?_)
            go_simp
            refine (rput29_any HE5.out (by omega) sz ⟨xk, xv, ⟨xA, xc, xl⟩⟩ HND.out).mono ?_
            rintro e w6 ⟨A6, c6, rfl, hE6, hn6, hb6⟩
            go_wp2_with fail
            refine hK.out _ _ ?_ (fun hHeld => ?_)
            · first | exact ⟨d1, d2, d3⟩ | exact ⟨(hb6.cell (p := ⟨wr.heap.size, 1, none⟩) hz5).trans d1, (hb6.cell (p := ⟨wr.heap.size, 2, none⟩) hz5).trans d2, (hb6.cell (p := ⟨wr.heap.size, 3, none⟩) hz5).trans d3⟩
            clear hK K
            (try simp only [Act.put, List.setIfInBounds_toArray, List.set_cons_zero, List.set_cons_succ])
            refine heldTake 11 (v := ?_) (by simp only [List.getElem?_toArray, List.getElem?_cons_succ, List.getElem?_cons_zero]; rfl) (by kernel_rfl) (by intro _ _ _ h; exact h) (by rfl) (by assumption) ?_ ?_
            rotate_left
            · intro W hSw; (try dsimp only at hSw); go_simp; try with_reducible rfl
            simp only [Act.put, List.setIfInBounds_toArray, List.set_cons_zero, List.set_cons_succ]
            refine heldDone (by kernel_rfl) ?_ _
            have HA6 := Lib.hid (HM.out.row hE6 hn6 (below_of_drew hb6) HSIM.out (fun e he => by
              rcases rput_mem he with h1 | rfl
              · exact HF.out.mdep e h1
              · exact ⟨hds, hdn⟩))
            clear hE6 hn6 hb6 hHeld HE5 HM HSIM d1 d2 d3 hz5
            generalize rputV m sz ⟨xk, xv, ⟨xA, xc, xl⟩⟩ = m6 at *
            obtain ⟨M, hM, hsim0, hkk, hlen⟩ := sim_keys HA6.out.sim
            have hq := ckeys_o HA6.out.cac HA6.out.inv hM (by have := HA6.out.vl; omega)
            rw [← hkk] at hq
            have HKS : Hid (∀ s ∈ m6.map (·.key), s.size ≤ maxLen) := Lib.hid (fun s hs => CacO.keys HA6.out.cac s ((hM.1.map _).subset (hkk ▸ hs)))
            have hlq := clen_o HA6.out.cac
            rw [← hlen] at hlq
            have hm60 : (m6.length : Int) ≤ 60 := by rw [hlen]; have := HA6.out.vl; omega
            have hrq := fun (W : World) (hE : EntsAt W A6 c6 m6) => rkeys29_any hE (by omega)
            have hKn : (m6.map (·.key)).length = m6.length := by simp
            generalize m6.map (·.key) = K at *
            have HQ := Lib.hid hq
            have HLQ := Lib.hid hlq
            have HRQ := Lib.hid hrq
            have HKN := Lib.hid hKn
            clear hq hlq hrq hKn hM hsim0 hkk hlen
            have hne : ((m6.length : Int) != (m6.length : Int)) = false := by simp
            go_wp2_with fail
            refine HLQ.out.mono ?_
            rintro e w7 ⟨rfl, rfl⟩
            go_wp2_with fail
            refine HQ.out.mono ?_
            rintro e w7 ⟨A7, c7, rfl, ho7, hb7⟩
            have HG7 := Lib.hid (HA6.out.mid.grow hb7)
            have hS7 : StrsAt w7 w7.heap.size A7 K := StrsAt.of_own ho7 HKS.out
            clear ho7
            go_wp2_with fail
            refine (HRQ.out w7 HG7.out.ents).mono ?_
            rintro e w8 ⟨A8, c8, rfl, ho8, hb8⟩
            have HG8 := Lib.hid (HG7.out.grow hb8)
            have hS8 : StrsAt w8 w8.heap.size A8 K := StrsAt.of_own ho8 HKS.out
            have hS78 := (hS7.below hb8).more hb8.size
            have HTX := Lib.hid (texts_any A7 A8 w8.heap.size w8.heap.size c7 c8 K K w8 hS78 hS8 (Nat.le_refl _) (Nat.le_refl _) (by rw [HKN.out]; omega))
            clear ho8 hS7 hS8 hS78 hb8 hb7
            go_wp2_with fail
            refine HTX.out.mono ?_
            rintro e w9 ⟨rfl, hg9⟩
            have HA9 := Lib.hid ((HG8.out.grow hg9.below).full HA6.out.sim HA6.out.mdep)
            clear hg9
            go_wp2
            go_roundg (gk - 1)
            case measure => have := HK.out; omega
            case rel => exact ⟨k + 1, V6, us6, A6, c6, m6, F6, rfl, by go_num, by have := HK.out; omega, by simpa using HA9.out⟩
          · go_wp2_with fail
            refine (cput_o HWD.out.cac q2 (by omega) xk xv z5 z6 xA xc xl HDD.out (by omega) (by omega) (by omega) (by omega)).mono ?_
            rintro e w5 ⟨rfl, V6, F6, hC5, hc5, hu5⟩
            obtain ⟨us6, hus6⟩ : ∃ us6, us6 = us + 1 := ⟨_, rfl⟩
            have hm5 := HWD.out.put hC5 hc5 hu5 hdn
            have hsim6 := sim_put HF.out.inv HF.out.sim ⟨xk, xv, ⟨xA, xc, xl⟩⟩ ⟨xv, xl, us + 1⟩ rfl rfl hC5
            rw [← hus6] at hm5
            have HM := Lib.hid hm5
            have HSIM := Lib.hid hsim6
            have d1 : w5.cell? ⟨wr.heap.size, 1, none⟩ = some (.string xk) := HF.out.mid.cell (j := 1) hu5 (by simp) (by simp)
            have d2 : w5.cell? ⟨wr.heap.size, 2, none⟩ = some (.string xv) := HF.out.mid.cell (j := 2) hu5 (by simp) (by simp)
            have d3 : w5.cell? ⟨wr.heap.size, 3, none⟩ = some (.slice xA xl.length xc) := HF.out.mid.cell (j := 3) hu5 (by simp) (by simp)
            have hz5 : wr.heap.size < w5.heap.size := Nat.lt_of_lt_of_le (by simp) hu5.keeps.size
            have HE5 : Hid (EntsAt w5.drew mA mc m) := Lib.hid (HM.out.ents.below (Below.refl _ _).drew)
            clear hC5 hc5 hu5 hus6 hm5 hsim6
            go_wp2_with fail
            refine heldStart 11 (S := fun W => W.cell? ⟨wr.heap.size, 1, none⟩ = some (.string xk) ∧ W.cell? ⟨wr.heap.size, 2, none⟩ = some (.string xv) ∧ W.cell? ⟨wr.heap.size, 3, none⟩ = some (.slice xA xl.length xc)) (by kernel_rfl) ?_ (fun hHeld => ?_)
            · first | exact ⟨d1, d2, d3⟩ | exact ⟨(hb6.cell (p := ⟨wr.heap.size, 1, none⟩) hz5).trans d1, (hb6.cell (p := ⟨wr.heap.size, 2, none⟩) hz5).trans d2, (hb6.cell (p := ⟨wr.heap.size, 3, none⟩) hz5).trans d3⟩
            refine heldTake 0 (v := ?_) (by simp only [List.getElem?_toArray, List.getElem?_cons_succ, List.getElem?_cons_zero]; rfl) (by kernel_rfl) (by intro _ _ _ h; exact h) (by rfl) (by assumption) ?_ ?_
            rotate_left
            · intro W hSw; (try dsimp only at hSw); go_simp; try with_reducible rfl
            simp only [Act.put, List.setIfInBounds_toArray, List.set_cons_zero, List.set_cons_succ]
            refine heldTake 1 (v := ?_) (by simp only [List.getElem?_toArray, List.getElem?_cons_succ, List.getElem?_cons_zero]; rfl) (by kernel_rfl) (by intro _ _ _ h; exact h) (by rfl) (by assumption) ?_ ?_
            rotate_left
            · intro W hSw; (try dsimp only at hSw); go_simp; try with_reducible rfl
            simp only [Act.put, List.setIfInBounds_toArray, List.set_cons_zero, List.set_cons_succ]
            refine heldTake 3 (v := ?_) (by simp only [List.getElem?_toArray, List.getElem?_cons_succ, List.getElem?_cons_zero]; rfl) (by kernel_rfl) (by intro _ _ _ h; exact h) (by rfl) (by assumption) ?_ ?_
            rotate_left
            · intro W hSw; (try dsimp only at hSw); go_simp; try with_reducible rfl
            simp only [Act.put, List.setIfInBounds_toArray, List.set_cons_zero, List.set_cons_succ]
            refine heldTake 4 (v := ?_) (by simp only [List.getElem?_toArray, List.getElem?_cons_succ, List.getElem?_cons_zero]; rfl) (by kernel_rfl) (by intro _ _ _ h; exact h) (by rfl) (by assumption) ?_ ?_
            rotate_left
            · intro W hSw; (try dsimp only at hSw); go_simp; try with_reducible rfl
            simp only [Act.put, List.setIfInBounds_toArray, List.set_cons_zero, List.set_cons_succ]
            refine heldTake 5 (v := ?_) (by simp only [List.getElem?_toArray, List.getElem?_cons_succ, List.getElem?_cons_zero]; rfl) (by kernel_rfl) (by intro _ _ _ h; exact h) (by rfl) (by assumption) ?_ ?_
            rotate_left
            · intro W hSw; (try dsimp only at hSw); go_simp; try with_reducible rfl
            simp only [Act.put, List.setIfInBounds_toArray, List.set_cons_zero, List.set_cons_succ]
            refine heldTake 6 (v := ?_) (by simp only [List.getElem?_toArray, List.getElem?_cons_succ, List.getElem?_cons_zero]; rfl) (by kernel_rfl) (by intro _ _ _ h; exact h) (by rfl) (by assumption) ?_ ?_
            rotate_left
            · intro W hSw; (try dsimp only at hSw); go_simp; try with_reducible rfl
            simp only [Act.put, List.setIfInBounds_toArray, List.set_cons_zero, List.set_cons_succ]
            refine heldTake 7 (v := ?_) (by simp only [List.getElem?_toArray, List.getElem?_cons_succ, List.getElem?_cons_zero]; rfl) (by kernel_rfl) (by intro _ _ _ h; exact h) (by rfl) (by assumption) ?_ ?_
            rotate_left
            · intro W hSw; (try dsimp only at hSw); go_simp; try with_reducible rfl
            simp only [Act.put, List.setIfInBounds_toArray, List.set_cons_zero, List.set_cons_succ]
            refine heldTake 8 (v := ?_) (by simp only [List.getElem?_toArray, List.getElem?_cons_succ, List.getElem?_cons_zero]; rfl) (by kernel_rfl) (by intro _ _ _ h; exact h) (by rfl) (by assumption) ?_ ?_
            rotate_left
            · intro W hSw; (try dsimp only at hSw); go_simp; try with_reducible rfl
            simp only [Act.put, List.setIfInBounds_toArray, List.set_cons_zero, List.set_cons_succ]
            refine heldTake 9 (v := ?_) (by simp only [List.getElem?_toArray, List.getElem?_cons_succ, List.getElem?_cons_zero]; rfl) (by kernel_rfl) (by intro _ _ _ h; exact h) (by rfl) (by assumption) ?_ ?_
            rotate_left
            · intro W hSw; (try dsimp only at hSw); go_simp; try with_reducible rfl
            simp only [Act.put, List.setIfInBounds_toArray, List.set_cons_zero, List.set_cons_succ]
            refine heldCall 2 (by simp only [List.getElem?_toArray, List.getElem?_cons_succ, List.getElem?_cons_zero]; rfl) (by kernel_rfl) (fun K hK => ?_)
            go_simp
            refine (HRS.out _).mono ?_
            rintro e w6 ⟨rfl, rfl⟩
            go_wp2_with fail
            refine hK.out _ _ ?_ (fun hHeld => ?_)
            · first | exact ⟨d1, d2, d3⟩ | exact ⟨(hb6.cell (p := ⟨wr.heap.size, 1, none⟩) hz5).trans d1, (hb6.cell (p := ⟨wr.heap.size, 2, none⟩) hz5).trans d2, (hb6.cell (p := ⟨wr.heap.size, 3, none⟩) hz5).trans d3⟩
            clear hK K
            (try simp only [Act.put, List.setIfInBounds_toArray, List.set_cons_zero, List.set_cons_succ])
            refine heldCall 10 (by simp only [List.getElem?_toArray, List.getElem?_cons_succ, List.getElem?_cons_zero]; rfl) (by kernel_rfl) (fun K hK => ?_)
            go_simp
            refine (rput29_any HE5.out (by omega) sz ⟨xk, xv, ⟨xA, xc, xl⟩⟩ HND.out).mono ?_
            rintro e w6 ⟨A6, c6, rfl, hE6, hn6, hb6⟩
            go_wp2_with fail
            refine hK.out _ _ ?_ (fun hHeld => ?_)
            · first | exact ⟨d1, d2, d3⟩ | exact ⟨(hb6.cell (p := ⟨wr.heap.size, 1, none⟩) hz5).trans d1, (hb6.cell (p := ⟨wr.heap.size, 2, none⟩) hz5).trans d2, (hb6.cell (p := ⟨wr.heap.size, 3, none⟩) hz5).trans d3⟩
            clear hK K
            (try simp only [Act.put, List.setIfInBounds_toArray, List.set_cons_zero, List.set_cons_succ])
            refine heldTake 11 (v := ?_) (by simp only [List.getElem?_toArray, List.getElem?_cons_succ, List.getElem?_cons_zero]; rfl) (by kernel_rfl) (by intro _ _ _ h; exact h) (by rfl) (by assumption) ?_ ?_
            rotate_left
            · intro W hSw; (try dsimp only at hSw); go_simp; try with_reducible rfl
            simp only [Act.put, List.setIfInBounds_toArray, List.set_cons_zero, List.set_cons_succ]
            refine heldDone (by kernel_rfl) ?_ _
            have HA6 := Lib.hid (HM.out.row hE6 hn6 (below_of_drew hb6) HSIM.out (fun e he => by
              rcases rput_mem he with h1 | rfl
              · exact HF.out.mdep e h1
              · exact ⟨hds, hdn⟩))
            clear hE6 hn6 hb6 hHeld HE5 HM HSIM d1 d2 d3 hz5
            generalize rputV m sz ⟨xk, xv, ⟨xA, xc, xl⟩⟩ = m6 at *
            obtain ⟨M, hM, hsim0, hkk, hlen⟩ := sim_keys HA6.out.sim
            have hq := ckeys_o HA6.out.cac HA6.out.inv hM (by have := HA6.out.vl; omega)
            rw [← hkk] at hq
            have HKS : Hid (∀ s ∈ m6.map (·.key), s.size ≤ maxLen) := Lib.hid (fun s hs => CacO.keys HA6.out.cac s ((hM.1.map _).subset (hkk ▸ hs)))
            have hlq := clen_o HA6.out.cac
            rw [← hlen] at hlq
            have hm60 : (m6.length : Int) ≤ 60 := by rw [hlen]; have := HA6.out.vl; omega
            have hrq := fun (W : World) (hE : EntsAt W A6 c6 m6) => rkeys29_any hE (by omega)
            have hKn : (m6.map (·.key)).length = m6.length := by simp
            generalize m6.map (·.key) = K at *
            have HQ := Lib.hid hq
            have HLQ := Lib.hid hlq
            have HRQ := Lib.hid hrq
            have HKN := Lib.hid hKn
            clear hq hlq hrq hKn hM hsim0 hkk hlen
            have hne : ((m6.length : Int) != (m6.length : Int)) = false := by simp
            go_wp2_with fail
            refine HLQ.out.mono ?_
            rintro e w7 ⟨rfl, rfl⟩
            go_wp2_with fail
            refine HQ.out.mono ?_
            rintro e w7 ⟨A7, c7, rfl, ho7, hb7⟩
            have HG7 := Lib.hid (HA6.out.mid.grow hb7)
            have hS7 : StrsAt w7 w7.heap.size A7 K := StrsAt.of_own ho7 HKS.out
            clear ho7
            go_wp2_with fail
            refine (HRQ.out w7 HG7.out.ents).mono ?_
            rintro e w8 ⟨A8, c8, rfl, ho8, hb8⟩
            have HG8 := Lib.hid (HG7.out.grow hb8)
            have hS8 : StrsAt w8 w8.heap.size A8 K := StrsAt.of_own ho8 HKS.out
            have hS78 := (hS7.below hb8).more hb8.size
            have HTX := Lib.hid (texts_any A7 A8 w8.heap.size w8.heap.size c7 c8 K K w8 hS78 hS8 (Nat.le_refl _) (Nat.le_refl _) (by rw [HKN.out]; omega))
            clear ho8 hS7 hS8 hS78 hb8 hb7
            go_wp2_with fail
            refine HTX.out.mono ?_
            rintro e w9 ⟨rfl, hg9⟩
            have HA9 := Lib.hid ((HG8.out.grow hg9.below).full HA6.out.sim HA6.out.mdep)
            clear hg9
            go_wp2
            go_roundg (gk - 1)
            case measure => have := HK.out; omega
            case rel => exact ⟨k + 1, V6, us6, A6, c6, m6, F6, rfl, by go_num, by have := HK.out; omega, by simpa using HA9.out⟩
        · cases hg : mget V xk with
          | some q =>
            have HG := Lib.hid hg
            clear hg
            rcases h23 with rfl | rfl
            · go_wp2_with fail
              refine (cget_o HWD.out.cac q2 (by omega) xk z5).mono ?_
              intro e w5 hp
              unfold CGetO at hp
              rw [HG.out] at hp
              obtain ⟨rfl, F6, hc5, hu5⟩ := hp
              have HM := Lib.hid (HWD.out.use hc5 hu5)
              have d1 : w5.cell? ⟨wr.heap.size, 1, none⟩ = some (.string xk) := HF.out.mid.cell (j := 1) hu5 (by simp) (by simp)
              clear hc5 hu5
              go_wp2_with fail
              refine (rat29_any HM.out.ents (by omega) xk).mono ?_
              rintro e w6 ⟨i, rfl, hia, rfl⟩
              obtain ⟨j, hj, rfl, hjk, hjv, hjp, hjg⟩ := at_found HF.out.inv HF.out.sim HG.out hia
              obtain ⟨be, oe, hAe, hbe, e0, e1, e2⟩ := HM.out.ents.one hj
              subst hAe
              have hsim6 := sim_use (sz := sz) HF.out.inv HF.out.sim HF.out.vs (List.getElem_mem hj) hjg hjp
              have hmd := HF.out.mdep _ (List.getElem_mem hj)
              have hj0 : 0 ≤ (j : Int) := by omega
              have hjm : (j : Int) < (m.length : Int) := by omega
              have hnev : (q.val.toList != m[j].val.toList) = false := by rw [hjv]; simp
              have hnev2 : (q.val.toList == m[j].val.toList) = true := by rw [hjv]; simp
              have HMEM := Lib.hid (fun (x : REnt) (hx : x ∈ rputV m sz m[j]) => rput_mem hx)
              have HE5 : Hid (EntsAt w5.drew (some ⟨be, oe, none⟩) mc m) := Lib.hid (HM.out.ents.below (Below.refl _ _).drew)
              have HPUT := Lib.hid (rput29_any HE5.out (by omega) sz m[j] (sim_nodup HF.out.sim HF.out.inv.nd))
              have HSIM : Hid (Sim (useV V xk (us + 1)) (rputV m sz m[j])) := Lib.hid (by rw [hjk] at hsim6; exact hsim6)
              have HMD := Lib.hid hmd
              clear hjk hjv hjp hjg hia hsim6 hmd HG
              generalize rputV m sz m[j] = m6 at *
              generalize m[j] = y at *
              obtain ⟨us6, hus6⟩ : ∃ us6, us6 = us + 1 := ⟨_, rfl⟩
              rw [← hus6] at HM HSIM
              generalize useV V xk us6 = V6 at *
              clear hus6
              go_wp2_with fail
              refine heldStart 8 (S := fun W => W.cell? ⟨be, oe + j * 3, none⟩ = some (.string y.key) ∧ W.cell? ⟨be, oe + j * 3 + 1, none⟩ = some (.string y.val) ∧ W.cell? ⟨be, oe + j * 3 + 1 + 1, none⟩ = some (.slice y.deps.adr y.deps.l.length y.deps.cap)) (by kernel_rfl) ?_ (fun hHeld => ?_)
              · first | exact ⟨e0, e1, e2⟩ | exact ⟨(hb6.cell (p := ⟨be, oe + j * 3, none⟩) hbe).trans e0, (hb6.cell (p := ⟨be, oe + j * 3 + 1, none⟩) hbe).trans e1, (hb6.cell (p := ⟨be, oe + j * 3 + 1 + 1, none⟩) hbe).trans e2⟩
              refine heldTake 0 (v := ?_) (by simp only [List.getElem?_toArray, List.getElem?_cons_succ, List.getElem?_cons_zero]; rfl) (by kernel_rfl) (by intro _ _ _ h; exact h) (by rfl) (by assumption) ?_ ?_
              rotate_left
              · intro W hSw; (try dsimp only at hSw); go_simp; try with_reducible rfl
              simp only [Act.put, List.setIfInBounds_toArray, List.set_cons_zero, List.set_cons_succ]
              refine heldTake 1 (v := ?_) (by simp only [List.getElem?_toArray, List.getElem?_cons_succ, List.getElem?_cons_zero]; rfl) (by kernel_rfl) (by intro _ _ _ h; exact h) (by rfl) (by assumption) ?_ ?_
              rotate_left
              · intro W hSw; (try dsimp only at hSw); go_simp; try with_reducible rfl
              simp only [Act.put, List.setIfInBounds_toArray, List.set_cons_zero, List.set_cons_succ]
              refine heldTake 3 (v := ?_) (by simp only [List.getElem?_toArray, List.getElem?_cons_succ, List.getElem?_cons_zero]; rfl) (by kernel_rfl) (by intro _ _ _ h; exact h) (by rfl) (by assumption) ?_ ?_
              rotate_left
              · intro W hSw; (try dsimp only at hSw); go_simp; try with_reducible rfl
              simp only [Act.put, List.setIfInBounds_toArray, List.set_cons_zero, List.set_cons_succ]
              refine heldTake 4 (v := ?_) (by simp only [List.getElem?_toArray, List.getElem?_cons_succ, List.getElem?_cons_zero]; rfl) (by kernel_rfl) (by intro _ _ _ h; exact h) (by rfl) (by assumption) ?_ ?_
              rotate_left
              · intro W hSw; (try dsimp only at hSw); go_simp; try with_reducible rfl
              simp only [Act.put, List.setIfInBounds_toArray, List.set_cons_zero, List.set_cons_succ]
              refine heldTake 5 (v := ?_) (by simp only [List.getElem?_toArray, List.getElem?_cons_succ, List.getElem?_cons_zero]; rfl) (by kernel_rfl) (by intro _ _ _ h; exact h) (by rfl) (by assumption) ?_ ?_
              rotate_left
              · intro W hSw; (try dsimp only at hSw); go_simp; try with_reducible rfl
              simp only [Act.put, List.setIfInBounds_toArray, List.set_cons_zero, List.set_cons_succ]
              refine heldTake 6 (v := ?_) (by simp only [List.getElem?_toArray, List.getElem?_cons_succ, List.getElem?_cons_zero]; rfl) (by kernel_rfl) (by intro _ _ _ h; exact h) (by rfl) (by assumption) ?_ ?_
              rotate_left
              · intro W hSw; (try dsimp only at hSw); go_simp; try with_reducible rfl
              simp only [Act.put, List.setIfInBounds_toArray, List.set_cons_zero, List.set_cons_succ]
              refine heldCall 2 (by simp only [List.getElem?_toArray, List.getElem?_cons_succ, List.getElem?_cons_zero]; rfl) (by kernel_rfl) (fun K hK => ?_)
              go_simp
              refine (HRS.out _).mono ?_
              rintro e w6 ⟨rfl, rfl⟩
              go_wp2_with fail
              refine hK.out _ _ ?_ (fun hHeld => ?_)
              · first | exact ⟨e0, e1, e2⟩ | exact ⟨(hb6.cell (p := ⟨be, oe + j * 3, none⟩) hbe).trans e0, (hb6.cell (p := ⟨be, oe + j * 3 + 1, none⟩) hbe).trans e1, (hb6.cell (p := ⟨be, oe + j * 3 + 1 + 1, none⟩) hbe).trans e2⟩
              clear hK K
              (try simp only [Act.put, List.setIfInBounds_toArray, List.set_cons_zero, List.set_cons_succ])
              refine heldCall 7 (by simp only [List.getElem?_toArray, List.getElem?_cons_succ, List.getElem?_cons_zero]; rfl) (by kernel_rfl) (fun K hK => ?_)
              go_simp
              refine HPUT.out.mono ?_
              rintro e w6 ⟨A6, c6, rfl, hE6, hn6, hb6⟩
              go_wp2_with fail
              refine hK.out _ _ ?_ (fun hHeld => ?_)
              · first | exact ⟨e0, e1, e2⟩ | exact ⟨(hb6.cell (p := ⟨be, oe + j * 3, none⟩) hbe).trans e0, (hb6.cell (p := ⟨be, oe + j * 3 + 1, none⟩) hbe).trans e1, (hb6.cell (p := ⟨be, oe + j * 3 + 1 + 1, none⟩) hbe).trans e2⟩
              clear hK K
              (try simp only [Act.put, List.setIfInBounds_toArray, List.set_cons_zero, List.set_cons_succ])
              refine heldTake 8 (v := ?_) (by simp only [List.getElem?_toArray, List.getElem?_cons_succ, List.getElem?_cons_zero]; rfl) (by kernel_rfl) (by intro _ _ _ h; exact h) (by rfl) (by assumption) ?_ ?_
              rotate_left
              · intro W hSw; (try dsimp only at hSw); go_simp; try with_reducible rfl
              simp only [Act.put, List.setIfInBounds_toArray, List.set_cons_zero, List.set_cons_succ]
              refine heldDone (by kernel_rfl) ?_ _
              have HA6 := Lib.hid (HM.out.row hE6 hn6 (below_of_drew hb6) HSIM.out (fun e he => by
                rcases HMEM.out e he with h1 | rfl
                · exact HF.out.mdep e h1
                · exact HMD.out))
              clear hE6 hn6 hb6 hHeld HE5 HM HSIM HPUT e0 e1 e2 HMEM HMD d1
              obtain ⟨M, hM, hsim0, hkk, hlen⟩ := sim_keys HA6.out.sim
              have hq := ckeys_o HA6.out.cac HA6.out.inv hM (by have := HA6.out.vl; omega)
              rw [← hkk] at hq
              have HKS : Hid (∀ s ∈ m6.map (·.key), s.size ≤ maxLen) := Lib.hid (fun s hs => CacO.keys HA6.out.cac s ((hM.1.map _).subset (hkk ▸ hs)))
              have hlq := clen_o HA6.out.cac
              rw [← hlen] at hlq
              have hm60 : (m6.length : Int) ≤ 60 := by rw [hlen]; have := HA6.out.vl; omega
              have hrq := fun (W : World) (hE : EntsAt W A6 c6 m6) => rkeys29_any hE (by omega)
              have hKn : (m6.map (·.key)).length = m6.length := by simp
              generalize m6.map (·.key) = K at *
              have HQ := Lib.hid hq
              have HLQ := Lib.hid hlq
              have HRQ := Lib.hid hrq
              have HKN := Lib.hid hKn
              clear hq hlq hrq hKn hM hsim0 hkk hlen
              have hne : ((m6.length : Int) != (m6.length : Int)) = false := by simp
              go_wp2_with fail
              refine HLQ.out.mono ?_
              rintro e w7 ⟨rfl, rfl⟩
              go_wp2_with fail
              refine HQ.out.mono ?_
              rintro e w7 ⟨A7, c7, rfl, ho7, hb7⟩
              have HG7 := Lib.hid (HA6.out.mid.grow hb7)
              have hS7 : StrsAt w7 w7.heap.size A7 K := StrsAt.of_own ho7 HKS.out
              clear ho7
              go_wp2_with fail
              refine (HRQ.out w7 HG7.out.ents).mono ?_
              rintro e w8 ⟨A8, c8, rfl, ho8, hb8⟩
              have HG8 := Lib.hid (HG7.out.grow hb8)
              have hS8 : StrsAt w8 w8.heap.size A8 K := StrsAt.of_own ho8 HKS.out
              have hS78 := (hS7.below hb8).more hb8.size
              have HTX := Lib.hid (texts_any A7 A8 w8.heap.size w8.heap.size c7 c8 K K w8 hS78 hS8 (Nat.le_refl _) (Nat.le_refl _) (by rw [HKN.out]; omega))
              clear ho8 hS7 hS8 hS78 hb8 hb7
              go_wp2_with fail
              refine HTX.out.mono ?_
              rintro e w9 ⟨rfl, hg9⟩
              have HA9 := Lib.hid ((HG8.out.grow hg9.below).full HA6.out.sim HA6.out.mdep)
              clear hg9
              go_wp2
              go_roundg (gk - 1)
              case measure => have := HK.out; omega
              case rel => exact ⟨k + 1, V6, us6, A6, c6, m6, F6, rfl, by go_num, by have := HK.out; omega, by simpa using HA9.out⟩
            · go_wp2_with fail
              refine (cget_o HWD.out.cac q2 (by omega) xk z5).mono ?_
              intro e w5 hp
              unfold CGetO at hp
              rw [HG.out] at hp
              obtain ⟨rfl, F6, hc5, hu5⟩ := hp
              have HM := Lib.hid (HWD.out.use hc5 hu5)
              have d1 : w5.cell? ⟨wr.heap.size, 1, none⟩ = some (.string xk) := HF.out.mid.cell (j := 1) hu5 (by simp) (by simp)
              clear hc5 hu5
              go_wp2_with fail
              refine (rat29_any HM.out.ents (by omega) xk).mono ?_
              rintro e w6 ⟨i, rfl, hia, rfl⟩
              obtain ⟨j, hj, rfl, hjk, hjv, hjp, hjg⟩ := at_found HF.out.inv HF.out.sim HG.out hia
              obtain ⟨be, oe, hAe, hbe, e0, e1, e2⟩ := HM.out.ents.one hj
              subst hAe
              have hsim6 := sim_use (sz := sz) HF.out.inv HF.out.sim HF.out.vs (List.getElem_mem hj) hjg hjp
              have hmd := HF.out.mdep _ (List.getElem_mem hj)
              have hj0 : 0 ≤ (j : Int) := by omega
              have hjm : (j : Int) < (m.length : Int) := by omega
              have hnev : (q.val.toList != m[j].val.toList) = false := by rw [hjv]; simp
              have hnev2 : (q.val.toList == m[j].val.toList) = true := by rw [hjv]; simp
              have HMEM := Lib.hid (fun (x : REnt) (hx : x ∈ rputV m sz m[j]) => rput_mem hx)
              have HE5 : Hid (EntsAt w5.drew (some ⟨be, oe, none⟩) mc m) := Lib.hid (HM.out.ents.below (Below.refl _ _).drew)
              have HPUT := Lib.hid (rput29_any HE5.out (by omega) sz m[j] (sim_nodup HF.out.sim HF.out.inv.nd))
              have HSIM : Hid (Sim (useV V xk (us + 1)) (rputV m sz m[j])) := Lib.hid (by rw [hjk] at hsim6; exact hsim6)
              have HMD := Lib.hid hmd
              clear hjk hjv hjp hjg hia hsim6 hmd HG
              generalize rputV m sz m[j] = m6 at *
              generalize m[j] = y at *
              obtain ⟨us6, hus6⟩ : ∃ us6, us6 = us + 1 := ⟨_, rfl⟩
              rw [← hus6] at HM HSIM
              generalize useV V xk us6 = V6 at *
              clear hus6
              go_wp2_with fail
              refine heldStart 8 (S := fun W => W.cell? ⟨be, oe + j * 3, none⟩ = some (.string y.key) ∧ W.cell? ⟨be, oe + j * 3 + 1, none⟩ = some (.string y.val) ∧ W.cell? ⟨be, oe + j * 3 + 1 + 1, none⟩ = some (.slice y.deps.adr y.deps.l.length y.deps.cap)) (by kernel_rfl) ?_ (fun hHeld => ?_)
              · first | exact ⟨e0, e1, e2⟩ | exact ⟨(hb6.cell (p := ⟨be, oe + j * 3, none⟩) hbe).trans e0, (hb6.cell (p := ⟨be, oe + j * 3 + 1, none⟩) hbe).trans e1, (hb6.cell (p := ⟨be, oe + j * 3 + 1 + 1, none⟩) hbe).trans e2⟩
              refine heldTake 0 (v := ?_) (by simp only [List.getElem?_toArray, List.getElem?_cons_succ, List.getElem?_cons_zero]; rfl) (by kernel_rfl) (by intro _ _ _ h; exact h) (by rfl) (by assumption) ?_ ?_
              rotate_left
              · intro W hSw; (try dsimp only at hSw); go_simp; try with_reducible rfl
              simp only [Act.put, List.setIfInBounds_toArray, List.set_cons_zero, List.set_cons_succ]
              refine heldTake 1 (v := ?_) (by simp only [List.getElem?_toArray, List.getElem?_cons_succ, List.getElem?_cons_zero]; rfl) (by kernel_rfl) (by intro _ _ _ h; exact h) (by rfl) (by assumption) ?_ ?_
              rotate_left
              · intro W hSw; (try dsimp only at hSw); go_simp; try with_reducible rfl
              simp only [Act.put, List.setIfInBounds_toArray, List.set_cons_zero, List.set_cons_succ]
              refine heldTake 3 (v := ?_) (by simp only [List.getElem?_toArray, List.getElem?_cons_succ, List.getElem?_cons_zero]; rfl) (by kernel_rfl) (by intro _ _ _ h; exact h) (by rfl) (by assumption) ?_ ?_
              rotate_left
              · intro W hSw; (try dsimp only at hSw); go_simp; try with_reducible rfl
              simp only [Act.put, List.setIfInBounds_toArray, List.set_cons_zero, List.set_cons_succ]
              refine heldTake 4 (v := ?_) (by simp only [List.getElem?_toArray, List.getElem?_cons_succ, List.getElem?_cons_zero]; rfl) (by kernel_rfl) (by intro _ _ _ h; exact h) (by rfl) (by assumption) ?_ ?_
              rotate_left
              · intro W hSw; (try dsimp only at hSw); go_simp; try with_reducible rfl
              simp only [Act.put, List.setIfInBounds_toArray, List.set_cons_zero, List.set_cons_succ]
              refine heldTake 5 (v := ?_) (by simp only [List.getElem?_toArray, List.getElem?_cons_succ, List.getElem?_cons_zero]; rfl) (by kernel_rfl) (by intro _ _ _ h; exact h) (by rfl) (by assumption) ?_ ?_
              rotate_left
              · intro W hSw; (try dsimp only at hSw); go_simp; try with_reducible rfl
              simp only [Act.put, List.setIfInBounds_toArray, List.set_cons_zero, List.set_cons_succ]
              refine heldTake 6 (v := ?_) (by simp only [List.getElem?_toArray, List.getElem?_cons_succ, List.getElem?_cons_zero]; rfl) (by kernel_rfl) (by intro _ _ _ h; exact h) (by rfl) (by assumption) ?_ ?_
              rotate_left
              · intro W hSw; (try dsimp only at hSw); go_simp; try with_reducible rfl
              simp only [Act.put, List.setIfInBounds_toArray, List.set_cons_zero, List.set_cons_succ]
              refine heldCall 2 (by simp only [List.getElem?_toArray, List.getElem?_cons_succ, List.getElem?_cons_zero]; rfl) (by kernel_rfl) (fun K hK => ?_)
              go_simp
              refine (HRS.out _).mono ?_
              rintro e w6 ⟨rfl, rfl⟩
              go_wp2_with fail
              refine hK.out _ _ ?_ (fun hHeld => ?_)
              · first | exact ⟨e0, e1, e2⟩ | exact ⟨(hb6.cell (p := ⟨be, oe + j * 3, none⟩) hbe).trans e0, (hb6.cell (p := ⟨be, oe + j * 3 + 1, none⟩) hbe).trans e1, (hb6.cell (p := ⟨be, oe + j * 3 + 1 + 1, none⟩) hbe).trans e2⟩
              clear hK K
              (try simp only [Act.put, List.setIfInBounds_toArray, List.set_cons_zero, List.set_cons_succ])
              refine heldCall 7 (by simp only [List.getElem?_toArray, List.getElem?_cons_succ, List.getElem?_cons_zero]; rfl) (by kernel_rfl) (fun K hK => ?_)
              go_simp
              refine HPUT.out.mono ?_
              rintro e w6 ⟨A6, c6, rfl, hE6, hn6, hb6⟩
              go_wp2_with fail
              refine hK.out _ _ ?_ (fun hHeld => ?_)
              · first | exact ⟨e0, e1, e2⟩ | exact ⟨(hb6.cell (p := ⟨be, oe + j * 3, none⟩) hbe).trans e0, (hb6.cell (p := ⟨be, oe + j * 3 + 1, none⟩) hbe).trans e1, (hb6.cell (p := ⟨be, oe + j * 3 + 1 + 1, none⟩) hbe).trans e2⟩
              clear hK K
              (try simp only [Act.put, List.setIfInBounds_toArray, List.set_cons_zero, List.set_cons_succ])
              refine heldTake 8 (v := ?_) (by simp only [List.getElem?_toArray, List.getElem?_cons_succ, List.getElem?_cons_zero]; rfl) (by kernel_rfl) (by intro _ _ _ h; exact h) (by rfl) (by assumption) ?_ ?_
              rotate_left
              · intro W hSw; (try dsimp only at hSw); go_simp; try with_reducible rfl
              simp only [Act.put, List.setIfInBounds_toArray, List.set_cons_zero, List.set_cons_succ]
              refine heldDone (by kernel_rfl) ?_ _
              have HA6 := Lib.hid (HM.out.row hE6 hn6 (below_of_drew hb6) HSIM.out (fun e he => by
                rcases HMEM.out e he with h1 | rfl
                · exact HF.out.mdep e h1
                · exact HMD.out))
              clear hE6 hn6 hb6 hHeld HE5 HM HSIM HPUT e0 e1 e2 HMEM HMD d1
              obtain ⟨M, hM, hsim0, hkk, hlen⟩ := sim_keys HA6.out.sim
              have hq := ckeys_o HA6.out.cac HA6.out.inv hM (by have := HA6.out.vl; omega)
              rw [← hkk] at hq
              have HKS : Hid (∀ s ∈ m6.map (·.key), s.size ≤ maxLen) := Lib.hid (fun s hs => CacO.keys HA6.out.cac s ((hM.1.map _).subset (hkk ▸ hs)))
              have hlq := clen_o HA6.out.cac
              rw [← hlen] at hlq
              have hm60 : (m6.length : Int) ≤ 60 := by rw [hlen]; have := HA6.out.vl; omega
              have hrq := fun (W : World) (hE : EntsAt W A6 c6 m6) => rkeys29_any hE (by omega)
              have hKn : (m6.map (·.key)).length = m6.length := by simp
              generalize m6.map (·.key) = K at *
              have HQ := Lib.hid hq
              have HLQ := Lib.hid hlq
              have HRQ := Lib.hid hrq
              have HKN := Lib.hid hKn
              clear hq hlq hrq hKn hM hsim0 hkk hlen
              have hne : ((m6.length : Int) != (m6.length : Int)) = false := by simp
              go_wp2_with fail
              refine HLQ.out.mono ?_
              rintro e w7 ⟨rfl, rfl⟩
              go_wp2_with fail
              refine HQ.out.mono ?_
              rintro e w7 ⟨A7, c7, rfl, ho7, hb7⟩
              have HG7 := Lib.hid (HA6.out.mid.grow hb7)
              have hS7 : StrsAt w7 w7.heap.size A7 K := StrsAt.of_own ho7 HKS.out
              clear ho7
              go_wp2_with fail
              refine (HRQ.out w7 HG7.out.ents).mono ?_
              rintro e w8 ⟨A8, c8, rfl, ho8, hb8⟩
              have HG8 := Lib.hid (HG7.out.grow hb8)
              have hS8 : StrsAt w8 w8.heap.size A8 K := StrsAt.of_own ho8 HKS.out
              have hS78 := (hS7.below hb8).more hb8.size
              have HTX := Lib.hid (texts_any A7 A8 w8.heap.size w8.heap.size c7 c8 K K w8 hS78 hS8 (Nat.le_refl _) (Nat.le_refl _) (by rw [HKN.out]; omega))
              clear ho8 hS7 hS8 hS78 hb8 hb7
              go_wp2_with fail
              refine HTX.out.mono ?_
              rintro e w9 ⟨rfl, hg9⟩
              have HA9 := Lib.hid ((HG8.out.grow hg9.below).full HA6.out.sim HA6.out.mdep)
              clear hg9
              go_wp2
              go_roundg (gk - 1)
              case measure => have := HK.out; omega
              case rel => exact ⟨k + 1, V6, us6, A6, c6, m6, F6, rfl, by go_num, by have := HK.out; omega, by simpa using HA9.out⟩
          | none =>
            have HG := Lib.hid hg
            clear hg
            rcases h23 with rfl | rfl
            all_goals
              go_wp2_with fail
              refine (cget_o HWD.out.cac q2 (by omega) xk z5).mono ?_
              intro e w5 hp
              unfold CGetO at hp
              rw [HG.out] at hp
              obtain ⟨rfl, hw5⟩ := hp
              have d1 : w5.cell? ⟨wr.heap.size, 1, none⟩ = some (.string xk) := by rw [← hw5]; simp
              have HM5 := HWD.out.more
              rw [hw5] at HM5
              have HM := Lib.hid HM5
              clear HM5 hw5
              go_wp2_with fail
              refine (rat29_any HM.out.ents (by omega) xk).mono ?_
              rintro e w6 ⟨i, rfl, hia, rfl⟩
              obtain rfl := at_gone HF.out.inv HF.out.sim HG.out hia
              have hem : (ByteArray.empty.toList != (ByteArray.mk #[]).toList) = false := by (show (ByteArray.empty.toList != ByteArray.empty.toList) = false); simp
              obtain ⟨V6, rfl⟩ : ∃ V6, V6 = V := ⟨_, rfl⟩
              obtain ⟨us6, rfl⟩ : ∃ us6, us6 = us := ⟨_, rfl⟩
              obtain ⟨m6, rfl⟩ : ∃ m6, m6 = m := ⟨_, rfl⟩
              obtain ⟨A6, rfl⟩ : ∃ A6, A6 = mA := ⟨_, rfl⟩
              obtain ⟨c6, rfl⟩ : ∃ c6, c6 = mc := ⟨_, rfl⟩
              obtain ⟨F6, rfl⟩ : ∃ F6, F6 = F := ⟨_, rfl⟩
              have HA6 := Lib.hid (HM.out.full HF.out.sim HF.out.mdep)
              clear hia HG
              obtain ⟨M, hM, hsim0, hkk, hlen⟩ := sim_keys HA6.out.sim
              have hq := ckeys_o HA6.out.cac HA6.out.inv hM (by have := HA6.out.vl; omega)
              rw [← hkk] at hq
              have HKS : Hid (∀ s ∈ m6.map (·.key), s.size ≤ maxLen) := Lib.hid (fun s hs => CacO.keys HA6.out.cac s ((hM.1.map _).subset (hkk ▸ hs)))
              have hlq := clen_o HA6.out.cac
              rw [← hlen] at hlq
              have hm60 : (m6.length : Int) ≤ 60 := by rw [hlen]; have := HA6.out.vl; omega
              have hrq := fun (W : World) (hE : EntsAt W A6 c6 m6) => rkeys29_any hE (by omega)
              have hKn : (m6.map (·.key)).length = m6.length := by simp
              generalize m6.map (·.key) = K at *
              have HQ := Lib.hid hq
              have HLQ := Lib.hid hlq
              have HRQ := Lib.hid hrq
              have HKN := Lib.hid hKn
              clear hq hlq hrq hKn hM hsim0 hkk hlen
              have hne : ((m6.length : Int) != (m6.length : Int)) = false := by simp
              go_wp2_with fail
              refine HLQ.out.mono ?_
              rintro e w7 ⟨rfl, rfl⟩
              go_wp2_with fail
              refine HQ.out.mono ?_
              rintro e w7 ⟨A7, c7, rfl, ho7, hb7⟩
              have HG7 := Lib.hid (HA6.out.mid.grow hb7)
              have hS7 : StrsAt w7 w7.heap.size A7 K := StrsAt.of_own ho7 HKS.out
              clear ho7
              go_wp2_with fail
              refine (HRQ.out w7 HG7.out.ents).mono ?_
              rintro e w8 ⟨A8, c8, rfl, ho8, hb8⟩
              have HG8 := Lib.hid (HG7.out.grow hb8)
              have hS8 : StrsAt w8 w8.heap.size A8 K := StrsAt.of_own ho8 HKS.out
              have hS78 := (hS7.below hb8).more hb8.size
              have HTX := Lib.hid (texts_any A7 A8 w8.heap.size w8.heap.size c7 c8 K K w8 hS78 hS8 (Nat.le_refl _) (Nat.le_refl _) (by rw [HKN.out]; omega))
              clear ho8 hS7 hS8 hS78 hb8 hb7
              go_wp2_with fail
              refine HTX.out.mono ?_
              rintro e w9 ⟨rfl, hg9⟩
              have HA9 := Lib.hid ((HG8.out.grow hg9.below).full HA6.out.sim HA6.out.mdep)
              clear hg9
              go_wp2
              go_roundg (gk - 1)
              case measure => have := HK.out; omega
              case rel => exact ⟨k + 1, V6, us6, A6, c6, m6, F6, rfl, by go_num, by have := HK.out; omega, by simpa using HA9.out⟩
        · subst h4
          go_wp2_with fail
          refine (rtouch29_any HWD.out.ents (by omega) HDD.out (by omega) (fun e he => ⟨((HF.out.mdep e he).1.below HWD.out.below).more HWD.out.below.size, by have := (HF.out.mdep e he).2; omega⟩)).mono ?_
          rintro e w5 ⟨A6, c6, rfl, hE6, hn6, hb6⟩
          have HM5 := Lib.hid (HWD.out.row2 hE6 hn6 hb6)
          have d3 : w5.cell? ⟨wr.heap.size, 3, none⟩ = some (.slice xA xl.length xc) := (hb6.cell (p := ⟨wr.heap.size, 3, none⟩) (by simp)).trans (by simp)
          have HD5 := Lib.hid ((hds.below HM5.out.below).more HM5.out.below.size)
          have HVD : Hid (∀ p ∈ V, (p.2.deps.length : Int) ≤ 1000000) := Lib.hid (fun p hp => by have := HF.out.vd p hp; omega)
          clear hE6 hn6 hb6
          go_wp2_with fail
          refine (ctouch_o HM5.out.cac xA xc xl HD5.out (by omega) (by omega) HVD.out).mono ?_
          rintro e w6 ⟨rfl, F6, hc6, hu6⟩
          have HM6 := Lib.hid (HM5.out.touch hc6 hu6)
          have hsm := sim_touch HF.out.sim xl
          have hl6 := sim_len hsm
          have hl5 := sim_len HF.out.sim
          have HA6 := Lib.hid (HM6.out.full hsm (fun e he => HF.out.mdep e (List.mem_filter.1 he).1))
          have hle6 : ((rtouchV m xl).length : Int) ≤ (m.length : Int) := by have := List.length_filter_le (fun e : REnt => !(xl.any fun d => memB d e.deps.l)) m; unfold rtouchV; omega
          rw [← hl6, ← hl5]
          clear hc6 hu6 hsm hl6 hl5
          obtain ⟨us6, rfl⟩ : ∃ us6, us6 = us := ⟨_, rfl⟩
          generalize touchV V xl = V6 at *
          generalize rtouchV m xl = m6 at *
          have hne0 : (((m.length : Int) - (m6.length : Int)) != ((m.length : Int) - (m6.length : Int))) = false := by simp
          obtain ⟨M, hM, hsim0, hkk, hlen⟩ := sim_keys HA6.out.sim
          have hq := ckeys_o HA6.out.cac HA6.out.inv hM (by have := HA6.out.vl; omega)
          rw [← hkk] at hq
          have HKS : Hid (∀ s ∈ m6.map (·.key), s.size ≤ maxLen) := Lib.hid (fun s hs => CacO.keys HA6.out.cac s ((hM.1.map _).subset (hkk ▸ hs)))
          have hlq := clen_o HA6.out.cac
          rw [← hlen] at hlq
          have hm60 : (m6.length : Int) ≤ 60 := by rw [hlen]; have := HA6.out.vl; omega
          have hrq := fun (W : World) (hE : EntsAt W A6 c6 m6) => rkeys29_any hE (by omega)
          have hKn : (m6.map (·.key)).length = m6.length := by simp
          generalize m6.map (·.key) = K at *
          have HQ := Lib.hid hq
          have HLQ := Lib.hid hlq
          have HRQ := Lib.hid hrq
          have HKN := Lib.hid hKn
          clear hq hlq hrq hKn hM hsim0 hkk hlen
          have hne : ((m6.length : Int) != (m6.length : Int)) = false := by simp
          go_wp2_with fail
          refine HLQ.out.mono ?_
          rintro e w7 ⟨rfl, rfl⟩
          go_wp2_with fail
          refine HQ.out.mono ?_
          rintro e w7 ⟨A7, c7, rfl, ho7, hb7⟩
          have HG7 := Lib.hid (HA6.out.mid.grow hb7)
          have hS7 : StrsAt w7 w7.heap.size A7 K := StrsAt.of_own ho7 HKS.out
          clear ho7
          go_wp2_with fail
          refine (HRQ.out w7 HG7.out.ents).mono ?_
          rintro e w8 ⟨A8, c8, rfl, ho8, hb8⟩
          have HG8 := Lib.hid (HG7.out.grow hb8)
          have hS8 : StrsAt w8 w8.heap.size A8 K := StrsAt.of_own ho8 HKS.out
          have hS78 := (hS7.below hb8).more hb8.size
          have HTX := Lib.hid (texts_any A7 A8 w8.heap.size w8.heap.size c7 c8 K K w8 hS78 hS8 (Nat.le_refl _) (Nat.le_refl _) (by rw [HKN.out]; omega))
          clear ho8 hS7 hS8 hS78 hb8 hb7
          go_wp2_with fail
          refine HTX.out.mono ?_
          rintro e w9 ⟨rfl, hg9⟩
          have HA9 := Lib.hid ((HG8.out.grow hg9.below).full HA6.out.sim HA6.out.mdep)
          clear hg9
          go_wp2
          go_roundg (gk - 1)
          case measure => have := HK.out; omega
          case rel => exact ⟨k + 1, V6, us6, A6, c6, m6, F6, rfl, by go_num, by have := HK.out; omega, by simpa using HA9.out⟩
        · obtain ⟨V6, rfl⟩ : ∃ V6, V6 = V := ⟨_, rfl⟩
          obtain ⟨us6, rfl⟩ : ∃ us6, us6 = us := ⟨_, rfl⟩
          obtain ⟨m6, rfl⟩ : ∃ m6, m6 = m := ⟨_, rfl⟩
          obtain ⟨A6, rfl⟩ : ∃ A6, A6 = mA := ⟨_, rfl⟩
          obtain ⟨c6, rfl⟩ : ∃ c6, c6 = mc := ⟨_, rfl⟩
          obtain ⟨F6, rfl⟩ : ∃ F6, F6 = F := ⟨_, rfl⟩
          have HA6 := Lib.hid (HWD.out.more.full HF.out.sim HF.out.mdep)
          obtain ⟨M, hM, hsim0, hkk, hlen⟩ := sim_keys HA6.out.sim
          have hq := ckeys_o HA6.out.cac HA6.out.inv hM (by have := HA6.out.vl; omega)
          rw [← hkk] at hq
          have HKS : Hid (∀ s ∈ m6.map (·.key), s.size ≤ maxLen) := Lib.hid (fun s hs => CacO.keys HA6.out.cac s ((hM.1.map _).subset (hkk ▸ hs)))
          have hlq := clen_o HA6.out.cac
          rw [← hlen] at hlq
          have hm60 : (m6.length : Int) ≤ 60 := by rw [hlen]; have := HA6.out.vl; omega
          have hrq := fun (W : World) (hE : EntsAt W A6 c6 m6) => rkeys29_any hE (by omega)
          have hKn : (m6.map (·.key)).length = m6.length := by simp
          generalize m6.map (·.key) = K at *
          have HQ := Lib.hid hq
          have HLQ := Lib.hid hlq
          have HRQ := Lib.hid hrq
          have HKN := Lib.hid hKn
          clear hq hlq hrq hKn hM hsim0 hkk hlen
          have hne : ((m6.length : Int) != (m6.length : Int)) = false := by simp
          go_wp2_with fail
          refine HLQ.out.mono ?_
          rintro e w7 ⟨rfl, rfl⟩
          go_wp2_with fail
          refine HQ.out.mono ?_
          rintro e w7 ⟨A7, c7, rfl, ho7, hb7⟩
          have HG7 := Lib.hid (HA6.out.mid.grow hb7)
          have hS7 : StrsAt w7 w7.heap.size A7 K := StrsAt.of_own ho7 HKS.out
          clear ho7
          go_wp2_with fail
          refine (HRQ.out w7 HG7.out.ents).mono ?_
          rintro e w8 ⟨A8, c8, rfl, ho8, hb8⟩
          have HG8 := Lib.hid (HG7.out.grow hb8)
          have hS8 : StrsAt w8 w8.heap.size A8 K := StrsAt.of_own ho8 HKS.out
          have hS78 := (hS7.below hb8).more hb8.size
          have HTX := Lib.hid (texts_any A7 A8 w8.heap.size w8.heap.size c7 c8 K K w8 hS78 hS8 (Nat.le_refl _) (Nat.le_refl _) (by rw [HKN.out]; omega))
          clear ho8 hS7 hS8 hS78 hb8 hb7
          go_wp2_with fail
          refine HTX.out.mono ?_
          rintro e w9 ⟨rfl, hg9⟩
          have HA9 := Lib.hid ((HG8.out.grow hg9.below).full HA6.out.sim HA6.out.mdep)
          clear hg9
          go_wp2
          go_roundg (gk - 1)
          case measure => have := HK.out; omega
          case rel => exact ⟨k + 1, V6, us6, A6, c6, m6, F6, rfl, by go_num, by have := HK.out; omega, by simpa using HA9.out⟩
      · have hbw := hf.below
        go_wp2
        go_ret
        exact ⟨rfl, hbw⟩
end Go.Proofs.Ytjfknojkiiileaa
