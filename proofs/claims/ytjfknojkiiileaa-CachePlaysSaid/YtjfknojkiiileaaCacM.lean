/- The walk of CacheRow, its rounds. -/
import Derived.Test.YtjfknojkiiileaaCacL
namespace Go.Proofs.Ytjfknojkiiileaa
open Go.ChangeShapes Go.WideShapes Go.ChangeAt Go.RowKit
set_option linter.unusedVariables false
set_option linter.unusedSimpArgs false

theorem ckeys_o {cb : Nat} {sz us : Int} {V : CView} {w : World} {F : Nat → Prop} (h : CacO cb sz us V w F) (hi : VInv us V) {M : CView} (hM : InOrder M V) (hl : (V.length : Int) ≤ 1000000) :
    Calls Try.prog 20 #[.pointer (some ⟨cb, 0, none⟩)] w (RowNew w (M.map (·.1))) := by
  obtain ⟨bs, S, E, h, rfl, hF⟩ := h
  exact ckeys_any h hi.dis M hM.1 hM.2 (by simpa [viewOf] using hl)
theorem CacO.keys {cb : Nat} {sz us : Int} {V : CView} {w : World} {F : Nat → Prop} (h : CacO cb sz us V w F) : ∀ s ∈ V.map (·.1), s.size ≤ maxLen := by
  obtain ⟨bs, S, E, h, rfl, hF⟩ := h
  intro s hs
  rw [keys_view] at hs
  obtain ⟨p, hp, rfl⟩ := List.mem_map.1 hs
  exact h.ents.ok p hp

/-- The deed's own block stays. -/
theorem RwAt.cell {w : World} {cb : Nat} {sz k : Int} {V : CView} {us : Int} {aA : Option Addr} {ac : Nat} {all : List ByteArray} {F : Nat → Prop} {wr : World} (h : RwAt w cb sz k V us aA ac all F wr) {wd w' : World} {F' : Nat → Prop} (hu : Upd F wd F' w') (hz : wr.heap.size < wd.heap.size) {j : Nat} {v : Value} (hv : wd.cell? ⟨wr.heap.size, j, none⟩ = some v) : w'.cell? ⟨wr.heap.size, j, none⟩ = some v :=
  (hu.keeps.cell (p := ⟨wr.heap.size, j, none⟩) hz (fun hF => Nat.lt_irrefl _ ((CacO.own cb sz us V).lt h.cac _ hF))).trans hv

set_option maxRecDepth 20000 in
set_option maxHeartbeats 16000000 in
theorem cacheRow_walk (sz : Int) (A : Option Addr) (c : Nat) (l : List CDeed) (w : World) (h : CDeedsAt w w.heap.size A l) (hl : (l.length : Int) ≤ 9223372036854775807) (hk : ∀ d ∈ l, d.key.size ≤ maxLen ∧ d.val.size ≤ maxLen ∧ d.deps.l.length ≤ maxLen) (hkind : ∀ d ∈ l, 0 ≤ d.kind ∧ d.kind ≤ 255) (hcap : ∀ d ∈ l, d.deps.adr = none → d.deps.cap = 0) :
    Calls Try.prog 5 #[.int .i64 sz, .slice A l.length c] w fun e w' => e = .returned (.bool true) ∧ Below w.heap.size w w' := by
  have HKS := Lib.hid hk
  have HKD := Lib.hid hkind
  have HCP := Lib.hid hcap
  clear hk hkind hcap
  by_cases hh : ¬ CHeavy l ∧ 0 ≤ sz ∧ sz ≤ 4096
  · obtain ⟨hnh, hs1, hs2⟩ := hh
    have HL60 : (l.length : Int) ≤ 60 := by
      have : ¬ 60 < (l.length : Int) := fun h => hnh (.inl h)
      omega
    have HDN : Hid (∀ d ∈ l, (d.deps.l.length : Int) ≤ 10) := Lib.hid (fun d hd => by
      have : ¬ 10 < (d.deps.l.length : Int) := fun h => hnh (.inr ⟨d, hd, .inr (.inr (.inl h))⟩)
      omega)
    have HNH := Lib.hid hnh
    have HSZ : Hid (sizeOf' sz = sz) := Lib.hid (by unfold sizeOf'; omega)
    clear hnh
    have g2 : ¬ sz < 0 := by omega
    have g3 : ¬ 4096 < sz := by omega
    go_enter Try.func5, Try.ntmps5
    go_wp2_with fail
    refine (clives_any _).mono ?_
    rintro e w1 ⟨rfl, hb1⟩
    have z1 := hb1.size
    go_wp2_with fail
    refine (cheavy_any A w.heap.size c l w1 (h.below hb1) hl HKS.out).mono ?_
    rintro e w1' ⟨⟨b, rfl, hb⟩, rfl⟩
    obtain rfl : b = false := by
      cases b with
      | false => rfl
      | true => exact absurd (hb.1 rfl) HNH.out
    clear hb
    go_wp2_with fail
    refine (cnew_o sz _).mono ?_
    rintro e w2 ⟨cb, F2, rfl, hc2, hF2, hb2⟩
    rw [HSZ.out] at hc2
    have z2 := hb2.size
    have hbw2 : Below w.heap.size w w2 := hb1.trans (hb2.mono z1)
    clear hb1 hb2 HNH HSZ
    go_wp2_with fail
    go_loopg [6, 7] l.length (fun rest aa ii wr => RwRel w cb sz l rest aa ii wr)
    case atStart =>
      refine ⟨0, [], 0, some ⟨w2.heap.size, 0, none⟩, 0, [], F2, rfl, rfl, by simp, ?_⟩
      have hb3 : Below w2.heap.size w2 (w2.alloc (.cells #[] 9)) := (Below.refl _ _).alloc (by simp) _
      refine ⟨(CacO.own _ _ _ _).below hc2 hb3, fun k hk => by have := hF2 k hk; omega, VInv.init, own_empty (by omega) (heapM1 _ _), ?_, by simp, by omega, by simp, by simp, by simpa using hs1, by simp, by simp, hbw2.trans (hb3.mono (by omega))⟩
      intro j hj hF
      have := (CacO.own _ _ _ _).lt hc2 j hF
      have e : w2.heap.size = j := by simpa [Value.ownBlock] using hj
      omega
    case round =>
      clear hc2 hF2 hbw2 z2
      obtain ⟨k, V, us, aA, ac, all, F, rfl, rfl, hkr, hf⟩ := hrel
      have HK := Lib.hid hkr
      clear hkr
      have q1 := hf.us1
      have q2 := hf.us0
      have q3 := hf.vl
      have q4 := hf.al
      have HF := Lib.hid hf
      have hkl' : (k : Int) ≤ (l.length : Int) := by have := HK.out; omega
      by_cases hk : (k : Int) < (l.length : Int)
      · have hkl : k < l.length := by omega
        obtain ⟨b, o, rfl, hbl, c0, c1, c2, c3⟩ := (h.below hf.below).one hkl
        have hsz := HKS.out _ (List.getElem_mem hkl)
        have hkd := HKD.out _ (List.getElem_mem hkl)
        have hdn := HDN.out _ (List.getElem_mem hkl)
        have hds := h.2 _ (List.getElem_mem hkl)
        have hxc := HCP.out _ (List.getElem_mem hkl)
        generalize l[k] = x at *
        obtain ⟨kind, xk, xv, xd⟩ := x
        obtain ⟨xA, xc, xl⟩ := xd
        simp only at c0 c1 c2 c3 hsz hkd hdn hds hxc
        have HXC := Lib.hid hxc
        obtain ⟨z5, z6, z7⟩ := hsz
        have HD : Hid (∀ j, (Value.slice aA all.length ac).ownBlock = some j → j < wr.heap.size) := Lib.hid (fun j hj => (hf.row.lt j hj).2)
        clear hf hxc
        have hcases : (kind = 0 ∨ kind = 1) ∨ (kind = 2 ∨ kind = 3) ∨ (¬ kind = 0 ∧ ¬ kind = 1 ∧ ¬ kind = 2 ∧ ¬ kind = 3) := by omega
        have hwd := HF.out.grow ((Below.refl _ _).alloc (Nat.le_refl _) (.cells #[.int .u8 kind, .string xk, .string xv, .slice xA xl.length xc] 29))
        have HWD := Lib.hid hwd
        have HDD : Hid (StrsAt _ _ xA xl) := Lib.hid ((hds.below hwd.below).more hwd.below.size)
        clear hwd
        rcases hcases with h01 | h23 | hno
        · by_cases hs0 : 0 < sz
          · rcases h01 with rfl | rfl
            all_goals
              go_wp2_with fail
              refine (cput_o HWD.out.cac q2 (by omega) xk xv z5 z6 xA xc xl HDD.out (by omega) (by omega) (by omega) (by omega)).mono ?_
              rintro e w5 ⟨rfl, V5, F5, hC5, hc5, hu5⟩
              obtain ⟨us5, hus5⟩ : ∃ us5, us5 = us + 1 := ⟨_, rfl⟩
              have HR := Lib.hid (HWD.out.put hC5 hc5 hu5 hdn)
              rw [← hus5] at HR
              have HST : Hid (∃ e, (xk, e) ∈ V5 ∧ ∀ p ∈ V5, p.1 ≠ xk → p.2.used < e.used) := Lib.hid ⟨_, put_stands HF.out.inv hs0 rfl hC5⟩
              have d1 : w5.cell? ⟨wr.heap.size, 1, none⟩ = some (.string xk) := HF.out.cell (j := 1) hu5 (by simp) (by simp)
              have d3 : w5.cell? ⟨wr.heap.size, 3, none⟩ = some (.slice xA xl.length xc) := HF.out.cell (j := 3) hu5 (by simp) (by simp)
              have HZ : Hid (wr.heap.size < w5.heap.size) := Lib.hid (Nat.lt_of_lt_of_le (by simp) hu5.keeps.size)
              clear hC5 hc5 hu5 hus5
              have HX5 := Lib.hid (hds.below HR.out.below).1
              go_wp2_with (at_builtin; refine stop8 ?_)
              unfold Stop8
              refine wpList_append_at w5 (by rfl) (.tmp 64) (.tmp 66) _ rfl w.heap.size 9 (.string ByteArray.empty) 1 16 Try.underlying27 str_info29 rfl (by omega) aA all.length ac _ rfl HR.out.row xA w.heap.size xl.length xc (xl.map Value.string) rfl HX5.out HXC.out (strs_one29 _) (all.length + xl.length) rfl (by unfold maxLen; omega) (by omega) HR.out.below.size ?_
              intro A6 c6 w6 ho6 hg6 hb6 hloc6
              have HR6 := Lib.hid (HR.out.app (by omega) hdn hds.2 rfl ho6 hg6 hb6 hloc6)
              have f1 : w6.cell? ⟨wr.heap.size, 1, none⟩ = some (.string xk) := ((Keeps.ofGrown hg6).cell (p := ⟨wr.heap.size, 1, none⟩) HZ.out (fun e => Nat.lt_irrefl _ (HD.out _ e.symm))).trans d1
              have hz6 : wr.heap.size < w6.heap.size := Nat.lt_of_lt_of_le HZ.out hg6.size
              have hal6 : (all ++ xl).length = all.length + xl.length := by simp
              have HAL6 := Lib.hid hal6
              have HZ6 := Lib.hid hz6
              clear ho6 hg6 hb6 hloc6 HX5 d1 d3 hal6 hz6 HZ
              obtain ⟨M, hM⟩ := order_of HR6.out.inv
              have HQ := Lib.hid (ckeys_o HR6.out.cac HR6.out.inv hM (by have := HR6.out.vl; omega))
              have hKn : (M.map (·.1)).length = V5.length := by simpa using hM.1.length_eq
              have HND : Hid ((M.map (·.1)).Nodup) := Lib.hid ((hM.1.map _).nodup_iff.2 HR6.out.inv.nd)
              have HKM : Hid (∀ s ∈ M.map (·.1), s.size ≤ maxLen) := Lib.hid (fun s hs => CacO.keys HR6.out.cac s ((hM.1.map _).subset hs))
              obtain ⟨Kl, hKl⟩ : ∃ Kl, M.map (·.1) = Kl ++ [xk] := by
                obtain ⟨ee, hee, hlt⟩ := HST.out
                exact order_last hM hee hlt HR6.out.inv.nd
              generalize M.map (·.1) = K at *
              have HKL := Lib.hid hKl
              have HKN := Lib.hid hKn
              clear hKl hKn hM
              go_wp2_with fail
              refine HQ.out.mono ?_
              rintro e w7 ⟨A7, c7, rfl, ho7, hb7⟩
              have HR7 := Lib.hid (HR6.out.grow hb7)
              have f2 : w7.cell? ⟨wr.heap.size, 1, none⟩ = some (.string xk) := (hb7.cell (p := ⟨wr.heap.size, 1, none⟩) HZ6.out).trans f1
              have hS7 : StrsAt w7 w7.heap.size A7 K := StrsAt.of_own ho7 HKM.out
              have hcap7 : (K.length : Int) ≤ (c7 : Int) := by have := (own_sp8 ho7).2; omega
              have HS7 := Lib.hid hS7
              have hln := fun q => clen_o ((CacO.own _ _ _ _).below HR7.out.cac (below_drewN (Below.refl _ _) q))
              have hKsz : (K.length : Int) ≤ sz := by rw [HKN.out]; exact HR6.out.vs
              have hK60 : (K.length : Int) ≤ 60 := by rw [HKN.out]; have := HR6.out.vl; omega
              rw [← HKN.out] at hln
              have QL : Hid (∀ q, Calls Try.prog 18 #[.pointer (some ⟨cb, 0, none⟩)] (w7.drewN q) fun e w' => e = .returned (.int .i64 K.length) ∧ w' = w7.drewN q) := Lib.hid (fun q => (hln q).mono (fun e w' h => ⟨h.1, h.2.symm⟩))
              clear hln hb7 ho7 f1 HQ
              have hpos : 0 < K.length := by rw [HKL.out]; simp
              obtain ⟨b7, o7, e7, hb7', hc7⟩ := hS7.1.2 hpos
              subst e7
              have hlast : w7.cell? ⟨b7, o7 + (K.length - 1), none⟩ = some (.string xk) := by
                refine hc7 _ _ ?_
                have e1 := HKL.out
                have e2 : K.length - 1 = Kl.length := by rw [e1]; simp
                rw [e2, e1]
                simp
              have hw2 : ((K.length : Int) - 1).toNat = K.length - 1 := by omega
              have hw3 : 0 ≤ (K.length : Int) - 1 := by omega
              have hw4 : (K.length : Int) - 1 < (K.length : Int) := by omega
              have hw1 : IntKind.i64.wrap ((K.length : Int) - 1) = (K.length : Int) - 1 := IntWalk.i64_in _ (by omega)
              have hne0 : ((K.length : Int) == 0) = false := by rw [int_beq]; simp; exact List.ne_nil_of_length_pos hpos
              have hne1 : ((K.length : Int) != (K.length : Int)) = false := by simp
              have hgt : decide (sz < (K.length : Int)) = false := by simp; omega
              have hst : (xk.toList != xk.toList) = false := by simp
              clear hc7 hpos
              clear hS7
              go_wp2_with fail
              go_quiet ((go_at_call 18; exact Calls.quiet_of_same (QL.out _)))
              clear hlast hne0 hw1 hw2 hw3 hw4 hst
              clear hgt hne1 QL
              go_wp2_with fail
              have HGK := HK
              go_loopg [11] K.length (fun rest jj wx => ∃ (j : Nat), jj = .int .i64 j ∧ (1 : Int) ≤ (j : Int) ∧ (j : Int) ≤ (K.length : Int) + 1 ∧ Hid (K.length ≤ j + rest) ∧ Below w7.heap.size w7 wx)
              case atStart => exact ⟨1, rfl, by omega, by omega, Lib.hid (by omega), below_drewN (Below.refl _ _) nq⟩
              case round =>
                obtain ⟨j, rfl, hj1, hj2, HJ, hbx⟩ := hrel
                obtain ⟨wx, rfl⟩ : ∃ wx : World, wx = wr := ⟨_, rfl⟩
                have hSx := HS7.out.below hbx
                by_cases hj : (j : Int) < (K.length : Int)
                · have hjl : j < K.length := by omega
                  obtain ⟨bj, oj, ej, hbj, hcj, hsj⟩ := hSx.one hjl
                  have hmem := nodup_take HND.out hjl
                  injection ej with ej
                  injection ej with ej1 ej2
                  subst ej1 ej2
                  have hlt : (K.take j).length = j := by simp; omega
                  have hin := fun q => in8_any (some ⟨_, _, none⟩) w7.heap.size c7 (K.take j) K[j] (wx.drewN q) ((hSx.below (below_drewN (Below.refl _ _) q)).take j) (by rw [hlt]; omega)
                  rw [hlt, hmem] at hin
                  have QI := Lib.hid (fun q => (hin q).mono (R' := fun e w' => e = .returned (.bool false) ∧ w' = wx.drewN q) (fun e w' h => ⟨h.1, h.2.symm⟩))
                  clear hin hSx hmem hlt
                  generalize K[j] = y at *
                  go_wp2_with fail
                  go_quiet ((go_at_call 13; exact Calls.quiet_of_same (QI.out _)))
                  go_wp2
                  go_roundg (gk - 1)
                  case measure => have := HJ.out; omega
                  case rel => exact ⟨j + 1, by go_num, by omega, by omega, Lib.hid (by have := HJ.out; omega), below_drewN hbx _⟩
                · go_wp2
                  go_roundg (l.length - (k + 1))
                  case measure => have := HGK.out; omega
                  case rel => exact ⟨k + 1, V5, us5, A6, c6, all ++ xl, F5, by rw [HAL6.out], by go_num, by have := HGK.out; omega, by simpa using HR7.out.grow hbx⟩
          · have hs0' : decide (0 < sz) = false := by simpa using hs0
            rcases h01 with rfl | rfl
            all_goals
              go_wp2_with fail
              refine (cput_o HWD.out.cac q2 (by omega) xk xv z5 z6 xA xc xl HDD.out (by omega) (by omega) (by omega) (by omega)).mono ?_
              rintro e w5 ⟨rfl, V5, F5, hC5, hc5, hu5⟩
              obtain ⟨us5, hus5⟩ : ∃ us5, us5 = us + 1 := ⟨_, rfl⟩
              have HR := Lib.hid (HWD.out.put hC5 hc5 hu5 hdn)
              rw [← hus5] at HR
              have d1 : w5.cell? ⟨wr.heap.size, 1, none⟩ = some (.string xk) := HF.out.cell (j := 1) hu5 (by simp) (by simp)
              have d3 : w5.cell? ⟨wr.heap.size, 3, none⟩ = some (.slice xA xl.length xc) := HF.out.cell (j := 3) hu5 (by simp) (by simp)
              have HZ : Hid (wr.heap.size < w5.heap.size) := Lib.hid (Nat.lt_of_lt_of_le (by simp) hu5.keeps.size)
              clear hC5 hc5 hu5 hus5
              have HX5 := Lib.hid (hds.below HR.out.below).1
              go_wp2_with (at_builtin; refine stop8 ?_)
              unfold Stop8
              refine wpList_append_at w5 (by rfl) (.tmp 64) (.tmp 66) _ rfl w.heap.size 9 (.string ByteArray.empty) 1 16 Try.underlying27 str_info29 rfl (by omega) aA all.length ac _ rfl HR.out.row xA w.heap.size xl.length xc (xl.map Value.string) rfl HX5.out HXC.out (strs_one29 _) (all.length + xl.length) rfl (by unfold maxLen; omega) (by omega) HR.out.below.size ?_
              intro A6 c6 w6 ho6 hg6 hb6 hloc6
              have HR6 := Lib.hid (HR.out.app (by omega) hdn hds.2 rfl ho6 hg6 hb6 hloc6)
              have f1 : w6.cell? ⟨wr.heap.size, 1, none⟩ = some (.string xk) := ((Keeps.ofGrown hg6).cell (p := ⟨wr.heap.size, 1, none⟩) HZ.out (fun e => Nat.lt_irrefl _ (HD.out _ e.symm))).trans d1
              have hz6 : wr.heap.size < w6.heap.size := Nat.lt_of_lt_of_le HZ.out hg6.size
              have hal6 : (all ++ xl).length = all.length + xl.length := by simp
              have HAL6 := Lib.hid hal6
              have HZ6 := Lib.hid hz6
              clear ho6 hg6 hb6 hloc6 HX5 d1 d3 hal6 hz6 HZ
              obtain ⟨M, hM⟩ := order_of HR6.out.inv
              have HQ := Lib.hid (ckeys_o HR6.out.cac HR6.out.inv hM (by have := HR6.out.vl; omega))
              have hKn : (M.map (·.1)).length = V5.length := by simpa using hM.1.length_eq
              have HND : Hid ((M.map (·.1)).Nodup) := Lib.hid ((hM.1.map _).nodup_iff.2 HR6.out.inv.nd)
              have HKM : Hid (∀ s ∈ M.map (·.1), s.size ≤ maxLen) := Lib.hid (fun s hs => CacO.keys HR6.out.cac s ((hM.1.map _).subset hs))
              have hKl := trivial
              generalize M.map (·.1) = K at *
              have HKL := Lib.hid hKl
              have HKN := Lib.hid hKn
              clear hKl hKn hM
              go_wp2_with fail
              refine HQ.out.mono ?_
              rintro e w7 ⟨A7, c7, rfl, ho7, hb7⟩
              have HR7 := Lib.hid (HR6.out.grow hb7)
              have f2 : w7.cell? ⟨wr.heap.size, 1, none⟩ = some (.string xk) := (hb7.cell (p := ⟨wr.heap.size, 1, none⟩) HZ6.out).trans f1
              have hS7 : StrsAt w7 w7.heap.size A7 K := StrsAt.of_own ho7 HKM.out
              have hcap7 : (K.length : Int) ≤ (c7 : Int) := by have := (own_sp8 ho7).2; omega
              have HS7 := Lib.hid hS7
              have hln := fun q => clen_o ((CacO.own _ _ _ _).below HR7.out.cac (below_drewN (Below.refl _ _) q))
              have hKsz : (K.length : Int) ≤ sz := by rw [HKN.out]; exact HR6.out.vs
              have hK60 : (K.length : Int) ≤ 60 := by rw [HKN.out]; have := HR6.out.vl; omega
              rw [← HKN.out] at hln
              have QL : Hid (∀ q, Calls Try.prog 18 #[.pointer (some ⟨cb, 0, none⟩)] (w7.drewN q) fun e w' => e = .returned (.int .i64 K.length) ∧ w' = w7.drewN q) := Lib.hid (fun q => (hln q).mono (fun e w' h => ⟨h.1, h.2.symm⟩))
              clear hln hb7 ho7 f1 HQ
              have hgt : decide (sz < (K.length : Int)) = false := by simp; omega
              have hne1 : ((K.length : Int) != (K.length : Int)) = false := by simp
              clear hS7
              go_wp2_with fail
              go_quiet ((go_at_call 18; exact Calls.quiet_of_same (QL.out _)))

              clear hgt hne1 QL
              go_wp2_with fail
              have HGK := HK
              go_loopg [11] K.length (fun rest jj wx => ∃ (j : Nat), jj = .int .i64 j ∧ (1 : Int) ≤ (j : Int) ∧ (j : Int) ≤ (K.length : Int) + 1 ∧ Hid (K.length ≤ j + rest) ∧ Below w7.heap.size w7 wx)
              case atStart => exact ⟨1, rfl, by omega, by omega, Lib.hid (by omega), below_drewN (Below.refl _ _) nq⟩
              case round =>
                obtain ⟨j, rfl, hj1, hj2, HJ, hbx⟩ := hrel
                obtain ⟨wx, rfl⟩ : ∃ wx : World, wx = wr := ⟨_, rfl⟩
                have hSx := HS7.out.below hbx
                by_cases hj : (j : Int) < (K.length : Int)
                · have hjl : j < K.length := by omega
                  obtain ⟨bj, oj, ej, hbj, hcj, hsj⟩ := hSx.one hjl
                  have hmem := nodup_take HND.out hjl
                  subst ej
                  have hlt : (K.take j).length = j := by simp; omega
                  have hin := fun q => in8_any (some ⟨_, _, none⟩) w7.heap.size c7 (K.take j) K[j] (wx.drewN q) ((hSx.below (below_drewN (Below.refl _ _) q)).take j) (by rw [hlt]; omega)
                  rw [hlt, hmem] at hin
                  have QI := Lib.hid (fun q => (hin q).mono (R' := fun e w' => e = .returned (.bool false) ∧ w' = wx.drewN q) (fun e w' h => ⟨h.1, h.2.symm⟩))
                  clear hin hSx hmem hlt
                  generalize K[j] = y at *
                  go_wp2_with fail
                  go_quiet ((go_at_call 13; exact Calls.quiet_of_same (QI.out _)))
                  go_wp2
                  go_roundg (gk - 1)
                  case measure => have := HJ.out; omega
                  case rel => exact ⟨j + 1, by go_num, by omega, by omega, Lib.hid (by have := HJ.out; omega), below_drewN hbx _⟩
                · go_wp2
                  go_roundg (l.length - (k + 1))
                  case measure => have := HGK.out; omega
                  case rel => exact ⟨k + 1, V5, us5, A6, c6, all ++ xl, F5, by rw [HAL6.out], by go_num, by have := HGK.out; omega, by simpa using HR7.out.grow hbx⟩
        · cases hg : mget V xk with
          | some q =>
            have HG := Lib.hid hg
            clear hg
            rcases h23 with rfl | rfl
            all_goals
              go_wp2_with fail
              refine (cget_o HWD.out.cac q2 (by omega) xk z5).mono ?_
              intro e w5 hp
              unfold CGetO at hp
              rw [HG.out] at hp
              obtain ⟨rfl, F5, hc5, hu5⟩ := hp
              obtain ⟨us5, hus5⟩ : ∃ us5, us5 = us + 1 := ⟨_, rfl⟩
              have HR := Lib.hid (HWD.out.use hc5 hu5)
              have HST : Hid (∃ e, (xk, e) ∈ useV V xk (us + 1) ∧ ∀ p ∈ useV V xk (us + 1), p.1 ≠ xk → p.2.used < e.used) := Lib.hid ⟨_, use_stands HF.out.inv HG.out⟩
              rw [← hus5] at HR HST
              generalize useV V xk us5 = V5 at *
              have d1 : w5.cell? ⟨wr.heap.size, 1, none⟩ = some (.string xk) := HF.out.cell (j := 1) hu5 (by simp) (by simp)
              have d3 : w5.cell? ⟨wr.heap.size, 3, none⟩ = some (.slice xA xl.length xc) := HF.out.cell (j := 3) hu5 (by simp) (by simp)
              have HZ : Hid (wr.heap.size < w5.heap.size) := Lib.hid (Nat.lt_of_lt_of_le (by simp) hu5.keeps.size)
              clear hc5 hu5 hus5 HG
              have HX5 := Lib.hid (hds.below HR.out.below).1
              go_wp2_with (at_builtin; refine stop8 ?_)
              unfold Stop8
              refine wpList_append_at w5 (by rfl) (.tmp 64) (.tmp 66) _ rfl w.heap.size 9 (.string ByteArray.empty) 1 16 Try.underlying27 str_info29 rfl (by omega) aA all.length ac _ rfl HR.out.row xA w.heap.size xl.length xc (xl.map Value.string) rfl HX5.out HXC.out (strs_one29 _) (all.length + xl.length) rfl (by unfold maxLen; omega) (by omega) HR.out.below.size ?_
              intro A6 c6 w6 ho6 hg6 hb6 hloc6
              have HR6 := Lib.hid (HR.out.app (by omega) hdn hds.2 rfl ho6 hg6 hb6 hloc6)
              have f1 : w6.cell? ⟨wr.heap.size, 1, none⟩ = some (.string xk) := ((Keeps.ofGrown hg6).cell (p := ⟨wr.heap.size, 1, none⟩) HZ.out (fun e => Nat.lt_irrefl _ (HD.out _ e.symm))).trans d1
              have hz6 : wr.heap.size < w6.heap.size := Nat.lt_of_lt_of_le HZ.out hg6.size
              have hal6 : (all ++ xl).length = all.length + xl.length := by simp
              have HAL6 := Lib.hid hal6
              have HZ6 := Lib.hid hz6
              clear ho6 hg6 hb6 hloc6 HX5 d1 d3 hal6 hz6 HZ
              obtain ⟨M, hM⟩ := order_of HR6.out.inv
              have HQ := Lib.hid (ckeys_o HR6.out.cac HR6.out.inv hM (by have := HR6.out.vl; omega))
              have hKn : (M.map (·.1)).length = V5.length := by simpa using hM.1.length_eq
              have HND : Hid ((M.map (·.1)).Nodup) := Lib.hid ((hM.1.map _).nodup_iff.2 HR6.out.inv.nd)
              have HKM : Hid (∀ s ∈ M.map (·.1), s.size ≤ maxLen) := Lib.hid (fun s hs => CacO.keys HR6.out.cac s ((hM.1.map _).subset hs))
              obtain ⟨Kl, hKl⟩ : ∃ Kl, M.map (·.1) = Kl ++ [xk] := by
                obtain ⟨ee, hee, hlt⟩ := HST.out
                exact order_last hM hee hlt HR6.out.inv.nd
              generalize M.map (·.1) = K at *
              have HKL := Lib.hid hKl
              have HKN := Lib.hid hKn
              clear hKl hKn hM
              go_wp2_with fail
              refine HQ.out.mono ?_
              rintro e w7 ⟨A7, c7, rfl, ho7, hb7⟩
              have HR7 := Lib.hid (HR6.out.grow hb7)
              have f2 : w7.cell? ⟨wr.heap.size, 1, none⟩ = some (.string xk) := (hb7.cell (p := ⟨wr.heap.size, 1, none⟩) HZ6.out).trans f1
              have hS7 : StrsAt w7 w7.heap.size A7 K := StrsAt.of_own ho7 HKM.out
              have hcap7 : (K.length : Int) ≤ (c7 : Int) := by have := (own_sp8 ho7).2; omega
              have HS7 := Lib.hid hS7
              have hln := fun q => clen_o ((CacO.own _ _ _ _).below HR7.out.cac (below_drewN (Below.refl _ _) q))
              have hKsz : (K.length : Int) ≤ sz := by rw [HKN.out]; exact HR6.out.vs
              have hK60 : (K.length : Int) ≤ 60 := by rw [HKN.out]; have := HR6.out.vl; omega
              rw [← HKN.out] at hln
              have QL : Hid (∀ q, Calls Try.prog 18 #[.pointer (some ⟨cb, 0, none⟩)] (w7.drewN q) fun e w' => e = .returned (.int .i64 K.length) ∧ w' = w7.drewN q) := Lib.hid (fun q => (hln q).mono (fun e w' h => ⟨h.1, h.2.symm⟩))
              clear hln hb7 ho7 f1 HQ
              have hpos : 0 < K.length := by rw [HKL.out]; simp
              obtain ⟨b7, o7, e7, hb7', hc7⟩ := hS7.1.2 hpos
              subst e7
              have hlast : w7.cell? ⟨b7, o7 + (K.length - 1), none⟩ = some (.string xk) := by
                refine hc7 _ _ ?_
                have e1 := HKL.out
                have e2 : K.length - 1 = Kl.length := by rw [e1]; simp
                rw [e2, e1]
                simp
              have hw2 : ((K.length : Int) - 1).toNat = K.length - 1 := by omega
              have hw3 : 0 ≤ (K.length : Int) - 1 := by omega
              have hw4 : (K.length : Int) - 1 < (K.length : Int) := by omega
              have hw1 : IntKind.i64.wrap ((K.length : Int) - 1) = (K.length : Int) - 1 := IntWalk.i64_in _ (by omega)
              have hne0 : ((K.length : Int) == 0) = false := by rw [int_beq]; simp; exact List.ne_nil_of_length_pos hpos
              have hne1 : ((K.length : Int) != (K.length : Int)) = false := by simp
              have hgt : decide (sz < (K.length : Int)) = false := by simp; omega
              have hst : (xk.toList != xk.toList) = false := by simp
              clear hc7 hpos
              clear hS7
              go_wp2_with fail
              go_quiet ((go_at_call 18; exact Calls.quiet_of_same (QL.out _)))
              clear hlast hne0 hw1 hw2 hw3 hw4 hst
              clear hgt hne1 QL
              go_wp2_with fail
              have HGK := HK
              go_loopg [11] K.length (fun rest jj wx => ∃ (j : Nat), jj = .int .i64 j ∧ (1 : Int) ≤ (j : Int) ∧ (j : Int) ≤ (K.length : Int) + 1 ∧ Hid (K.length ≤ j + rest) ∧ Below w7.heap.size w7 wx)
              case atStart => exact ⟨1, rfl, by omega, by omega, Lib.hid (by omega), below_drewN (Below.refl _ _) nq⟩
              case round =>
                obtain ⟨j, rfl, hj1, hj2, HJ, hbx⟩ := hrel
                obtain ⟨wx, rfl⟩ : ∃ wx : World, wx = wr := ⟨_, rfl⟩
                have hSx := HS7.out.below hbx
                by_cases hj : (j : Int) < (K.length : Int)
                · have hjl : j < K.length := by omega
                  obtain ⟨bj, oj, ej, hbj, hcj, hsj⟩ := hSx.one hjl
                  have hmem := nodup_take HND.out hjl
                  injection ej with ej
                  injection ej with ej1 ej2
                  subst ej1 ej2
                  have hlt : (K.take j).length = j := by simp; omega
                  have hin := fun q => in8_any (some ⟨_, _, none⟩) w7.heap.size c7 (K.take j) K[j] (wx.drewN q) ((hSx.below (below_drewN (Below.refl _ _) q)).take j) (by rw [hlt]; omega)
                  rw [hlt, hmem] at hin
                  have QI := Lib.hid (fun q => (hin q).mono (R' := fun e w' => e = .returned (.bool false) ∧ w' = wx.drewN q) (fun e w' h => ⟨h.1, h.2.symm⟩))
                  clear hin hSx hmem hlt
                  generalize K[j] = y at *
                  go_wp2_with fail
                  go_quiet ((go_at_call 13; exact Calls.quiet_of_same (QI.out _)))
                  go_wp2
                  go_roundg (gk - 1)
                  case measure => have := HJ.out; omega
                  case rel => exact ⟨j + 1, by go_num, by omega, by omega, Lib.hid (by have := HJ.out; omega), below_drewN hbx _⟩
                · go_wp2
                  go_roundg (l.length - (k + 1))
                  case measure => have := HGK.out; omega
                  case rel => exact ⟨k + 1, V5, us5, A6, c6, all ++ xl, F5, by rw [HAL6.out], by go_num, by have := HGK.out; omega, by simpa using HR7.out.grow hbx⟩
          | none =>
            have HG := Lib.hid hg
            clear hg
            rcases h23 with rfl | rfl
            all_goals
              go_wp2_with fail
              refine (cget_o HWD.out.cac q2 (by omega) xk z5).mono ?_
              intro e w5 hp
              unfold CGetO at hp
              rw [HG.out] at hp
              obtain ⟨rfl, hw5⟩ := hp
              obtain ⟨us5, rfl⟩ : ∃ us5, us5 = us := ⟨_, rfl⟩
              obtain ⟨V5, rfl⟩ : ∃ V5, V5 = V := ⟨_, rfl⟩
              obtain ⟨F5, rfl⟩ : ∃ F5, F5 = F := ⟨_, rfl⟩
              have hr := HWD.out.more
              have d1 : w5.cell? ⟨wr.heap.size, 1, none⟩ = some (.string xk) := by rw [← hw5]; simp
              have d3 : w5.cell? ⟨wr.heap.size, 3, none⟩ = some (.slice xA xl.length xc) := by rw [← hw5]; simp
              have HZ : Hid (wr.heap.size < w5.heap.size) := Lib.hid (by rw [← hw5]; simp)
              rw [hw5] at hr
              have HR := Lib.hid hr
              clear hr hw5 HG
              have HX5 := Lib.hid (hds.below HR.out.below).1
              go_wp2_with (at_builtin; refine stop8 ?_)
              unfold Stop8
              refine wpList_append_at w5 (by rfl) (.tmp 64) (.tmp 66) _ rfl w.heap.size 9 (.string ByteArray.empty) 1 16 Try.underlying27 str_info29 rfl (by omega) aA all.length ac _ rfl HR.out.row xA w.heap.size xl.length xc (xl.map Value.string) rfl HX5.out HXC.out (strs_one29 _) (all.length + xl.length) rfl (by unfold maxLen; omega) (by omega) HR.out.below.size ?_
              intro A6 c6 w6 ho6 hg6 hb6 hloc6
              have HR6 := Lib.hid (HR.out.app (by omega) hdn hds.2 rfl ho6 hg6 hb6 hloc6)
              have f1 : w6.cell? ⟨wr.heap.size, 1, none⟩ = some (.string xk) := ((Keeps.ofGrown hg6).cell (p := ⟨wr.heap.size, 1, none⟩) HZ.out (fun e => Nat.lt_irrefl _ (HD.out _ e.symm))).trans d1
              have hz6 : wr.heap.size < w6.heap.size := Nat.lt_of_lt_of_le HZ.out hg6.size
              have hal6 : (all ++ xl).length = all.length + xl.length := by simp
              have HAL6 := Lib.hid hal6
              have HZ6 := Lib.hid hz6
              clear ho6 hg6 hb6 hloc6 HX5 d1 d3 hal6 hz6 HZ
              obtain ⟨M, hM⟩ := order_of HR6.out.inv
              have HQ := Lib.hid (ckeys_o HR6.out.cac HR6.out.inv hM (by have := HR6.out.vl; omega))
              have hKn : (M.map (·.1)).length = V5.length := by simpa using hM.1.length_eq
              have HND : Hid ((M.map (·.1)).Nodup) := Lib.hid ((hM.1.map _).nodup_iff.2 HR6.out.inv.nd)
              have HKM : Hid (∀ s ∈ M.map (·.1), s.size ≤ maxLen) := Lib.hid (fun s hs => CacO.keys HR6.out.cac s ((hM.1.map _).subset hs))
              have hKl := trivial
              generalize M.map (·.1) = K at *
              have HKL := Lib.hid hKl
              have HKN := Lib.hid hKn
              clear hKl hKn hM
              go_wp2_with fail
              refine HQ.out.mono ?_
              rintro e w7 ⟨A7, c7, rfl, ho7, hb7⟩
              have HR7 := Lib.hid (HR6.out.grow hb7)
              have f2 : w7.cell? ⟨wr.heap.size, 1, none⟩ = some (.string xk) := (hb7.cell (p := ⟨wr.heap.size, 1, none⟩) HZ6.out).trans f1
              have hS7 : StrsAt w7 w7.heap.size A7 K := StrsAt.of_own ho7 HKM.out
              have hcap7 : (K.length : Int) ≤ (c7 : Int) := by have := (own_sp8 ho7).2; omega
              have HS7 := Lib.hid hS7
              have hln := fun q => clen_o ((CacO.own _ _ _ _).below HR7.out.cac (below_drewN (Below.refl _ _) q))
              have hKsz : (K.length : Int) ≤ sz := by rw [HKN.out]; exact HR6.out.vs
              have hK60 : (K.length : Int) ≤ 60 := by rw [HKN.out]; have := HR6.out.vl; omega
              rw [← HKN.out] at hln
              have QL : Hid (∀ q, Calls Try.prog 18 #[.pointer (some ⟨cb, 0, none⟩)] (w7.drewN q) fun e w' => e = .returned (.int .i64 K.length) ∧ w' = w7.drewN q) := Lib.hid (fun q => (hln q).mono (fun e w' h => ⟨h.1, h.2.symm⟩))
              clear hln hb7 ho7 f1 HQ
              have hgt : decide (sz < (K.length : Int)) = false := by simp; omega
              have hne1 : ((K.length : Int) != (K.length : Int)) = false := by simp
              clear hS7
              go_wp2_with fail
              go_quiet ((go_at_call 18; exact Calls.quiet_of_same (QL.out _)))

              clear hgt hne1 QL
              go_wp2_with fail
              have HGK := HK
              go_loopg [11] K.length (fun rest jj wx => ∃ (j : Nat), jj = .int .i64 j ∧ (1 : Int) ≤ (j : Int) ∧ (j : Int) ≤ (K.length : Int) + 1 ∧ Hid (K.length ≤ j + rest) ∧ Below w7.heap.size w7 wx)
              case atStart => exact ⟨1, rfl, by omega, by omega, Lib.hid (by omega), below_drewN (Below.refl _ _) nq⟩
              case round =>
                obtain ⟨j, rfl, hj1, hj2, HJ, hbx⟩ := hrel
                obtain ⟨wx, rfl⟩ : ∃ wx : World, wx = wr := ⟨_, rfl⟩
                have hSx := HS7.out.below hbx
                by_cases hj : (j : Int) < (K.length : Int)
                · have hjl : j < K.length := by omega
                  obtain ⟨bj, oj, ej, hbj, hcj, hsj⟩ := hSx.one hjl
                  have hmem := nodup_take HND.out hjl
                  subst ej
                  have hlt : (K.take j).length = j := by simp; omega
                  have hin := fun q => in8_any (some ⟨_, _, none⟩) w7.heap.size c7 (K.take j) K[j] (wx.drewN q) ((hSx.below (below_drewN (Below.refl _ _) q)).take j) (by rw [hlt]; omega)
                  rw [hlt, hmem] at hin
                  have QI := Lib.hid (fun q => (hin q).mono (R' := fun e w' => e = .returned (.bool false) ∧ w' = wx.drewN q) (fun e w' h => ⟨h.1, h.2.symm⟩))
                  clear hin hSx hmem hlt
                  generalize K[j] = y at *
                  go_wp2_with fail
                  go_quiet ((go_at_call 13; exact Calls.quiet_of_same (QI.out _)))
                  go_wp2
                  go_roundg (gk - 1)
                  case measure => have := HJ.out; omega
                  case rel => exact ⟨j + 1, by go_num, by omega, by omega, Lib.hid (by have := HJ.out; omega), below_drewN hbx _⟩
                · go_wp2
                  go_roundg (l.length - (k + 1))
                  case measure => have := HGK.out; omega
                  case rel => exact ⟨k + 1, V5, us5, A6, c6, all ++ xl, F5, by rw [HAL6.out], by go_num, by have := HGK.out; omega, by simpa using HR7.out.grow hbx⟩
        · obtain ⟨us5, rfl⟩ : ∃ us5, us5 = us := ⟨_, rfl⟩
          obtain ⟨V5, rfl⟩ : ∃ V5, V5 = V := ⟨_, rfl⟩
          obtain ⟨F5, rfl⟩ : ∃ F5, F5 = F := ⟨_, rfl⟩
          have HR := Lib.hid HWD.out.more
          have d1 : (wr.alloc (.cells #[.int .u8 kind, .string xk, .string xv, .slice xA xl.length xc] 29)).cell? ⟨wr.heap.size, 1, none⟩ = some (.string xk) := by simp
          have d3 := trivial
          have HZ : Hid (wr.heap.size < (wr.alloc (.cells #[.int .u8 kind, .string xk, .string xv, .slice xA xl.length xc] 29)).heap.size) := Lib.hid (by simp)
          have HX5 := Lib.hid (hds.below HR.out.below).1
          go_wp2_with (at_builtin; refine stop8 ?_)
          unfold Stop8
          refine wpList_append_at _ (by rfl) (.tmp 64) (.tmp 66) _ rfl w.heap.size 9 (.string ByteArray.empty) 1 16 Try.underlying27 str_info29 rfl (by omega) aA all.length ac _ rfl HR.out.row xA w.heap.size xl.length xc (xl.map Value.string) rfl HX5.out HXC.out (strs_one29 _) (all.length + xl.length) rfl (by unfold maxLen; omega) (by omega) HR.out.below.size ?_
          intro A6 c6 w6 ho6 hg6 hb6 hloc6
          have HR6 := Lib.hid (HR.out.app (by omega) hdn hds.2 rfl ho6 hg6 hb6 hloc6)
          have f1 : w6.cell? ⟨wr.heap.size, 1, none⟩ = some (.string xk) := ((Keeps.ofGrown hg6).cell (p := ⟨wr.heap.size, 1, none⟩) HZ.out (fun e => Nat.lt_irrefl _ (HD.out _ e.symm))).trans d1
          have hz6 : wr.heap.size < w6.heap.size := Nat.lt_of_lt_of_le HZ.out hg6.size
          have hal6 : (all ++ xl).length = all.length + xl.length := by simp
          have HAL6 := Lib.hid hal6
          have HZ6 := Lib.hid hz6
          clear ho6 hg6 hb6 hloc6 HX5 d1 d3 hal6 hz6 HZ
          obtain ⟨M, hM⟩ := order_of HR6.out.inv
          have HQ := Lib.hid (ckeys_o HR6.out.cac HR6.out.inv hM (by have := HR6.out.vl; omega))
          have hKn : (M.map (·.1)).length = V5.length := by simpa using hM.1.length_eq
          have HND : Hid ((M.map (·.1)).Nodup) := Lib.hid ((hM.1.map _).nodup_iff.2 HR6.out.inv.nd)
          have HKM : Hid (∀ s ∈ M.map (·.1), s.size ≤ maxLen) := Lib.hid (fun s hs => CacO.keys HR6.out.cac s ((hM.1.map _).subset hs))
          have hKl := trivial
          generalize M.map (·.1) = K at *
          have HKL := Lib.hid hKl
          have HKN := Lib.hid hKn
          clear hKl hKn hM
          go_wp2_with fail
          refine HQ.out.mono ?_
          rintro e w7 ⟨A7, c7, rfl, ho7, hb7⟩
          have HR7 := Lib.hid (HR6.out.grow hb7)
          have f2 : w7.cell? ⟨wr.heap.size, 1, none⟩ = some (.string xk) := (hb7.cell (p := ⟨wr.heap.size, 1, none⟩) HZ6.out).trans f1
          have hS7 : StrsAt w7 w7.heap.size A7 K := StrsAt.of_own ho7 HKM.out
          have hcap7 : (K.length : Int) ≤ (c7 : Int) := by have := (own_sp8 ho7).2; omega
          have HS7 := Lib.hid hS7
          have hln := fun q => clen_o ((CacO.own _ _ _ _).below HR7.out.cac (below_drewN (Below.refl _ _) q))
          have hKsz : (K.length : Int) ≤ sz := by rw [HKN.out]; exact HR6.out.vs
          have hK60 : (K.length : Int) ≤ 60 := by rw [HKN.out]; have := HR6.out.vl; omega
          rw [← HKN.out] at hln
          have QL : Hid (∀ q, Calls Try.prog 18 #[.pointer (some ⟨cb, 0, none⟩)] (w7.drewN q) fun e w' => e = .returned (.int .i64 K.length) ∧ w' = w7.drewN q) := Lib.hid (fun q => (hln q).mono (fun e w' h => ⟨h.1, h.2.symm⟩))
          clear hln hb7 ho7 f1 HQ
          have hgt : decide (sz < (K.length : Int)) = false := by simp; omega
          have hne1 : ((K.length : Int) != (K.length : Int)) = false := by simp
          clear hS7
          go_wp2_with fail
          go_quiet ((go_at_call 18; exact Calls.quiet_of_same (QL.out _)))

          clear hgt hne1 QL
          go_wp2_with fail
          have HGK := HK
          go_loopg [11] K.length (fun rest jj wx => ∃ (j : Nat), jj = .int .i64 j ∧ (1 : Int) ≤ (j : Int) ∧ (j : Int) ≤ (K.length : Int) + 1 ∧ Hid (K.length ≤ j + rest) ∧ Below w7.heap.size w7 wx)
          case atStart => exact ⟨1, rfl, by omega, by omega, Lib.hid (by omega), below_drewN (Below.refl _ _) nq⟩
          case round =>
            obtain ⟨j, rfl, hj1, hj2, HJ, hbx⟩ := hrel
            obtain ⟨wx, rfl⟩ : ∃ wx : World, wx = wr := ⟨_, rfl⟩
            have hSx := HS7.out.below hbx
            by_cases hj : (j : Int) < (K.length : Int)
            · have hjl : j < K.length := by omega
              obtain ⟨bj, oj, ej, hbj, hcj, hsj⟩ := hSx.one hjl
              have hmem := nodup_take HND.out hjl
              subst ej
              have hlt : (K.take j).length = j := by simp; omega
              have hin := fun q => in8_any (some ⟨_, _, none⟩) w7.heap.size c7 (K.take j) K[j] (wx.drewN q) ((hSx.below (below_drewN (Below.refl _ _) q)).take j) (by rw [hlt]; omega)
              rw [hlt, hmem] at hin
              have QI := Lib.hid (fun q => (hin q).mono (R' := fun e w' => e = .returned (.bool false) ∧ w' = wx.drewN q) (fun e w' h => ⟨h.1, h.2.symm⟩))
              clear hin hSx hmem hlt
              generalize K[j] = y at *
              go_wp2_with fail
              go_quiet ((go_at_call 13; exact Calls.quiet_of_same (QI.out _)))
              go_wp2
              go_roundg (gk - 1)
              case measure => have := HJ.out; omega
              case rel => exact ⟨j + 1, by go_num, by omega, by omega, Lib.hid (by have := HJ.out; omega), below_drewN hbx _⟩
            · go_wp2
              go_roundg (l.length - (k + 1))
              case measure => have := HGK.out; omega
              case rel => exact ⟨k + 1, V5, us5, A6, c6, all ++ xl, F5, by rw [HAL6.out], by go_num, by have := HGK.out; omega, by simpa using HR7.out.grow hbx⟩
      · have hbw := hf.below
        have hrow : StrsAt wr wr.heap.size aA all := StrsAt.of_own hf.row hf.asz
        have HRW := Lib.hid hrow
        clear hrow
        have hVd : Hid (∀ p ∈ V, (p.2.deps.length : Int) ≤ 1000000) := Lib.hid (fun p hp => by have := hf.vd p hp; omega)
        clear hf
        go_wp2_with fail
        refine (clen_o HF.out.cac).mono ?_
        rintro e w5 ⟨rfl, rfl⟩
        go_wp2_with fail
        refine (ctouch_o HF.out.cac aA ac all HRW.out (by omega) (by omega) hVd.out).mono ?_
        rintro e w6 ⟨rfl, F6, hc6, hu6⟩
        have hb6 := hu6.belowB hbw (Nat.le_refl _) HF.out.base
        have HB6 := Lib.hid (hu6.base hbw.size HF.out.base)
        have hrow6 : StrsAt w6 w6.heap.size aA all := StrsAt.of_own (hu6.keeps.own HF.out.row HF.out.rap) HF.out.asz
        have HR6 := Lib.hid hrow6
        have hfl : ((touchV V all).length : Int) ≤ (V.length : Int) := by have := List.length_filter_le (fun q : ByteArray × PEnt => !(q.2.deps.any fun d => memB d all)) V; unfold touchV; omega
        have HTW := Lib.hid (touch_twice V all)
        have HVD6 : Hid (∀ p ∈ touchV V all, (p.2.deps.length : Int) ≤ 1000000) := Lib.hid (fun p hp => hVd.out p (List.mem_filter.1 hp).1)
        have HC6 := Lib.hid hc6
        clear hc6 hu6 hrow6
        generalize touchV V all = T at *
        have heq : ((T.length : Int) == (V.length : Int) - ((V.length : Int) - (T.length : Int))) = true := by rw [int_beq]; simp; omega
        go_wp2_with fail
        refine (clen_o HC6.out).mono ?_
        rintro e w7 ⟨rfl, rfl⟩
        go_wp2_with fail
        refine (ctouch_o HC6.out aA ac all HR6.out (by omega) (by omega) HVD6.out).mono ?_
        rintro e w8 ⟨rfl, F8, hc8, hu8⟩
        have hb8 := hu8.belowB hb6 (Nat.le_refl _) HB6.out
        rw [HTW.out]
        have hz0 : (((T.length : Int) - (T.length : Int)) == 0) = true := by rw [int_beq]; simp
        clear hc8 hu8
        go_wp2
        go_ret
        exact ⟨rfl, hb8⟩
  · have hc : CHeavy l ∨ (¬ CHeavy l ∧ (sz < 0 ∨ 4096 < sz)) := by
      rcases Classical.em (CHeavy l) with h1 | h1
      · exact .inl h1
      · refine .inr ⟨h1, ?_⟩
        refine Classical.byContradiction fun hn => hh ⟨h1, ?_⟩
        omega
    clear hh
    rcases hc with hv | ⟨hv, hg⟩
    · have HNH := Lib.hid hv
      clear hv
      go_enter Try.func5, Try.ntmps5
      go_wp2_with fail
      refine (clives_any _).mono ?_
      rintro e w1 ⟨rfl, hb1⟩
      go_wp2_with fail
      refine (cheavy_any A w.heap.size c l w1 (h.below hb1) hl HKS.out).mono ?_
      rintro e w1' ⟨⟨b, rfl, hb⟩, rfl⟩
      obtain rfl : b = true := hb.2 HNH.out
      go_wp2
      all_goals (go_ret; exact ⟨rfl, hb1⟩)
    · have HNH := Lib.hid hv
      clear hv
      rcases hg with hg | hg
      all_goals
        go_enter Try.func5, Try.ntmps5
        go_wp2_with fail
        refine (clives_any _).mono ?_
        rintro e w1 ⟨rfl, hb1⟩
        go_wp2_with fail
        refine (cheavy_any A w.heap.size c l w1 (h.below hb1) hl HKS.out).mono ?_
        rintro e w1' ⟨⟨b, rfl, hb⟩, rfl⟩
        obtain rfl : b = false := by
          cases b with
          | false => rfl
          | true => exact absurd (hb.1 rfl) HNH.out
        clear hb
        go_wp2
        all_goals
          first
            | (go_ret; exact ⟨rfl, hb1⟩)
            | (exfalso; omega)
end Go.Proofs.Ytjfknojkiiileaa
