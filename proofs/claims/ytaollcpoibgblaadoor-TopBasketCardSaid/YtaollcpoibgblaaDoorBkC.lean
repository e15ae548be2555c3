/- The contract of (*basket.Baskets).add. -/
import Derived.Test.YtaollcpoibgblaaDoorBkB
import Derived.Test.YtaollcpoibgblaaDoorKitR
import Derived.Test.YtaollcpoibgblaaDoorKitC
namespace Go.Proofs.YtaollcpoibgblaaDoor
open Go.ChangeShapes Go.WideShapes Go.ChangeAt Go.RowKit
set_option linter.unusedVariables false
set_option linter.unusedSimpArgs false

/-- In the outer range. -/
structure AddO (w0 : World) (bb sb cb mb r1 : Nat) (S : SgD) (b : BkS) (left : SgD) (w : World) : Prop where
  rg : RangeAt w strKf intVf r1 (some mb) left
  sub : ∀ p ∈ left, p ∈ S
  at_ : ∃ D1 D2, BkAt w bb sb cb D1 D2 (outB b S left)
  keeps : Keeps (fun k => k = bb ∨ k = sb ∨ k = cb) w0 w
/-- In the inner range. -/
structure AddI (w0 : World) (bb sb cb mb r1 r2 : Nat) (S : SgD) (b : BkS) (left : SgD) (x : ByteArray) (lf : SgD) (w : World) : Prop where
  rg : RangeAt w strKf intVf r1 (some mb) (mdel left x)
  rg2 : RangeAt w strKf intVf r2 (some mb) lf
  sub : ∀ p ∈ left, p ∈ S
  sub2 : ∀ p ∈ lf, p ∈ S
  at_ : ∃ D1 D2, BkAt w bb sb cb D1 D2 (inB b S left x lf)
  keeps : Keeps (fun k => k = bb ∨ k = sb ∨ k = cb) w0 w

def AddNew (w : World) (bb sb cb : Nat) (b : BkS) (e : Ending) (w' : World) : Prop := e = .returned (.tuple #[]) ∧ (∃ D1 D2, BkAt w' bb sb cb D1 D2 b) ∧ Keeps (fun k => k = bb ∨ k = sb ∨ k = cb) w w'

set_option maxRecDepth 20000 in
set_option maxHeartbeats 4000000 in
theorem add_any (bb sb cb mb : Nat) (D1 : SgD) (D2 : CtD) (b : BkS) (S : SgD) (n : Int) (w : World) (h : BkAt w bb sb cb D1 D2 b) (hS : MapIs w strKf intVf strOk mb S) (hne : mb ≠ bb ∧ mb ≠ sb ∧ mb ≠ cb) (hI : BkOk b n) (hn : n ≤ 1000000) :
    Calls Tryd.prog 21 #[.pointer (some ⟨bb, 0, none⟩), .map (some mb)] w (AddNew w bb sb cb (b.plus (oneK (sF S)))) := by
  have ha := hI.a0
  have hw1 : IntKind.i64.wrap (b.all + 1) = b.all + 1 := IntWalk.i64_in _ (by omega)
  have c0 := h.c0
  have hfz := h.frozen 0
  have HH := Lib.hid h
  have HS := Lib.hid hS
  have HNE := Lib.hid hne
  have HI := Lib.hid hI
  clear h hS hne hI
  go_enter Tryd.func21, Tryd.ntmps21
  have hB1 := HH.out.bump (b.all + 1)
  have hk1 : Keeps (fun k => k = bb ∨ k = sb ∨ k = cb) w (w.setCell ⟨bb, 0, none⟩ (.int .i64 (b.all + 1))) := (Keeps.refl (fun k => k = bb ∨ k = sb ∨ k = cb) w).setCell (p := ⟨bb, 0, none⟩) (.inr (.inl rfl)) _
  have hm1 := HS.out.keep hk1 (fun e => by
    have := HNE.out
    rcases e with e | e | e
    · exact this.1 e
    · exact this.2.1 e
    · exact this.2.2 e)
  have HB1 := Lib.hid hB1
  have HK1 := Lib.hid hk1
  clear hB1 hk1
  go_wp2_with (at_range; refine wpList_range_is rfl _ _ rfl Tryd.underlying62 rfl hm1 ?_; intro w2 hrg2 hb2 hz2)
  have hm2 := hm1.keep (Keeps.ofBelow hb2 (fun _ => False)) (fun e => e)
  have hst : AddO w bb sb cb mb (w.setCell ⟨bb, 0, none⟩ (.int .i64 (b.all + 1))).heap.size S b S w2 :=
    ⟨hrg2, fun _ h => h, ⟨D1, D2, by rw [outB_all]; exact HB1.out.below hb2⟩, HK1.out.trans (Keeps.ofBelow hb2 _) (fun _ _ e => e)⟩
  obtain ⟨r1, hr1⟩ : ∃ r1, r1 = (w.setCell ⟨bb, 0, none⟩ (.int .i64 (b.all + 1))).heap.size := ⟨_, rfl⟩
  have hlt1 : bb < r1 ∧ sb < r1 ∧ cb < r1 := by rw [hr1]; exact HB1.out.lt
  have hml1 : mb < r1 := by rw [hr1]; exact hm1.lt
  rw [← hr1] at hst
  have HR0 := Lib.hid (show w.heap.size ≤ r1 by rw [hr1, World.size_setCell]; exact Nat.le_refl _)
  have HM2 : Hid (MapIs w2 strKf intVf strOk mb S) := Lib.hid hm2
  have HST := Lib.hid hst
  have HL1 := Lib.hid hlt1
  have HML1 := Lib.hid hml1
  clear hm1 hm2 hst hrg2 hb2 hz2 HB1 HK1 hlt1 hml1 c0 hfz
  (try go_frame)
  rw [← hr1]
  clear hr1
  go_loopg [] S.length (fun rest wr => ∃ left, Hid (rest = List.length left) ∧ Hid (AddO w bb sb cb mb r1 S b left wr))
  case atStart => exact ⟨S, Lib.hid rfl, HST⟩
  case round =>
    obtain ⟨left, HLN, HO⟩ := hrel
    obtain ⟨w5, rfl⟩ : ∃ w5 : World, w5 = wr := ⟨_, rfl⟩
    go_wp2_with (at_next; refine wpList_next_is rfl _ rfl rfl HO.out.rg ?_ ?_)
    · intro h0
      subst h0
      have hat := HO.out.at_
      rw [outB_nil] at hat
      have hkp := HO.out.keeps
      (try go_frame)
      go_wp2
      refine bodyPost_ret (results_none rfl _ _ _) rfl ?_
      exact ⟨rfl, hat, hkp⟩
    · intro x a w6 hmem hrg6 hk6 hz6 hen
      simp only [strKf, intVf] at hen
      have hml := mdel_len HO.out.rg.nodup (p := (x, a)) hmem
      simp only at hml
      have hbr : ¬ bb = r1 ∧ ¬ sb = r1 ∧ ¬ cb = r1 := by have := HL1.out; omega
      have hmb1 : ¬ mb = r1 := by have := HML1.out; omega
      have hsz5 : r1 < w5.heap.size := HO.out.rg.lt
      obtain ⟨E1, E2, hat⟩ := HO.out.at_
      have hat6 := hat.keep hk6 hbr.1 hbr.2.1 hbr.2.2
      have hok := HS.out.ok _ (HO.out.sub _ hmem)
      have hSx : mget S x = some a := mget_of_mem HS.out.nodup (HO.out.sub _ hmem)
      have hlx : mget left x = some a := mget_of_mem HO.out.rg.nodup hmem
      have hbd := inB_bd HI.out S left S x x x
      have hw2 : IntKind.i64.wrap ((outB b S left).sg x + 1) = (outB b S left).sg x + 1 := IntWalk.i64_in _ (by omega)
      have hl1 := hat6.look1 (x := x) hok
      obtain ⟨w7, hput, hat7, hk7, hz7⟩ := hat6.putS (x := x) hok
      rw [← inB_start b S left hlx hSx] at hat7
      have c1 := hat6.c1
      have hm6 : MapIs w6 strKf intVf strOk mb S := (HS.out.keep HO.out.keeps (by have := HNE.out; intro e; rcases e with e | e | e <;> simp_all)).keep hk6 hmb1
      have hm7 := hm6.keep hk7 HNE.out.2.1
      have hrg7 := hrg6.keep hk7 (fun e => hbr.2.1 e.symm) (fun b' e => by injection e with e; subst e; exact HNE.out.2.1)
      have hkk : Keeps (fun k => k = bb ∨ k = sb ∨ k = cb ∨ k = r1) w5 w7 := (hk6.mono (fun k _ e => .inr (.inr (.inr e)))).trans hk7 (fun k _ e => .inr (.inl e))
      have HRG7 := Lib.hid hrg7
      have HAT7 := Lib.hid hat7
      have HK7 := Lib.hid (And.intro hk6 hk7)
      have HML := Lib.hid hml
      have HSX := Lib.hid hSx
      have HZ := Lib.hid (show w7.heap.size = w5.heap.size by omega)
      have HSZ5 := Lib.hid hsz5
      clear hml hbr hsz5 hat hat6 hok hSx hlx hbd hm6 hrg7 hkk hrg6 hk6 hz6 hk7 hz7 hat7 hmb1
      (try go_frame)
      go_wp2_with (at_range; refine wpList_range_is rfl _ _ rfl Tryd.underlying62 rfl hm7 ?_; intro w8 hrg8 hb8 hz8)
      have hz := HZ.out
      have hr1' := HSZ5.out
      have hin : AddI w bb sb cb mb r1 w7.heap.size S b left x S w8 :=
        ⟨HRG7.out.keep (Keeps.ofBelow hb8 (fun _ => False)) (fun e => e) (fun _ _ e => e), hrg8, HO.out.sub, fun _ h => h, ⟨_, _, HAT7.out.below hb8⟩,
          ((HO.out.keeps.trans HK7.out.1 (fun k hk e => by have := HR0.out; omega)).trans HK7.out.2 (fun k _ e => .inr (.inl e))).trans (Keeps.ofBelow hb8 (fun k => k = bb ∨ k = sb ∨ k = cb)) (fun _ _ e => e)⟩
      have h2 : r1 < w7.heap.size ∧ w.heap.size ≤ w7.heap.size := ⟨by omega, by have := HR0.out; omega⟩
      obtain ⟨r2, hr2⟩ : ∃ r2, r2 = w7.heap.size := ⟨_, rfl⟩
      rw [← hr2] at hin h2
      have HIN := Lib.hid hin
      have HR2 := Lib.hid h2
      clear hin h2 hrg8 hb8 hz8 hz hr1' hm7 HAT7 HRG7 HK7 HZ HSZ5 hput hl1 c1 hen hw2
      (try go_frame)
      rw [← hr2]
      clear hr2
      have HLN0 := HLN
      go_loopg [] S.length (fun rest wr => ∃ lf, Hid (rest = List.length lf) ∧ Hid (AddI w bb sb cb mb r1 r2 S b left x lf wr))
      case atStart => exact ⟨S, Lib.hid rfl, HIN⟩
      case round =>
        obtain ⟨lf, HLF, HN⟩ := hrel
        obtain ⟨w9, rfl⟩ : ∃ w9 : World, w9 = wr := ⟨_, rfl⟩
        go_wp2_with (at_next; refine wpList_next_is rfl _ rfl rfl HN.out.rg2 ?_ ?_)
        · intro h0
          subst h0
          obtain ⟨E1', E2', hat⟩ := HN.out.at_
          rw [inB_end] at hat
          have HO2 : Hid (AddO w bb sb cb mb r1 S b (mdel left x) w9) := Lib.hid ⟨HN.out.rg, fun p hp => HN.out.sub p (List.mem_filter.1 hp).1, ⟨_, _, hat⟩, HN.out.keeps⟩
          clear hat
          (try go_frame)
          (try go_wp2)
          go_roundg (mdel left x).length
          case measure => have := HML.out; have := HLN0.out; omega
          case rel => exact ⟨mdel left x, Lib.hid rfl, HO2⟩
        · intro y v wa hmy hrga hka hza hena
          simp only [strKf, intVf] at hena
          have hmly := mdel_len HN.out.rg2.nodup (p := (y, v)) hmy
          simp only at hmly
          obtain ⟨E1', E2', hat⟩ := HN.out.at_
          have hbr : ¬ bb = r2 ∧ ¬ sb = r2 ∧ ¬ cb = r2 := by have := HL1.out; have := HR2.out; omega
          have hatA := hat.keep hka hbr.1 hbr.2.1 hbr.2.2
          have hokx := HS.out.ok _ (HN.out.sub _ hmem)
          have hoky := HS.out.ok _ (HN.out.sub2 _ hmy)
          have hSy : mget S y = some v := mget_of_mem HS.out.nodup (HN.out.sub2 _ hmy)
          have hly : mget lf y = some v := mget_of_mem HN.out.rg2.nodup hmy
          have hst := inB_step b S left lf HSX.out hly hSy
          have hbd := inB_bd HI.out S left lf x x y
          have hw3 : IntKind.i64.wrap ((inB b S left x lf).ct x y + 1) = (inB b S left x lf).ct x y + 1 := IntWalk.i64_in _ (by omega)
          have hrgA : RangeAt wa strKf intVf r1 (some mb) (mdel left x) := HN.out.rg.keep hka (fun e => by have := HR2.out; omega) (fun b' e => by injection e with e; subst e; intro e2; have := HML1.out; have := HR2.out; omega)
          have hkpA : Keeps (fun k => k = bb ∨ k = sb ∨ k = cb) w wa := HN.out.keeps.trans hka (fun k hk e => by have := HR2.out; omega)
          have hatD : BkAt wa.drew bb sb cb E1' E2' (inB b S left x lf) := hatA.keep (Keeps.refl (fun _ => False) wa).drew (fun e => e) (fun e => e) (fun e => e)
          have hl2 := hatD.look2 (x := x) (y := y) ⟨hokx, hoky⟩
          obtain ⟨wb, wc, u, clock, hme, hes, hatC, hkC', hzC, hc2b, hl2b⟩ := hatD.putC (x := x) (y := y) ⟨hokx, hoky⟩
          have hkC : Keeps (fun k => k = cb) wa wc := ((Keeps.refl (fun k => k = cb) wa).drew).trans hkC' (fun _ _ e => e)
          have hrgC := hrgA.keep hkC (fun e => by have := HL1.out; omega) (fun b' e => by injection e with e; subst e; exact HNE.out.2.2)
          have hrg2C := hrga.keep hkC (fun e => hbr.2.2 e.symm) (fun b' e => by injection e with e; subst e; exact HNE.out.2.2)
          have hkpC := hkpA.trans hkC (fun k _ e => .inr (.inr e))
          have c2 := hatD.c2
          have hsubd : ∀ p ∈ mdel lf y, p ∈ S := fun p hp => HN.out.sub2 p (List.mem_filter.1 hp).1
          by_cases hav : a < v
          · rw [if_pos hav] at hst
            rw [← hst] at hatC
            have HI2 : Hid (AddI w bb sb cb mb r1 r2 S b left x (mdel lf y) wc) := Lib.hid ⟨hrgC, hrg2C, HN.out.sub, hsubd, ⟨_, _, hatC⟩, hkpC⟩
            have hav2 : decide (a < v) = true := decide_eq_true hav
            have HMY := Lib.hid hmly
            simp only [twoKf] at hme hl2 hl2b
            generalize (inB b S left x lf).ct x y = nc at *
            clear hmly hat hatA hatD hkC' hbr hokx hoky hSy hly hst hbd hrgA hkpA hatC hkC hzC hrgC hrg2C hkpC hsubd hrga hka hza
            (try go_frame)
            go_wp2_with fail
            refine heldStart 11 (S := fun W => W.cell? ⟨bb, 2, none⟩ = some (.map (some cb)) ∧ Sem.run Tryd.prog (Instr.lookup 63 (.map (some cb)) (.agg #[.string x, .string y]) false) W = .ok (.int .i64 nc) W) (by kernel_rfl) ?_ (fun hHeld => ?_)
            · first | exact ⟨c2, hl2⟩ | exact ⟨hc2b, hl2b⟩
            refine heldTake 0 (v := ?_) (by simp only [List.getElem?_toArray, List.getElem?_cons_succ, List.getElem?_cons_zero]; rfl) (by kernel_rfl) (by intro _ _ _ h; exact h) (by rfl) (by assumption) ?_ ?_
            rotate_left
            · intro W hSw; (try dsimp only at hSw); go_simp; try with_reducible rfl
            simp only [Act.put, List.setIfInBounds_toArray, List.set_cons_zero, List.set_cons_succ]
            refine heldTake 1 (v := ?_) (by simp only [List.getElem?_toArray, List.getElem?_cons_succ, List.getElem?_cons_zero]; rfl) (by kernel_rfl) (by intro _ _ _ h; exact h) (by rfl) (by assumption) ?_ ?_
            rotate_left
            · intro W hSw; (try dsimp only at hSw); go_simp; try with_reducible rfl
            simp only [Act.put, List.setIfInBounds_toArray, List.set_cons_zero, List.set_cons_succ]
            refine heldTake 2 (v := ?_) (by simp only [List.getElem?_toArray, List.getElem?_cons_succ, List.getElem?_cons_zero]; rfl) (by kernel_rfl) (by intro _ _ _ h; exact h) (by rfl) (by assumption) ?_ ?_
            rotate_left
            · intro W hSw; (try dsimp only at hSw); go_simp; try with_reducible rfl
            simp only [Act.put, List.setIfInBounds_toArray, List.set_cons_zero, List.set_cons_succ]
            refine heldTake 3 (v := ?_) (by simp only [List.getElem?_toArray, List.getElem?_cons_succ, List.getElem?_cons_zero]; rfl) (by kernel_rfl) (by intro _ _ _ h; exact h) (by rfl) (by assumption) ?_ ?_
            rotate_left
            · intro W hSw; (try dsimp only at hSw); go_simp; try with_reducible rfl
            simp only [Act.put, List.setIfInBounds_toArray, List.set_cons_zero, List.set_cons_succ]
            refine heldTake 4 (v := ?_) (by simp only [List.getElem?_toArray, List.getElem?_cons_succ, List.getElem?_cons_zero]; rfl) (by kernel_rfl) (by intro _ _ _ h; exact h) (by rfl) (by assumption) ?_ ?_
            rotate_left
            · intro W hSw; (try dsimp only at hSw); go_simp; try with_reducible rfl
            simp only [Act.put, List.setIfInBounds_toArray, List.set_cons_zero, List.set_cons_succ]
            refine heldTake 5 (v := ?_) (by simp only [List.getElem?_toArray, List.getElem?_cons_succ, List.getElem?_cons_zero]; rfl) (by kernel_rfl) (by intro _ _ _ h; exact h) (by rfl) (by assumption) ?_ ?_
            rotate_left
            · intro W hSw; (try dsimp only at hSw); go_simp; try with_reducible rfl
            simp only [Act.put, List.setIfInBounds_toArray, List.set_cons_zero, List.set_cons_succ]
            refine heldTake 6 (v := ?_) (by simp only [List.getElem?_toArray, List.getElem?_cons_succ, List.getElem?_cons_zero]; rfl) (by kernel_rfl) (by intro _ _ _ h; exact h) (by rfl) (by assumption) ?_ ?_
            rotate_left
            · intro W hSw; (try dsimp only at hSw); go_simp; try with_reducible rfl
            simp only [Act.put, List.setIfInBounds_toArray, List.set_cons_zero, List.set_cons_succ]
            refine heldTake 7 (v := ?_) (by simp only [List.getElem?_toArray, List.getElem?_cons_succ, List.getElem?_cons_zero]; rfl) (by kernel_rfl) (by intro _ _ _ h; exact h) (by rfl) (by assumption) ?_ ?_
            rotate_left
            · intro W hSw; (try dsimp only at hSw); go_simp; try with_reducible rfl
            simp only [Act.put, List.setIfInBounds_toArray, List.set_cons_zero, List.set_cons_succ]
            refine heldTake 8 (v := ?_) (by simp only [List.getElem?_toArray, List.getElem?_cons_succ, List.getElem?_cons_zero]; rfl) (by kernel_rfl) (by intro _ _ _ h; exact h) (by rfl) (by assumption) ?_ ?_
            rotate_left
            · intro W hSw; (try dsimp only at hSw); go_simp; try with_reducible rfl
            simp only [Act.put, List.setIfInBounds_toArray, List.set_cons_zero, List.set_cons_succ]
            refine heldCall 9 (by simp only [List.getElem?_toArray, List.getElem?_cons_succ, List.getElem?_cons_zero]; rfl) (by kernel_rfl) (fun K hK => ?_)
            go_simp
            refine hK.out _ _ ?_ (fun hHeld => ?_)
            · first | exact ⟨c2, hl2⟩ | exact ⟨hc2b, hl2b⟩
            clear hK K
            (try simp only [Act.put, List.setIfInBounds_toArray, List.set_cons_zero, List.set_cons_succ])
            refine heldTake 10 (v := ?_) (by simp only [List.getElem?_toArray, List.getElem?_cons_succ, List.getElem?_cons_zero]; rfl) (by kernel_rfl) (by intro _ _ _ h; exact h) (by rfl) (by assumption) ?_ ?_
            rotate_left
            · intro W hSw; (try dsimp only at hSw); go_simp; try with_reducible rfl
            simp only [Act.put, List.setIfInBounds_toArray, List.set_cons_zero, List.set_cons_succ]
            refine heldLast 11 (by simp only [List.getElem?_toArray, List.getElem?_cons_succ, List.getElem?_cons_zero]; rfl) (by kernel_rfl) rfl (fun K hK => ?_)
            go_simp
            refine hK.out _ _ ?_
            clear hK K
            (try simp only [Act.put, List.setIfInBounds_toArray, List.set_cons_zero, List.set_cons_succ])
            refine heldDone (by kernel_rfl) ?_ _
            go_wp2_with fail
            go_roundg (mdel lf y).length
            case measure => have := HMY.out; have := HLF.out; omega
            case rel => exact ⟨mdel lf y, Lib.hid rfl, HI2⟩
          · rw [if_neg hav] at hst
            rw [← hst] at hatA
            have HI2 : Hid (AddI w bb sb cb mb r1 r2 S b left x (mdel lf y) wa) := Lib.hid ⟨hrgA, hrga, HN.out.sub, hsubd, ⟨_, _, hatA⟩, hkpA⟩
            have hav2 : decide (a < v) = false := decide_eq_false hav
            have HMY := Lib.hid hmly
            clear hmly hat hatA hbr hokx hoky hSy hly hst hbd hrgA hkpA hatC hkC hzC hrgC hrg2C hkpC hsubd hrga hka hza hme hes hl2 hl2b hc2b hatD hkC' c2
            (try go_frame)
            go_wp2
            go_roundg (mdel lf y).length
            case measure => have := HMY.out; have := HLF.out; omega
            case rel => exact ⟨mdel lf y, Lib.hid rfl, HI2⟩
end Go.Proofs.YtaollcpoibgblaaDoor
