/- Contract of (*pane.Panes).Merge. -/
import Derived.Test.YtbfjknpljkmgjaaPanM
import Derived.Test.YtbfjknpljkmgjaaKitH
import Derived.Test.YtbfjknpljkmgjaaKitC
import Derived.RegionTactic
import Derived.BigRegion
import Derived.Test.YtbfjknpljkmgjaaLayR
namespace Go.Proofs.Ytbfjknpljkmgjaa
open Go.ChangeShapes Go.WideShapes Go.ChangeAt Go.RowKit
set_option linter.unusedVariables false
set_option linter.unusedSimpArgs false

/-- What holds while the sums are being put. -/
structure MgP (w : World) (pb bs br : Nat) (wd ad : Int) (R : RowsL) (H : List AddD) (r1 cm : Nat) (left Si : SumsL) (Ri : RowsL) (wr : World) : Prop where
  rg : RangeAt wr cellKf intVf r1 (some cm) left
  at_ : PanesAt wr pb bs br wd ad Si Ri
  inv : MInv wd H left Si Ri
  n1 : ¬ paneFoot pb bs br Ri r1
  n2 : ¬ paneFoot pb bs br Ri cm
  r1w : w.heap.size ≤ r1
  keeps : Keeps (paneFoot pb bs br R) w wr
  foot : ∀ k, paneFoot pb bs br Ri k → paneFoot pb bs br R k ∨ w.heap.size ≤ k
theorem MgP.step {w : World} {pb bs br : Nat} {wd ad : Int} {R : RowsL} {H : List AddD} {r1 cm : Nat} {left Si : SumsL} {Ri : RowsL} {wr : World} (h : MgP w pb bs br wd ad R H r1 cm left Si Ri wr) {key : ByteArray} {q n : Int} (hp : ((key, q), n) ∈ left) {w2 w3 : World}
    (hrg : RangeAt w2 cellKf intVf r1 (some cm) (mdel left (key, q))) (hk2 : Keeps (fun k => k = r1) wr w2) {R' : RowsL} (hat : PanesAt w3 pb bs br wd ad (mput Si (key, q) (val Si (key, q) + n)) R')
    (hR : (0 < val Si (key, q) ∧ R' = Ri) ∨ (val Si (key, q) = 0 ∧ ∃ A c, R' = mput Ri key ⟨A, c, (rowOf Ri key).ns ++ [q]⟩)) (hk3 : Keeps (paneFoot pb bs br Ri) w2 w3) (hf3 : ∀ k, paneFoot pb bs br R' k → paneFoot pb bs br Ri k ∨ w2.heap.size ≤ k) :
    MgP w pb bs br wd ad R H r1 cm (mdel left (key, q)) (mput Si (key, q) (val Si (key, q) + n)) R' w3 := by
  have hz2 := hk2.size
  have hr1l : r1 < wr.heap.size := h.rg.lt
  have hcml : cm < wr.heap.size := by
    obtain ⟨es, clock, since, seen, c0, q1, _⟩ := h.rg
    exact (Array.getElem?_eq_some_iff.1 q1).1
  have hno : ∀ {j : Nat}, j < wr.heap.size → ¬ paneFoot pb bs br Ri j → ¬ paneFoot pb bs br R' j := fun {j} hj hn hq => by
    rcases hf3 j hq with h1 | h1
    · exact hn h1
    · omega
  refine ⟨hrg.keep hk3 h.n1 (fun b e => by cases e; exact h.n2), hat, h.inv.put hp hR, hno hr1l h.n1, hno hcml h.n2, h.r1w, ?_, ?_⟩
  · refine (h.keeps.trans hk2 (fun k hk e => by have := h.r1w; omega)).trans hk3 (fun k hk e => ?_)
    rcases h.foot k e with h1 | h1
    · exact h1
    · omega
  · intro j hj
    rcases hf3 j hj with h1 | h1
    · exact h.foot j h1
    · have := h.keeps.size
      exact .inr (by omega)

/-- What Merge leaves. -/
def PMerge (w : World) (pb : Nat) (F : Nat → Prop) (wd : Int) (H : List AddD) (e : Ending) (w' : World) : Prop :=
  e = .returned (.bool true) ∧ ∃ F', PaneObj w' pb F' wd H ∧ Keeps F w w' ∧ (∀ k, F' k → F k ∨ w.heap.size ≤ k)

set_option maxRecDepth 20000 in
set_option maxHeartbeats 2000000 in
theorem pmerge_any (pb ob : Nat) (F G : Nat → Prop) (wd : Int) (hist hist2 : List AddD) (w : World) (h : PaneObj w pb F wd hist) (h2 : PaneObj w ob G wd hist2) (hFG : ∀ k, G k → ¬ F k) (hct : hist.length + hist2.length ≤ 1048576) :
    Calls Try.prog 23 #[.pointer (some ⟨pb, 0, none⟩), .pointer (some ⟨ob, 0, none⟩)] w (PMerge w pb F wd (hist ++ hist2)) := by
  obtain ⟨bs, br, S, R, hP, hI, rfl⟩ := h
  obtain ⟨bs2, br2, S2, R2, hP2, hI2, rfl⟩ := h2
  have hM := MInv.start hI hI2 hct
  obtain ⟨c0, c1, c2, c3⟩ := cell_of_panes hP
  obtain ⟨o0, o1, o2, o3⟩ := cell_of_panes hP2
  have hfz := frozen_of_blk hP.blk 1
  have hne1 : (wd != wd) = false := by simp
  have hct' : (hist.length : Int) + (hist2.length : Int) ≤ 1048576 := by omega
  have hl0 : (0 : Int) ≤ (hist.length : Int) := by omega
  have hl1 : (0 : Int) ≤ (hist2.length : Int) := by omega
  have hlen : ((hist ++ hist2).length : Int) = (hist.length : Int) + (hist2.length : Int) := by simp
  have hbo : bs2 ≠ pb := fun e => hFG bs2 (.inr (.inl rfl)) (.inl e)
  generalize (hist.length : Int) = a1 at *
  generalize (hist2.length : Int) = a2 at *
  have hgt : decide (1048576 < a1 + a2) = false := by simp; omega
  have hw1 : IntKind.i64.wrap (a1 + a2) = a1 + a2 := IntWalk.i64_in _ (by omega)
  have HLEN := Lib.hid hlen
  have HP := Lib.hid hP
  have HSO := Lib.hid hP2.sums
  have HM := Lib.hid hM
  clear hP hP2 hI hI2 hM hlen hct
  go_enter Try.func23, Try.ntmps23
  go_wp2_with fail
  go_quiet (fail)
  go_wp2_with fail
  have hD1 := HP.out.drewN nq
  have hso1 := HSO.out.drewN nq
  have hk1 : Keeps (paneFoot pb bs br R) w (w.drewN nq) := (Keeps.refl _ _).drewN nq
  replace o1 : (w.drewN nq).cell? ⟨ob, 1, none⟩ = some (.int .i64 a2) := o1
  replace o2 : (w.drewN nq).cell? ⟨ob, 2, none⟩ = some (.map (some bs2)) := o2
  replace hfz : (w.drewN nq).frozen? ⟨pb, 1, none⟩ = false := hfz
  replace c1 : (w.drewN nq).cell? ⟨pb, 1, none⟩ = some (.int .i64 a1) := c1
  generalize w.drewN nq = w1 at *
  go_region
  have hD2 : PanesAt (w1.setCell ⟨pb, 1, none⟩ (.int .i64 (a1 + a2))).drew pb bs br wd (a1 + a2) S R := (hD1.bump (a1 + a2)).keep (Keeps.refl (fun _ => False) _).drew (fun _ _ e => e)
  have hks : Keeps (fun q => q = pb) w1 (w1.setCell ⟨pb, 1, none⟩ (.int .i64 (a1 + a2))).drew := ((Keeps.refl (fun q => q = pb) w1).setCell (p := ⟨pb, 1, none⟩) (.inr rfl) _).drew
  have hso2 := hso1.keep hks hbo
  have hk2 : Keeps (paneFoot pb bs br R) w (w1.setCell ⟨pb, 1, none⟩ (.int .i64 (a1 + a2))).drew := hk1.trans hks (fun q _ e => .inl e)
  have p2 : (w1.setCell ⟨pb, 1, none⟩ (.int .i64 (a1 + a2))).drew.cell? ⟨ob, 2, none⟩ = some (.map (some bs2)) := (World.cell?_setCell_other w1 ⟨pb, 1, none⟩ ⟨ob, 2, none⟩ _ (by intro e; injection e with _ e; cases e)).trans o2
  clear hD1 hso1 hk1 hks o0 o1 o2 o3 c0 c1 c2 c3 hfz hne1 hgt hw1
  go_wp2_with fail
  generalize (w1.setCell ⟨pb, 1, none⟩ (.int .i64 (a1 + a2))).drew = w2 at *
  refine (mapsClone_any (P := Try.prog) Try.cloP hso2).mono ?_
  rintro e w3 ⟨rfl, hm3, hb3, hz3⟩
  have HZ3 := Lib.hid hz3
  clear hz3
  have hlt2 := hD2.foot_lt
  have hD3 := hD2.keep (Keeps.ofBelow hb3 (fun _ => False)) (fun _ _ e => e)
  have hk3 : Keeps (paneFoot pb bs br R) w w3 := hk2.trans (Keeps.ofBelow hb3 (fun _ => False)) (fun _ _ e => e.elim)
  have hzw := hk2.size
  go_wp2_with (at_range; refine wpList_range_is rfl _ _ rfl Try.underlying68 rfl hm3 ?_; intro w4 hrg4 hb4 hz4)
  have hz3 := HZ3.out
  have hD4 := hD3.keep (Keeps.ofBelow hb4 (fun _ => False)) (fun _ _ e => e)
  have hk4 : Keeps (paneFoot pb bs br R) w w4 := hk3.trans (Keeps.ofBelow hb4 (fun _ => False)) (fun _ _ e => e.elim)
  have hst : MgP w pb bs br wd (a1 + a2) R (hist ++ hist2) w3.heap.size w2.heap.size S2 S R w4 :=
    ⟨hrg4, hD4, HM.out, fun hq => by have := hlt2 _ hq; omega, fun hq => by have := hlt2 _ hq; omega, by omega, hk4, fun _ h => .inl h⟩
  clear hD2 hso2 hk2 p2 hm3 hb3 hD3 hk3 hrg4 hb4 hD4 hk4 hlt2
  go_frame
  obtain ⟨r1, hr1⟩ : ∃ r1, r1 = w3.heap.size := ⟨_, rfl⟩
  obtain ⟨cm, hcm⟩ : ∃ cm, cm = w2.heap.size := ⟨_, rfl⟩
  rw [← hr1, ← hcm] at hst
  rw [← hr1]
  have HST := Lib.hid hst
  clear hst hr1 hcm hz3 hz4 hzw
  go_loopg [] S2.length (fun rest wr => ∃ left Si Ri, Hid (rest = List.length left) ∧ Hid (MgP w pb bs br wd (a1 + a2) R (hist ++ hist2) r1 cm left Si Ri wr))
  case atStart => exact ⟨S2, S, R, Lib.hid rfl, HST⟩
  case round =>
    obtain ⟨left, Si, Ri, HLN, HM2⟩ := hrel
    obtain ⟨w5, rfl⟩ : ∃ w5 : World, w5 = wr := ⟨_, rfl⟩
    go_wp2_with (at_next; refine wpList_next_is rfl _ rfl rfl HM2.out.rg ?_ ?_)
    · intro h0
      subst h0
      have hfin := HM2.out.inv.fin
      (try go_frame)
      go_wp2
      go_ret
      exact ⟨rfl, _, ⟨bs, br, Si, Ri, by rw [HLEN.out]; exact HM2.out.at_, hfin, rfl⟩, HM2.out.keeps, HM2.out.foot⟩
    · intro key q v w6 hmem hrg6 hk6 hz6 hen
      have hml := mdel_len HM2.out.rg.nodup (p := ((key, q), v)) hmem
      simp only at hml
      have HML := Lib.hid hml
      have hvb := HM2.out.inv.valB key q
      have hlb := HM2.out.inv.leftB hmem
      have hok := HM2.out.inv.ok hmem
      have hrl := HM2.out.inv.rowOfL key
      have hP6 : PanesAt w6 pb bs br wd (a1 + a2) Si Ri := HM2.out.at_.keep hk6 (fun j hj e => HM2.out.n1 (e ▸ hj))
      have hP7 := hP6.alloc (.cells #[.string key, .int .i64 q] 79)
      simp only [cellKf, intVf] at hen
      have HP7 := Lib.hid hP7
      have HOK := Lib.hid hok
      have HRL := Lib.hid hrl
      clear hml hP6 hP7 hok hrl hz6
      (try go_frame)
      by_cases hv0 : val Si (key, q) = 0
      · go_wp2_with fail
        refine (pput_new pb bs br wd _ Si Ri key q v _ HP7.out HOK.out hlb.1 hlb.2 hv0 HRL.out).mono ?_
        rintro e w8 ⟨rfl, R', hP8, ⟨A', c', rfl⟩, hK8, hF8⟩
        have hs := HM2.out.step hmem hrg6 hk6 (w3 := w8) (R' := mput Ri key ⟨A', c', (rowOf Ri key).ns ++ [q]⟩) (by rw [hv0, Int.zero_add]; exact hP8) (.inr ⟨hv0, A', c', rfl⟩) (((Keeps.refl _ w6).alloc _).trans hK8 (fun _ _ h => h)) (fun k hk => by
          rcases hF8 k hk with h1 | h1
          · exact .inl h1
          · exact .inr (by rw [World.size_alloc] at h1; omega))
        have HS := Lib.hid hs
        clear hs hv0
        go_wp2
        go_roundg (gk - 1)
        case measure => have := HLN.out; have := HML.out; omega
        case rel => exact ⟨_, _, _, Lib.hid (by have := HLN.out; have := HML.out; omega), HS⟩
      · go_wp2_with fail
        refine (pput_old pb bs br wd _ Si Ri key q v _ HP7.out HOK.out hlb.1 hlb.2 (by omega) hvb.2).mono ?_
        rintro e w8 ⟨rfl, R', hP8, rfl, hK8, hF8⟩
        have hs := HM2.out.step hmem hrg6 hk6 (w3 := w8) hP8 (.inl ⟨by omega, rfl⟩) (((Keeps.refl _ w6).alloc _).trans hK8 (fun _ _ h => h)) (fun k hk => by
          rcases hF8 k hk with h1 | h1
          · exact .inl h1
          · exact .inr (by rw [World.size_alloc] at h1; omega))
        have HS := Lib.hid hs
        clear hs hv0
        go_wp2
        go_roundg (gk - 1)
        case measure => have := HLN.out; have := HML.out; omega
        case rel => exact ⟨_, _, _, Lib.hid (by have := HLN.out; have := HML.out; omega), HS⟩
end Go.Proofs.Ytbfjknpljkmgjaa
