/- Walk of DedupeOrders. -/
import Derived.Test.YtcladmcbhnmhiaaDdV
import Derived.Test.YtcladmcbhnmhiaaKitOb
import Derived.Test.YtcladmcbhnmhiaaKitC
import Derived.Test.YtcladmcbhnmhiaaDdN
namespace Go.Proofs.Ytcladmcbhnmhiaa
open Go.ChangeShapes Go.WideShapes Go.ChangeAt Go.RowKit Go.Shelf Go.Lib Go.Sort Go.Proofs
set_option linter.unusedVariables false
set_option linter.unusedSimpArgs false

def obS (sb : Nat) (F : RowsF) : Ob1 := ⟨fun w G => SetObj w sb G F, SetObj.own sb F⟩
theorem SetObj.keysEx {w : World} {sb : Nat} {G : Nat → Prop} {F : RowsF} (h : SetObj w sb G F) : ∃ ks, KeysF F ks := by
  obtain ⟨mb, D, hD, -⟩ := h
  refine ⟨_, hD.keys (m := (D.map (·.1)).mergeSort (fun x y => !sLt y x)) (List.mergeSort_perm _ _) ?_⟩
  have := List.pairwise_mergeSort (le := fun x y => !sLt y x) (fun a b c h1 h2 => by
    cases h3 : sLt c a with
    | false => rfl
    | true =>
      exfalso
      simp at h1 h2
      cases h4 : sLt a b with
      | true => have := sLt_trans h3 h4; rw [this] at h2; cases h2
      | false => have := sLt_total h4 h1; subst this; rw [h3] at h2; cases h2) (fun a b => by
    cases h1 : sLt b a with
    | false => rfl
    | true => simp [sLt_asymm h1]) (D.map (·.1))
  exact this.imp (fun h => by simpa using h)
theorem foldF_bd (l : List OpD) (hl : l.length ≤ 1000) : SetBd (foldF l) := ⟨(foldF_ok l).top, fun k => by have := (foldF_ok l).len k; omega⟩
theorem foldF_rev (l : List OpD) : foldF l.reverse = foldF l := (foldF_ok _).unique (foldF_ok l) (fun o _ => by simp)
theorem foldF_cut (l : List OpD) (k : Nat) : mergeF (foldF (l.take k)) (foldF (l.drop k)) = foldF l := ((foldF_ok _).merge (foldF_ok _)).unique (foldF_ok l) (fun o _ => by rw [List.take_append_drop])
theorem rev_at {l : List OpD} {i : Nat} (hi : i < l.length) : l.reverse.take (i + 1) = l.reverse.take i ++ [l[l.length - 1 - i]'(by omega)] := by
  rw [List.take_succ_eq_append_getElem (by simpa using hi), List.getElem_reverse]
theorem cut_low {l : List OpD} {i k : Nat} (hi : i < l.length) (hk : i < k) : (l.take k).take (i + 1) = (l.take k).take i ++ [l[i]] ∧ (l.take (i + 1)).drop k = (l.take i).drop k := by
  refine ⟨?_, ?_⟩
  · rw [List.take_succ_eq_append_getElem (by rw [List.length_take]; omega), List.getElem_take]
  · rw [List.drop_of_length_le (by rw [List.length_take]; omega), List.drop_of_length_le (by rw [List.length_take]; omega)]
theorem cut_high {l : List OpD} {i k : Nat} (hi : i < l.length) (hk : k ≤ i) : (l.take k).take (i + 1) = (l.take k).take i ∧ (l.take (i + 1)).drop k = (l.take i).drop k ++ [l[i]] := by
  refine ⟨?_, ?_⟩
  · rw [List.take_take, List.take_take]
    congr 1
    omega
  · rw [List.take_succ_eq_append_getElem hi, List.drop_append_of_le_length (by rw [List.length_take]; omega)]

theorem ob_put {w W W' : World} {B : Nat} {os : List Ob1} {F : Nat → Nat → Prop} {x n : Nat} (h : Objs w W B os F ∧ ∀ j, j < n → ¬ F j x) (hx : x < W.heap.size) {i s : Nat} {Fs Fs' : RowsF} {G' : Nat → Prop} (hi : i < n) (hos : os[i]? = some (obS s Fs)) (hS : SetObj W' s G' Fs') (hU : Upd (F i) W G' W') :
    (∃ F', Objs w W' B (os.set i (obS s Fs')) F' ∧ ∀ j, j < n → ¬ F' j x) ∧ x < W'.heap.size ∧ ∀ o sp, W'.cell? ⟨x, o, sp⟩ = W.cell? ⟨x, o, sp⟩ := by
  refine ⟨h.1.upd2 (obS s Fs') hos hU hS hx h.2, Nat.lt_of_lt_of_le hx hU.keeps.size, fun o sp => hU.keeps.cell (p := ⟨x, o, sp⟩) hx (h.2 i hi)⟩
theorem ob_draw {w W : World} {B : Nat} {os : List Ob1} {F : Nat → Nat → Prop} {x n : Nat} (h : Objs w W B os F ∧ ∀ j, j < n → ¬ F j x) (m : Nat) : Objs w (W.drewN m) B os F ∧ ∀ j, j < n → ¬ F j x := ⟨h.1.below (below_drewN (Below.refl _ _) m), h.2⟩

/-- The four sets, i numbers put. -/
def FourAt (w : World) (l : List OpD) (k i a b c d : Nat) (W : World) : Prop := ∃ F, Objs w W w.heap.size [obS a (foldF (l.take i)), obS b (foldF (l.reverse.take i)), obS c (foldF ((l.take k).take i)), obS d (foldF ((l.take i).drop k))] F

set_option maxHeartbeats 16000000 in
set_option maxRecDepth 100000 in
theorem orders_walk (A : Option Addr) (c : Nat) (l : List OpD) (cut : Int) (w : World) (h : OpsAt w w.heap.size A l) (hl : (l.length : Int) ≤ 9223372036854775807) (hcut : 0 ≤ cut ∧ cut ≤ 255) :
    Calls Try.prog 8 #[.slice A l.length c, .int .u8 cut] w fun e w' => e = .returned (.bool true) ∧ Below w.heap.size w w' := by
  have HL := Lib.hid h
  clear h
  go_enter Try.func8, Try.ntmps8
  go_wp2_with fail
  refine Calls.mono (long_any A c l w HL.out hl) ?_
  rintro e w1 ⟨lb, rfl, hlong, hb1⟩
  have HB1 := Lib.hid hb1
  have HLG := Lib.hid hlong
  clear hb1 hlong
  cases lb with
  | true =>
    go_wp2_with fail
    refine Calls.mono (awake_any w1) ?_
    rintro e w2 ⟨rfl, hb2⟩
    have HB2 := Lib.hid (HB1.out.trans (hb2.mono HB1.out.size))
    clear hb2
    go_wp2
    go_ret
    exact ⟨rfl, HB2.out⟩
  | false =>
  obtain ⟨h80, -⟩ := HLG.out rfl
  clear HLG
  have HO0 : Hid (∃ F, Objs w w1 w.heap.size [] F) := Lib.hid ⟨_, Objs.nil (Nat.le_refl _) HB1.out⟩
  go_wp2_with fail
  refine Calls.mono (dnew_any w1) ?_
  rintro e w2 ⟨sa, Ga, rfl, ha, hga, hb2⟩
  have HO1 : Hid (∃ F, Objs w w2 w.heap.size [obS sa (fun _ => [])] F) := Lib.hid (by obtain ⟨F, hF⟩ := HO0.out; exact hF.new (obS sa _) hb2 ha hga)
  clear ha hga hb2 HO0
  go_wp2_with fail
  refine Calls.mono (dnew_any w2) ?_
  rintro e w3 ⟨sb, Gb, rfl, ha, hga, hb2⟩
  have HO2 : Hid (∃ F, Objs w w3 w.heap.size [obS sa (fun _ => []), obS sb (fun _ => [])] F) := Lib.hid (by obtain ⟨F, hF⟩ := HO1.out; exact hF.new (obS sb _) hb2 ha hga)
  clear ha hga hb2 HO1
  go_wp2_with fail
  refine Calls.mono (dnew_any w3) ?_
  rintro e w4 ⟨sc, Gc, rfl, ha, hga, hb2⟩
  have HO3 : Hid (∃ F, Objs w w4 w.heap.size [obS sa (fun _ => []), obS sb (fun _ => []), obS sc (fun _ => [])] F) := Lib.hid (by obtain ⟨F, hF⟩ := HO2.out; exact hF.new (obS sc _) hb2 ha hga)
  clear ha hga hb2 HO2
  go_wp2_with fail
  refine Calls.mono (dnew_any w4) ?_
  rintro e w5 ⟨sd, Gd, rfl, ha, hga, hb2⟩
  have HO4 : Hid (∃ F, Objs w w5 w.heap.size [obS sa (fun _ => []), obS sb (fun _ => []), obS sc (fun _ => []), obS sd (fun _ => [])] F) := Lib.hid (by obtain ⟨F, hF⟩ := HO3.out; exact hF.new (obS sd _) hb2 ha hga)
  clear ha hga hb2 HO3
  have hw1 : wrap64 ((l.length : Int) + 1) = (l.length : Int) + 1 := by unfold wrap64; omega
  have hw2 : wrap64 cut = cut := by unfold wrap64; omega
  have hn0 : ¬ ((l.length : Int) + 1 = 0) := by omega
  obtain ⟨k, hk⟩ : ∃ k : Nat, (k : Int) = cut.tmod ((l.length : Int) + 1) := ⟨(cut.tmod ((l.length : Int) + 1)).toNat, by
    have := Int.tmod_nonneg ((l.length : Int) + 1) hcut.1
    omega⟩
  have hkl : k ≤ l.length := by
    have := Int.tmod_lt_of_pos cut (show (0 : Int) < (l.length : Int) + 1 by omega)
    omega
  have hw3 : wrap64 (cut.tmod ((l.length : Int) + 1)) = (k : Int) := by rw [← hk]; unfold wrap64; omega
  have hw4 : cut.tmod ((l.length : Int) + 1) = (k : Int) := hk.symm
  have HF0 : Hid (FourAt w l k 0 sa sb sc sd w5) := Lib.hid (by
    unfold FourAt
    have : (foldF (l.take 0)) = (fun _ => []) := by simp [foldF]
    have e2 : (foldF (l.reverse.take 0)) = (fun _ => []) := by simp [foldF]
    have e3 : (foldF ((l.take k).take 0)) = (fun _ => []) := by simp [foldF]
    have e4 : (foldF ((l.take 0).drop k)) = (fun _ => []) := by simp [foldF]
    rw [this, e2, e3, e4]
    exact HO4.out)
  clear HO4 hk
  go_wp2_with fail
  go_loopg [42] l.length (fun rest s wr => ∃ i : Nat, s = .int .i64 i ∧ Hid (i + rest = l.length) ∧ (i : Int) ≤ 80 ∧ Hid (FourAt w l k i sa sb sc sd wr))
  case atStart => exact ⟨0, rfl, Lib.hid (by simp), by omega, HF0⟩
  case round =>
    obtain ⟨i, rfl, HI, hi0, HF⟩ := hrel
    by_cases hi : (i : Int) < (l.length : Int)
    · have hil : i < l.length := by omega
      obtain ⟨Fr, hOr⟩ := HF.out
      have hBr := hOr.bl
      obtain ⟨b, o, rfl, hbl, y1, y2⟩ := (HL.out.below hBr).one hil
      obtain ⟨r, hr⟩ : ∃ r : Nat, r = l.length - 1 - i := ⟨_, rfl⟩
      have hrl : r < l.length := by omega
      obtain ⟨b', o', e', -, y3, y4⟩ := (HL.out.below hBr).one hrl
      injection e' with e'
      injection e' with e1 e2
      subst e1 e2
      have hin := HL.out.2 _ (List.getElem_mem hil)
      have hin2 := HL.out.2 _ (List.getElem_mem hrl)
      have ta := List.take_succ_eq_append_getElem hil
      have tb := rev_at hil
      have hrr : l[l.length - 1 - i]'(by omega) = l[r] := by congr 1; exact hr.symm
      rw [hrr] at tb
      have tlow := fun (hk : i < k) => cut_low hil hk
      have thigh := fun (hk : k ≤ i) => cut_high hil hk
      have hla : ∀ q, (foldF (l.take i) q).length < 900000 := fun q => by have := (foldF_ok (l.take i)).len q; rw [List.length_take] at this; omega
      have hlb : ∀ q, (foldF (l.reverse.take i) q).length < 900000 := fun q => by have := (foldF_ok (l.reverse.take i)).len q; rw [List.length_take] at this; omega
      have hlc : ∀ q, (foldF ((l.take k).take i) q).length < 900000 := fun q => by have := (foldF_ok ((l.take k).take i)).len q; rw [List.length_take] at this; omega
      have hld : ∀ q, (foldF ((l.take i).drop k) q).length < 900000 := fun q => by have := (foldF_ok ((l.take i).drop k)).len q; rw [List.length_drop, List.length_take] at this; omega
      generalize hq1 : l[i] = op1 at *
      generalize hq2 : l[r] = op2 at *
      obtain ⟨k1, n1⟩ := op1
      obtain ⟨k2, n2⟩ := op2
      simp only at y1 y2 y3 y4
      obtain ⟨hs1, hn1⟩ := hin
      obtain ⟨hs2, hn2⟩ := hin2
      simp only at hs1 hn1 hs2 hn2
      have HT := Lib.hid (And.intro (And.intro ta tb) (And.intro tlow thigh))
      have HLL := Lib.hid (And.intro (And.intro hla hlb) (And.intro hlc hld))
      clear ta tb tlow thigh hla hlb hlc hld hq1 hq2 hrr
      obtain ⟨W9, hW9⟩ : ∃ W9, W9 = wr.alloc (.cells #[.string k1, .int .i64 n1] 48) := ⟨_, rfl⟩
      have z0 : W9.cell? ⟨wr.heap.size, 0, none⟩ = some (.string k1) := by rw [hW9]; simp
      have z1 : W9.cell? ⟨wr.heap.size, 1, none⟩ = some (.int .i64 n1) := by rw [hW9]; simp
      have hbw : Below wr.heap.size wr W9 := by rw [hW9]; exact (Below.refl _ wr).alloc (Nat.le_refl _) _
      have hO9 := hOr.below hbw
      have hnb : ∀ j, j < 4 → ¬ Fr j wr.heap.size := fun j hj hf => by
        have := hOr.lt (i := j) (by simpa using hj) hf
        omega
      have hx9 : wr.heap.size < W9.heap.size := by rw [hW9]; simp
      have HO9F := Lib.hid (And.intro hO9 hnb)
      have HBR := Lib.hid hBr
      have HX9 := Lib.hid hx9
      have HCD := Lib.hid (And.intro z0 z1)
      have hpa := put_any sa (Fr 0) (foldF (l.take i)) k1 n1 W9 (hO9.get (i := 0) rfl) hs1 (HLL.out.1.1 k1) hn1.1 hn1.2
      have HPA := Lib.hid hpa
      clear hpa hO9 hnb hx9 hOr hBr hbw HF
      have HY : Hid (∀ W, Below w.heap.size w W → W.cell? ⟨b, o + r * 2, none⟩ = some (.string k2) ∧ W.cell? ⟨b, o + r * 2 + 1, none⟩ = some (.int .i64 n2)) := Lib.hid (fun W hW => by
        have hWr := HBR.out
        refine ⟨((hW.cell (p := ⟨b, o + r * 2, none⟩) hbl).trans (hWr.cell (p := ⟨b, o + r * 2, none⟩) hbl).symm).trans y3, ((hW.cell (p := ⟨b, o + r * 2 + 1, none⟩) hbl).trans (hWr.cell (p := ⟨b, o + r * 2 + 1, none⟩) hbl).symm).trans y4⟩)
      clear y3 y4
      go_wp2_with fail
      rw [← hW9]
      clear hW9
      refine Calls.mono HPA.out ?_
      rintro e v1 ⟨G1, rfl, hS1, hU1⟩
      obtain ⟨⟨F1, hO1⟩, hx1, hc1⟩ := ob_put HO9F.out HX9.out (i := 0) (by omega) rfl hS1 hU1
      have z0' := (hc1 0 none).trans HCD.out.1
      have z1' := (hc1 1 none).trans HCD.out.2
      obtain ⟨y3, y4⟩ := HY.out v1 hO1.1.bl
      have hO1d := ob_draw hO1 1
      have hpb := put_any sb (F1 1) (foldF (l.reverse.take i)) k2 n2 v1.drew (hO1d.1.get (i := 1) rfl) hs2 (HLL.out.1.2 k2) hn2.1 hn2.2
      have HPB := Lib.hid hpb
      have HO1 := Lib.hid hO1d
      have HX1 := Lib.hid (show wr.heap.size < v1.drew.heap.size ∧ v1.drew.cell? ⟨wr.heap.size, 0, none⟩ = some (.string k1) ∧ v1.drew.cell? ⟨wr.heap.size, 1, none⟩ = some (.int .i64 n1) from ⟨hx1, z0', z1'⟩)
      have q1 : IntKind.i64.wrap ((l.length : Int) - 1) = (l.length : Int) - 1 := IntWalk.i64_in _ (by omega)
      have q2 : IntKind.i64.wrap ((l.length : Int) - 1 - (i : Int)) = (r : Int) := by rw [IntWalk.i64_in _ (by omega)]; omega
      have q5 : (r : Int) < (l.length : Int) := by omega
      clear hr hrl
      clear hpb hO1 hO1d hx1 hc1 z0' z1' hS1 hU1 z0 z1
      go_wp2_with fail
      refine heldStart 20 (S := fun W => W.cell? ⟨b, o + r * 2, none⟩ = some (.string k2) ∧ W.cell? ⟨b, o + r * 2 + 1, none⟩ = some (.int .i64 n2)) (by kernel_rfl) ?_ (fun hHeld => ?_)
      · first | exact ⟨y3, y4⟩ | exact ⟨y5, y6⟩
      refine heldTake 0 (v := ?_) (by simp only [List.getElem?_toArray, List.getElem?_cons_succ, List.getElem?_cons_zero]; rfl) (by kernel_rfl) (by intro _ _ _ h; exact h) (by rfl) (by assumption) ?_ ?_
      rotate_left
      · intro W hSw; (try dsimp only at hSw); go_simp; try with_reducible rfl
      simp only [Act.put, List.setIfInBounds_toArray, List.set_cons_zero, List.set_cons_succ]
      refine heldTake 1 (v := ?_) (by simp only [List.getElem?_toArray, List.getElem?_cons_succ, List.getElem?_cons_zero]; rfl) (by kernel_rfl) (by intro _ _ _ h; exact h) (by rfl) (by assumption) ?_ ?_
      rotate_left
      · intro W hSw; (try dsimp only at hSw); go_simp; try with_reducible rfl
      simp only [Act.put, List.setIfInBounds_toArray, List.set_cons_zero, List.set_cons_succ]
      refine heldTake 2 (v := ?_) (by simp only [List.getElem?_toArray, List.getElem?_cons_succ, List.getElem?_cons_zero]; rfl) (by kernel_rfl) (by intro _ _ _ h; exact h) (by rfl) (by assumption) ?_ ?_
      rotate_left
      · intro W hSw; (try dsimp only at hSw); go_simp; try with_reducible rfl
      simp only [Act.put, List.setIfInBounds_toArray, List.set_cons_zero, List.set_cons_succ]
      refine heldTake 3 (v := ?_) (by simp only [List.getElem?_toArray, List.getElem?_cons_succ, List.getElem?_cons_zero]; rfl) (by kernel_rfl) (by intro _ _ _ h; exact h) (by rfl) (by assumption) ?_ ?_
      rotate_left
      · intro W hSw; (try dsimp only at hSw); go_simp; try with_reducible rfl
      simp only [Act.put, List.setIfInBounds_toArray, List.set_cons_zero, List.set_cons_succ]
      refine heldTake 4 (v := ?_) (by simp only [List.getElem?_toArray, List.getElem?_cons_succ, List.getElem?_cons_zero]; rfl) (by kernel_rfl) (by intro _ _ _ h; exact h) (by rfl) (by assumption) ?_ ?_
      rotate_left
      · intro W hSw; (try dsimp only at hSw); go_simp; try with_reducible rfl
      simp only [Act.put, List.setIfInBounds_toArray, List.set_cons_zero, List.set_cons_succ]
      refine heldTake 5 (v := ?_) (by simp only [List.getElem?_toArray, List.getElem?_cons_succ, List.getElem?_cons_zero]; rfl) (by kernel_rfl) (by intro _ _ _ h; exact h) (by rfl) (by assumption) ?_ ?_
      rotate_left
      · intro W hSw; (try dsimp only at hSw); go_simp; try with_reducible rfl
      simp only [Act.put, List.setIfInBounds_toArray, List.set_cons_zero, List.set_cons_succ]
      refine heldTake 6 (v := ?_) (by simp only [List.getElem?_toArray, List.getElem?_cons_succ, List.getElem?_cons_zero]; rfl) (by kernel_rfl) (by intro _ _ _ h; exact h) (by rfl) (by assumption) ?_ ?_
      rotate_left
      · intro W hSw; (try dsimp only at hSw); go_simp; try with_reducible rfl
      simp only [Act.put, List.setIfInBounds_toArray, List.set_cons_zero, List.set_cons_succ]
      refine heldTake 7 (v := ?_) (by simp only [List.getElem?_toArray, List.getElem?_cons_succ, List.getElem?_cons_zero]; rfl) (by kernel_rfl) (by intro _ _ _ h; exact h) (by rfl) (by assumption) ?_ ?_
      rotate_left
      · intro W hSw; (try dsimp only at hSw); go_simp; try with_reducible rfl
      simp only [Act.put, List.setIfInBounds_toArray, List.set_cons_zero, List.set_cons_succ]
      refine heldTake 8 (v := ?_) (by simp only [List.getElem?_toArray, List.getElem?_cons_succ, List.getElem?_cons_zero]; rfl) (by kernel_rfl) (by intro _ _ _ h; exact h) (by rfl) (by assumption) ?_ ?_
      rotate_left
      · intro W hSw; (try dsimp only at hSw); go_simp; try with_reducible rfl
      simp only [Act.put, List.setIfInBounds_toArray, List.set_cons_zero, List.set_cons_succ]
      refine heldTake 9 (v := ?_) (by simp only [List.getElem?_toArray, List.getElem?_cons_succ, List.getElem?_cons_zero]; rfl) (by kernel_rfl) (by intro _ _ _ h; exact h) (by rfl) (by assumption) ?_ ?_
      rotate_left
      · intro W hSw; (try dsimp only at hSw); go_simp; try with_reducible rfl
      simp only [Act.put, List.setIfInBounds_toArray, List.set_cons_zero, List.set_cons_succ]
      refine heldTake 10 (v := ?_) (by simp only [List.getElem?_toArray, List.getElem?_cons_succ, List.getElem?_cons_zero]; rfl) (by kernel_rfl) (by intro _ _ _ h; exact h) (by rfl) (by assumption) ?_ ?_
      rotate_left
      · intro W hSw; (try dsimp only at hSw); go_simp; try with_reducible rfl
      simp only [Act.put, List.setIfInBounds_toArray, List.set_cons_zero, List.set_cons_succ]
      refine heldTake 11 (v := ?_) (by simp only [List.getElem?_toArray, List.getElem?_cons_succ, List.getElem?_cons_zero]; rfl) (by kernel_rfl) (by intro _ _ _ h; exact h) (by rfl) (by assumption) ?_ ?_
      rotate_left
      · intro W hSw; (try dsimp only at hSw); go_simp; try with_reducible rfl
      simp only [Act.put, List.setIfInBounds_toArray, List.set_cons_zero, List.set_cons_succ]
      refine heldTake 12 (v := ?_) (by simp only [List.getElem?_toArray, List.getElem?_cons_succ, List.getElem?_cons_zero]; rfl) (by kernel_rfl) (by intro _ _ _ h; exact h) (by rfl) (by assumption) ?_ ?_
      rotate_left
      · intro W hSw; (try dsimp only at hSw); go_simp; try with_reducible rfl
      simp only [Act.put, List.setIfInBounds_toArray, List.set_cons_zero, List.set_cons_succ]
      refine heldTake 13 (v := ?_) (by simp only [List.getElem?_toArray, List.getElem?_cons_succ, List.getElem?_cons_zero]; rfl) (by kernel_rfl) (by intro _ _ _ h; exact h) (by rfl) (by assumption) ?_ ?_
      rotate_left
      · intro W hSw; (try dsimp only at hSw); go_simp; try with_reducible rfl
      simp only [Act.put, List.setIfInBounds_toArray, List.set_cons_zero, List.set_cons_succ]
      refine heldTake 14 (v := ?_) (by simp only [List.getElem?_toArray, List.getElem?_cons_succ, List.getElem?_cons_zero]; rfl) (by kernel_rfl) (by intro _ _ _ h; exact h) (by rfl) (by assumption) ?_ ?_
      rotate_left
      · intro W hSw; (try dsimp only at hSw); go_simp; try with_reducible rfl
      simp only [Act.put, List.setIfInBounds_toArray, List.set_cons_zero, List.set_cons_succ]
      refine heldTake 15 (v := ?_) (by simp only [List.getElem?_toArray, List.getElem?_cons_succ, List.getElem?_cons_zero]; rfl) (by kernel_rfl) (by intro _ _ _ h; exact h) (by rfl) (by assumption) ?_ ?_
      rotate_left
      · intro W hSw; (try dsimp only at hSw); go_simp; try with_reducible rfl
      simp only [Act.put, List.setIfInBounds_toArray, List.set_cons_zero, List.set_cons_succ]
      refine heldTake 16 (v := ?_) (by simp only [List.getElem?_toArray, List.getElem?_cons_succ, List.getElem?_cons_zero]; rfl) (by kernel_rfl) (by intro _ _ _ h; exact h) (by rfl) (by assumption) ?_ ?_
      rotate_left
      · intro W hSw; (try dsimp only at hSw); go_simp; try with_reducible rfl
      simp only [Act.put, List.setIfInBounds_toArray, List.set_cons_zero, List.set_cons_succ]
      refine heldTake 17 (v := ?_) (by simp only [List.getElem?_toArray, List.getElem?_cons_succ, List.getElem?_cons_zero]; rfl) (by kernel_rfl) (by intro _ _ _ h; exact h) (by rfl) (by assumption) ?_ ?_
      rotate_left
      · intro W hSw; (try dsimp only at hSw); go_simp; try with_reducible rfl
      simp only [Act.put, List.setIfInBounds_toArray, List.set_cons_zero, List.set_cons_succ]
      refine heldTake 18 (v := ?_) (by simp only [List.getElem?_toArray, List.getElem?_cons_succ, List.getElem?_cons_zero]; rfl) (by kernel_rfl) (by intro _ _ _ h; exact h) (by rfl) (by assumption) ?_ ?_
      rotate_left
      · intro W hSw; (try dsimp only at hSw); go_simp; try with_reducible rfl
      simp only [Act.put, List.setIfInBounds_toArray, List.set_cons_zero, List.set_cons_succ]
      refine heldCall 19 (by simp only [List.getElem?_toArray, List.getElem?_cons_succ, List.getElem?_cons_zero]; rfl) (by kernel_rfl) (fun K hK => ?_)
      go_simp
      refine Calls.mono HPB.out ?_
      rintro e v2 ⟨G2, rfl, hS2, hU2⟩
      obtain ⟨⟨F2, hO2⟩, hx2, hc2⟩ := ob_put HO1.out HX1.out.1 (i := 1) (by omega) rfl hS2 hU2
      have z0' := (hc2 0 none).trans HX1.out.2.1
      have z1' := (hc2 1 none).trans HX1.out.2.2
      obtain ⟨y5, y6⟩ := HY.out v2 hO2.1.bl
      have HO2 := Lib.hid hO2
      have HX2 := Lib.hid hx2
      clear hO2 hx2 hc2 hS2 hU2
      refine hK.out _ _ ?_ (fun hHeld => ?_)
      · first | exact ⟨y3, y4⟩ | exact ⟨y5, y6⟩
      clear hK K
      (try simp only [Act.put, List.setIfInBounds_toArray, List.set_cons_zero, List.set_cons_succ])
      refine heldDone (by kernel_rfl) ?_ _
      by_cases hik : (i : Int) < (k : Int)
      · obtain ⟨t1, t2⟩ := HT.out.2.1 (by omega)
        have hpc := put_any sc (F2 2) (foldF ((l.take k).take i)) k1 n1 v2 (HO2.out.1.get (i := 2) rfl) hs1 (HLL.out.2.1 k1) hn1.1 hn1.2
        have HPC := Lib.hid hpc
        have HT2 := Lib.hid (And.intro t1 t2)
        clear t1 t2 hpc y3 y4 y5 y6 q1 q2 q5
        go_wp2_with fail
        refine Calls.mono HPC.out ?_
        rintro e v3 ⟨G3, rfl, hS3, hU3⟩
        obtain ⟨⟨F3, hO3⟩, -, -⟩ := ob_put HO2.out HX2.out (i := 2) (by omega) rfl hS3 hU3
        have HF3 : Hid (FourAt w l k (i + 1) sa sb sc sd v3) := Lib.hid ⟨F3, by
          rw [HT.out.1.1, HT.out.1.2, foldF_snoc, foldF_snoc, ← HT.out.1.1, HT2.out.1, HT2.out.2, foldF_snoc]
          exact hO3.1⟩
        clear hO3 hS3 hU3
        go_wp2_with fail
        go_roundg (gk - 1)
        case measure => have := HI.out; omega
        case rel => exact ⟨i + 1, by go_num, Lib.hid (by have := HI.out; omega), by omega, HF3⟩
      · obtain ⟨t1, t2⟩ := HT.out.2.2 (by omega)
        have hpc := put_any sd (F2 3) (foldF ((l.take i).drop k)) k1 n1 v2 (HO2.out.1.get (i := 3) rfl) hs1 (HLL.out.2.2 k1) hn1.1 hn1.2
        have HPC := Lib.hid hpc
        have HT2 := Lib.hid (And.intro t1 t2)
        clear t1 t2 hpc y3 y4 y5 y6 q1 q2 q5
        go_wp2_with fail
        refine Calls.mono HPC.out ?_
        rintro e v3 ⟨G3, rfl, hS3, hU3⟩
        obtain ⟨⟨F3, hO3⟩, -, -⟩ := ob_put HO2.out HX2.out (i := 3) (by omega) rfl hS3 hU3
        have HF3 : Hid (FourAt w l k (i + 1) sa sb sc sd v3) := Lib.hid ⟨F3, by
          rw [HT.out.1.1, HT.out.1.2, foldF_snoc, foldF_snoc, ← HT.out.1.1, HT2.out.1, HT2.out.2, foldF_snoc]
          exact hO3.1⟩
        clear hO3 hS3 hU3
        go_wp2_with fail
        go_roundg (gk - 1)
        case measure => have := HI.out; omega
        case rel => exact ⟨i + 1, by go_num, Lib.hid (by have := HI.out; omega), by omega, HF3⟩
    · have hie : i = l.length := by have := HI.out; omega
      have HE : Hid (∃ Fr, Objs w wr w.heap.size [obS sa (foldF l), obS sb (foldF l), obS sc (foldF (l.take k)), obS sd (foldF (l.drop k))] Fr) := Lib.hid (by
        have h := HF.out
        unfold FourAt at h
        have e1 : l.take i = l := by rw [hie, List.take_length]
        have e2 : l.reverse.take i = l.reverse := by rw [hie, ← List.length_reverse, List.take_length]
        have e3 : (l.take k).take i = l.take k := List.take_of_length_le (by rw [List.length_take]; omega)
        rw [e3, e2, e1, foldF_rev] at h
        exact h)
      clear HF HI hie
      obtain ⟨F0, hO0⟩ := HE.out
      have hm := merge_any sc sd (F0 2) (F0 3) (foldF (l.take k)) (foldF (l.drop k)) wr (hO0.get (i := 2) rfl) (hO0.get (i := 3) rfl) (hO0.ap 2 3 (by omega) (by simp) (by simp)) (foldF_bd _ (by rw [List.length_take]; omega)) (foldF_bd _ (by rw [List.length_drop]; omega))
      rw [foldF_cut] at hm
      have HM := Lib.hid hm
      have HO0 := Lib.hid hO0
      clear hm hO0 HE
      go_wp2_with fail
      refine Calls.mono HM.out ?_
      rintro e v1 ⟨G1, rfl, hS1, hU1⟩
      obtain ⟨F1, hO1⟩ := HO0.out.upd (obS sc (foldF l)) (i := 2) rfl hU1 hS1
      have hFO := foldF_ok l
      obtain ⟨ks, hks⟩ := SetObj.keysEx (hO1.get (i := 0) rfl)
      have hE := hFO.enc hks (by omega)
      have hkl := hFO.keysLen hks
      have hbd := foldF_bd l (by omega)
      have HO1 := Lib.hid hO1
      have HEE := Lib.hid hE
      have HKS := Lib.hid (And.intro hks (And.intro (show (ks.length : Int) ≤ 100000 by omega) hbd))
      clear hO1 hFO hks hE hkl hbd hS1 hU1 HM HO0
      generalize foldF l = F at *
      obtain ⟨bs, hbs⟩ : ∃ bs, bs = encF F ks := ⟨_, rfl⟩
      have hen := fun s G W (h : SetObj W s G F) => encode_any s G F ks W h HEE.out
      rw [← hbs] at hen
      have HEN := Lib.hid hen
      obtain ⟨tt, htt⟩ : ∃ tt, tt = sumK F ks := ⟨_, rfl⟩
      have hct := fun s G W (h : SetObj W s G F) => count_any s G F W h ks HKS.out.1 HKS.out.2.1 HKS.out.2.2.top (fun q => by have := HKS.out.2.2.len q; omega)
      rw [← htt] at hct
      have HCT := Lib.hid hct
      clear hen hbs hct htt
      go_wp2_with fail
      refine Calls.mono (HEN.out sa _ v1 (HO1.out.get (i := 0) rfl)) ?_
      rintro e v2 ⟨A2, c2, rfl, hr2, hb2⟩
      have hcv2 := conv_row hr2
      obtain ⟨st, hst⟩ : ∃ st : ByteArray, st = ⟨bs.toArray⟩ := ⟨_, rfl⟩
      rw [← hst] at hcv2
      have HO2 := Lib.hid (HO1.out.below hb2)
      have hsb : (st.toList == st.toList) = true := by simp
      have HST := Lib.hid hst
      clear hr2 hb2 hst
      go_wp2_with fail
      refine Calls.mono (HEN.out sb _ v2 (HO2.out.get (i := 1) rfl)) ?_
      rintro e v3 ⟨A3, c3, rfl, hr3, hb3⟩
      have hcv3 := conv_row hr3
      rw [← HST.out] at hcv3
      have HO3 := Lib.hid (HO2.out.below hb3)
      clear hr3 hb3 hcv2
      go_wp2_with fail
      refine Calls.mono (HEN.out sc _ v3 (HO3.out.get (i := 2) rfl)) ?_
      rintro e v4 ⟨A4, c4, rfl, hr4, hb4⟩
      have hcv4 := conv_row hr4
      rw [← HST.out] at hcv4
      have HO4 := Lib.hid (HO3.out.below hb4)
      clear hr4 hb4 hcv3
      go_wp2_with fail
      refine Calls.mono (HCT.out sc _ v4 (HO4.out.get (i := 2) rfl)) ?_
      rintro e v5 ⟨rfl, hb5⟩
      have HO5 := Lib.hid (HO4.out.below hb5)
      clear hb5 hcv4
      go_wp2_with fail
      refine Calls.mono (HCT.out sa _ v5 (HO5.out.get (i := 0) rfl)) ?_
      rintro e v6 ⟨rfl, hb6⟩
      have HO6 := Lib.hid (HO5.out.below hb6)
      have htb : (tt == tt) = true := by simp
      clear hb6
      go_wp2_with fail
      refine Calls.mono (awake_any v6) ?_
      rintro e v7 ⟨rfl, hb7⟩
      have hfin : Below w.heap.size w v7 := HO6.out.bl.trans (hb7.mono HO6.out.bl.size)
      have HFN := Lib.hid hfin
      clear hb7 hfin
      go_wp2
      go_ret
      exact ⟨rfl, HFN.out⟩
end Go.Proofs.Ytcladmcbhnmhiaa
