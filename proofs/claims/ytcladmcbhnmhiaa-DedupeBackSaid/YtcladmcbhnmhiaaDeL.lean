/- Walk of DedupeBack. -/
import Derived.Test.YtcladmcbhnmhiaaDeK
import Derived.Test.YtcladmcbhnmhiaaKitOb
import Derived.Test.YtcladmcbhnmhiaaDeA
import Derived.Test.YtcladmcbhnmhiaaKitC
namespace Go.Proofs.Ytcladmcbhnmhiaa
open Go.ChangeShapes Go.WideShapes Go.ChangeAt Go.RowKit Go.Shelf Go.Lib Go.Sort Go.Proofs
set_option linter.unusedVariables false
set_option linter.unusedSimpArgs false

def obB (sb : Nat) (F : RowsF) : Ob1 := ⟨fun w G => SetObj w sb G F, SetObj.own sb F⟩
theorem ob_putB {w W W' : World} {B : Nat} {os : List Ob1} {F : Nat → Nat → Prop} {x n : Nat} (h : Objs w W B os F ∧ ∀ j, j < n → ¬ F j x) (hx : x < W.heap.size) {i s : Nat} {Fs Fs' : RowsF} {G' : Nat → Prop} (hi : i < n) (hos : os[i]? = some (obB s Fs)) (hS : SetObj W' s G' Fs') (hU : Upd (F i) W G' W') :
    (∃ F', Objs w W' B (os.set i (obB s Fs')) F' ∧ ∀ j, j < n → ¬ F' j x) ∧ x < W'.heap.size ∧ ∀ o sp, W'.cell? ⟨x, o, sp⟩ = W.cell? ⟨x, o, sp⟩ := by
  refine ⟨h.1.upd2 (obB s Fs') hos hU hS hx h.2, Nat.lt_of_lt_of_le hx hU.keeps.size, fun o sp => hU.keeps.cell (p := ⟨x, o, sp⟩) hx (h.2 i hi)⟩
/-- Bytes of one's own, read at their place. -/
theorem bySl_of {w : World} {base : Nat} {A : Option Addr} {c : Nat} {l : List UInt8} (h : ByRow w base A c l) (hne : 0 < l.length) : ∃ b, A = some ⟨b, 0, none⟩ ∧ BySl w b 0 c l ∧ c ≤ maxLen := by
  obtain ⟨g, cap, hv, -, -⟩ := h.form hne
  injection hv with e1
  subst e1
  obtain ⟨cur, hg, hb, hn, hc, hcl, htk, -⟩ := own_block h
  refine ⟨g, rfl, ⟨fun j hj => ?_, hn, (Array.getElem?_eq_some_iff.1 hg).1⟩, hc⟩
  have := h.cells (g := g) rfl j (.int .u8 ((l[j]).toNat : Int)) (by unfold byC; rw [List.getElem?_map, List.getElem?_eq_getElem hj]; rfl)
  have hadd : (⟨g, 0, none⟩ : Addr).add j = ⟨g, 0 + j, none⟩ := by unfold Addr.add; split <;> simp_all
  rw [hadd] at this
  exact this

set_option maxHeartbeats 16000000 in
set_option maxRecDepth 100000 in
theorem back_walk (A : Option Addr) (c : Nat) (l : List OpD) (B : Option Addr) (cb : Nat) (m : List OpD) (w : World) (h : OpsAt w w.heap.size A l) (hl : (l.length : Int) ≤ 9223372036854775807) (hm : OpsAt w w.heap.size B m) (hml : (m.length : Int) ≤ 9223372036854775807) :
    Calls Try.prog 7 #[.slice A l.length c, .slice B m.length cb] w fun e w' => e = .returned (.bool true) ∧ Below w.heap.size w w' := by
  have HL := Lib.hid h
  have HM := Lib.hid hm
  clear h hm
  go_enter Try.func7, Try.ntmps7
  go_wp2_with fail
  refine Calls.mono (long_any A c l w HL.out hl) ?_
  rintro e w0 ⟨lb, rfl, hlong, hb0⟩
  have HB0 := Lib.hid hb0
  have HLG := Lib.hid hlong
  clear hb0 hlong
  have hgo : ∀ W, Below w.heap.size w W → Calls Try.prog 11 #[] W fun e w' => e = .returned (.bool true) ∧ Below w.heap.size w w' := fun W hW => (awake_any W).mono (by
    rintro e w2 ⟨rfl, hb2⟩
    exact ⟨rfl, hW.trans (hb2.mono hW.size)⟩)
  have HGO := Lib.hid hgo
  clear hgo
  cases lb with
  | true =>
    go_wp2_with fail
    refine Calls.mono (HGO.out w0 HB0.out) ?_
    rintro e w2 ⟨rfl, hb2⟩
    have HB2 := Lib.hid hb2
    clear hb2
    go_wp2
    go_ret
    exact ⟨rfl, HB2.out⟩
  | false =>
  obtain ⟨h80, -⟩ := HLG.out rfl
  clear HLG
  go_wp2_with fail
  refine Calls.mono (long_any B cb m w0 ⟨(HM.out.1.below HB0.out).more HB0.out.size, HM.out.2⟩ hml) ?_
  rintro e w1 ⟨lb, rfl, hlong, hb1⟩
  have HB1 := Lib.hid (HB0.out.trans (hb1.mono HB0.out.size))
  have HLG := Lib.hid hlong
  clear hb1 hlong
  cases lb with
  | true =>
    go_wp2_with fail
    refine Calls.mono (HGO.out w1 HB1.out) ?_
    rintro e w2 ⟨rfl, hb2⟩
    have HB2 := Lib.hid hb2
    clear hb2
    go_wp2
    go_ret
    exact ⟨rfl, HB2.out⟩
  | false =>
  obtain ⟨h80m, -⟩ := HLG.out rfl
  clear HLG
  go_wp2_with fail
  refine Calls.mono (fill_any A c w.heap.size l w1 (HL.out.below HB1.out) HB1.out.size (by omega)) ?_
  rintro e w2 ⟨sa, A2, c2, xs, Ga, H, rfl, hO, -, hX, -, hG, -, hb2⟩
  have hXo := foldX_ok l
  have hF := foldF_ok l
  have hks0 : ∃ ks, KeysF (foldF l) ks := ⟨_, hXo.keys hF.ok⟩
  obtain ⟨ks, hks⟩ := hks0
  have hE := hF.enc hks (by omega)
  have hkl := hF.keysLen hks
  have HO := Lib.hid hO
  have HF := Lib.hid hF
  have HKS := Lib.hid (And.intro hks hkl)
  have HE := Lib.hid hE
  have HB2 := Lib.hid (HB1.out.trans (hb2.mono HB1.out.size))
  have HGL := Lib.hid (fun q hq => Nat.le_trans HB1.out.size (hG q hq))
  clear hO hXo hF hks hE hkl hb2 hG hX
  obtain ⟨bs, hbs⟩ : ∃ bs, bs = encF (foldF l) ks := ⟨_, rfl⟩
  have hen := encode_any sa Ga (foldF l) ks w2 HO.out HE.out
  rw [← hbs] at hen
  have HEN := Lib.hid hen
  have HBS := Lib.hid hbs
  clear hen hbs
  go_wp2_with fail
  refine Calls.mono HEN.out ?_
  rintro e w3 ⟨A3, c3, rfl, hr3, hb3⟩
  obtain ⟨bb, rfl, hsl, hcm⟩ := bySl_of hr3 (by
    rw [HBS.out]
    unfold encF
    rw [List.length_append]
    have := List.length_pos_iff.2 (numB_ne ks.length)
    omega)
  have hdc := decode_any bb 0 c3 (foldF l) ks bs w3 hsl HBS.out HKS.out.1 HF.out.ok HF.out.top (fun k hk => (HF.out.key ((HKS.out.1.2 k).1 hk)).1) (by have := HKS.out.2; omega) (fun k => by have := HF.out.len k; omega) hcm
  have HDC := Lib.hid hdc
  have HO3 := Lib.hid ((SetObj.own sa _).below HO.out hb3)
  have HB3 := Lib.hid (HB2.out.trans (hb3.mono HB2.out.size))
  clear hdc hr3 hsl hcm hb3 HEN HBS
  go_wp2_with fail
  refine Calls.mono HDC.out ?_
  rintro e w4 ⟨tb, Gt, rfl, hT, hGt, hb4⟩
  have hO0 : ∃ F, Objs w w4 w.heap.size [obB sa (foldF l), obB tb (foldF l)] F := by
    obtain ⟨F1, h1⟩ := (Objs.nil (Nat.le_refl _) HB3.out : Objs w w3 w.heap.size [] (fun _ _ => False)).add (obB sa (foldF l)) HO3.out (by simp) HGL.out
    exact h1.new (obB tb (foldF l)) hb4 hT hGt
  have HO0 := Lib.hid hO0
  clear hO0 hT hGt hb4 HDC
  go_wp2_with fail
  go_loopg [39] m.length (fun rest s wr => ∃ i : Nat, s = .int .i64 i ∧ Hid (i + rest = m.length) ∧ (i : Int) ≤ 80 ∧ Hid (∃ F, Objs w wr w.heap.size [obB sa (foldF (l ++ m.take i)), obB tb (foldF (l ++ m.take i))] F))
  case atStart => exact ⟨0, rfl, Lib.hid (by simp), by omega, Lib.hid (by simpa using HO0.out)⟩
  case round =>
    obtain ⟨i, rfl, HI, hi0, HOR⟩ := hrel
    obtain ⟨Fr, hOr⟩ := HOR.out
    by_cases hi : (i : Int) < (m.length : Int)
    · have hil : i < m.length := by omega
      have hBr := hOr.bl
      obtain ⟨b, o, rfl, hbl, y1, y2⟩ := (HM.out.below hBr).one hil
      have hin := HM.out.2 _ (List.getElem_mem hil)
      have ta : l ++ m.take (i + 1) = (l ++ m.take i) ++ [m[i]] := by rw [List.take_succ_eq_append_getElem hil, List.append_assoc]
      have hla : ∀ q, (foldF (l ++ m.take i) q).length < 900000 := fun q => by
        have := (foldF_ok (l ++ m.take i)).len q
        rw [List.length_append, List.length_take] at this
        omega
      have HT := Lib.hid ta
      have HLA := Lib.hid hla
      clear ta hla
      generalize m[i] = op1 at *
      obtain ⟨k1, n1⟩ := op1
      simp only at y1 y2
      obtain ⟨hs1, hn1⟩ := hin
      simp only at hs1 hn1
      obtain ⟨W9, hW9⟩ : ∃ W9, W9 = wr.alloc (.cells #[.string k1, .int .i64 n1] 48) := ⟨_, rfl⟩
      have z0 : W9.cell? ⟨wr.heap.size, 0, none⟩ = some (.string k1) := by rw [hW9]; simp
      have z1 : W9.cell? ⟨wr.heap.size, 1, none⟩ = some (.int .i64 n1) := by rw [hW9]; simp
      have hbw : Below wr.heap.size wr W9.drew := by rw [hW9]; exact ((Below.refl _ wr).alloc (Nat.le_refl _) _).drew
      have hO9 := hOr.below hbw
      have hnb : ∀ j, j < 2 → ¬ Fr j wr.heap.size := fun j hj hf => by
        have := hOr.lt (i := j) (by simpa using hj) hf
        omega
      have hx9 : wr.heap.size < W9.drew.heap.size := by rw [hW9]; show wr.heap.size < (wr.alloc _).heap.size; simp
      have HO9F := Lib.hid (And.intro hO9 hnb)
      have HX9 := Lib.hid hx9
      have HCD := Lib.hid (show W9.drew.cell? ⟨wr.heap.size, 0, none⟩ = some (.string k1) ∧ W9.drew.cell? ⟨wr.heap.size, 1, none⟩ = some (.int .i64 n1) from ⟨z0, z1⟩)
      have hpa := put_any sa (Fr 0) (foldF (l ++ m.take i)) k1 n1 W9.drew (hO9.get (i := 0) rfl) hs1 (HLA.out k1) hn1.1 hn1.2
      have HPA := Lib.hid hpa
      obtain ⟨pb, hpb⟩ : ∃ pb, pb = putB (foldF (l ++ m.take i)) k1 n1 := ⟨_, rfl⟩
      have HPB := Lib.hid hpb
      clear hpa hpb hO9 hnb hx9 hOr hBr hbw HOR
      have hpp : (pb == pb) = true := by cases pb <;> rfl
      have hpp2 : (pb != pb) = false := by cases pb <;> rfl
      generalize hbx : wr.heap.size = bx at *
      go_upto_region 12 with fail
      rw [← hW9]
      clear hW9
      refine heldStart 12 (S := fun W => W.cell? ⟨bx, 0, none⟩ = some (.string k1) ∧ W.cell? ⟨bx, 1, none⟩ = some (.int .i64 n1)) (by kernel_rfl) ?_ (fun hHeld => ?_)
      · first | exact ⟨z0, z1⟩ | exact ⟨z2, z3⟩ | exact ⟨z4, z5⟩
      refine heldTake 0 (v := ?_) (by simp only [List.getElem?_toArray, List.getElem?_cons_succ, List.getElem?_cons_zero]; rfl) (by kernel_rfl) (by intro _ _ _ h; exact h) (by rfl) (by assumption) ?_ ?_
      rotate_left
      · intro W hSw; (try dsimp only at hSw); go_simp; try with_reducible rfl
      simp only [Act.put, List.setIfInBounds_toArray, List.set_cons_zero, List.set_cons_succ]
      refine heldTake 1 (v := ?_) (by simp only [List.getElem?_toArray, List.getElem?_cons_succ, List.getElem?_cons_zero]; rfl) (by kernel_rfl) (by intro _ _ _ h; exact h) (by rfl) (by assumption) ?_ ?_
      rotate_left
      · intro W hSw; (try dsimp only at hSw); go_simp; try with_reducible rfl
      simp only [Act.put, List.setIfInBounds_toArray, List.set_cons_zero, List.set_cons_succ]
      refine heldTake 2 (v := ?_) (by simp only [List.getElem?_toArray, List.getElem?_cons_succ, List.getElem?_cons_zero]; rfl) (by kernel_rfl) (by intro _ _ _ h; exact h) (by rfl) (by assumption) ?_ ?_
      rotate_left
      · intro W hSw; (try dsimp only at hSw); go_simp; try with_reducible rfl
      simp only [Act.put, List.setIfInBounds_toArray, List.set_cons_zero, List.set_cons_succ]
      refine heldTake 3 (v := ?_) (by simp only [List.getElem?_toArray, List.getElem?_cons_succ, List.getElem?_cons_zero]; rfl) (by kernel_rfl) (by intro _ _ _ h; exact h) (by rfl) (by assumption) ?_ ?_
      rotate_left
      · intro W hSw; (try dsimp only at hSw); go_simp; try with_reducible rfl
      simp only [Act.put, List.setIfInBounds_toArray, List.set_cons_zero, List.set_cons_succ]
      refine heldTake 4 (v := ?_) (by simp only [List.getElem?_toArray, List.getElem?_cons_succ, List.getElem?_cons_zero]; rfl) (by kernel_rfl) (by intro _ _ _ h; exact h) (by rfl) (by assumption) ?_ ?_
      rotate_left
      · intro W hSw; (try dsimp only at hSw); go_simp; try with_reducible rfl
      simp only [Act.put, List.setIfInBounds_toArray, List.set_cons_zero, List.set_cons_succ]
      refine heldTake 6 (v := ?_) (by simp only [List.getElem?_toArray, List.getElem?_cons_succ, List.getElem?_cons_zero]; rfl) (by kernel_rfl) (by intro _ _ _ h; exact h) (by rfl) (by assumption) ?_ ?_
      rotate_left
      · intro W hSw; (try dsimp only at hSw); go_simp; try with_reducible rfl
      simp only [Act.put, List.setIfInBounds_toArray, List.set_cons_zero, List.set_cons_succ]
      refine heldTake 7 (v := ?_) (by simp only [List.getElem?_toArray, List.getElem?_cons_succ, List.getElem?_cons_zero]; rfl) (by kernel_rfl) (by intro _ _ _ h; exact h) (by rfl) (by assumption) ?_ ?_
      rotate_left
      · intro W hSw; (try dsimp only at hSw); go_simp; try with_reducible rfl
      simp only [Act.put, List.setIfInBounds_toArray, List.set_cons_zero, List.set_cons_succ]
      refine heldTake 8 (v := ?_) (by simp only [List.getElem?_toArray, List.getElem?_cons_succ, List.getElem?_cons_zero]; rfl) (by kernel_rfl) (by intro _ _ _ h; exact h) (by rfl) (by assumption) ?_ ?_
      rotate_left
      · intro W hSw; (try dsimp only at hSw); go_simp; try with_reducible rfl
      simp only [Act.put, List.setIfInBounds_toArray, List.set_cons_zero, List.set_cons_succ]
      refine heldTake 9 (v := ?_) (by simp only [List.getElem?_toArray, List.getElem?_cons_succ, List.getElem?_cons_zero]; rfl) (by kernel_rfl) (by intro _ _ _ h; exact h) (by rfl) (by assumption) ?_ ?_
      rotate_left
      · intro W hSw; (try dsimp only at hSw); go_simp; try with_reducible rfl
      simp only [Act.put, List.setIfInBounds_toArray, List.set_cons_zero, List.set_cons_succ]
      refine heldTake 10 (v := ?_) (by simp only [List.getElem?_toArray, List.getElem?_cons_succ, List.getElem?_cons_zero]; rfl) (by kernel_rfl) (by intro _ _ _ h; exact h) (by rfl) (by assumption) ?_ ?_
      rotate_left
      · intro W hSw; (try dsimp only at hSw); go_simp; try with_reducible rfl
      simp only [Act.put, List.setIfInBounds_toArray, List.set_cons_zero, List.set_cons_succ]
      refine heldCall 5 (by simp only [List.getElem?_toArray, List.getElem?_cons_succ, List.getElem?_cons_zero]; rfl) (by kernel_rfl) (fun K hK => ?_)
      go_simp
      refine Calls.mono HPA.out ?_
      rintro e v1 ⟨G1, rfl, hS1, hU1⟩
      rw [← HPB.out]
      obtain ⟨⟨F1, hO1⟩, hx1, hc1⟩ := ob_putB HO9F.out HX9.out (i := 0) (by omega) rfl hS1 hU1
      have z2 := (hc1 0 none).trans HCD.out.1
      have z3 := (hc1 1 none).trans HCD.out.2
      have hpb2 := put_any tb (F1 1) (foldF (l ++ m.take i)) k1 n1 v1 (hO1.1.get (i := 1) rfl) hs1 (HLA.out k1) hn1.1 hn1.2
      have HPB2 := Lib.hid hpb2
      have HO1 := Lib.hid hO1
      have HX1 := Lib.hid hx1
      clear hpb2 hO1 hx1 hc1 hS1 hU1
      refine hK.out _ _ ?_ (fun hHeld => ?_)
      · first | exact ⟨z0, z1⟩ | exact ⟨z2, z3⟩ | exact ⟨z4, z5⟩
      clear hK K
      (try simp only [Act.put, List.setIfInBounds_toArray, List.set_cons_zero, List.set_cons_succ])
      refine heldCall 11 (by simp only [List.getElem?_toArray, List.getElem?_cons_succ, List.getElem?_cons_zero]; rfl) (by kernel_rfl) (fun K hK => ?_)
      go_simp
      refine Calls.mono HPB2.out ?_
      rintro e v2 ⟨G2, rfl, hS2, hU2⟩
      rw [← HPB.out]
      obtain ⟨⟨F2, hO2⟩, hx2, hc2⟩ := ob_putB HO1.out HX1.out (i := 1) (by omega) rfl hS2 hU2
      have z4 := (hc2 0 none).trans z2
      have z5 := (hc2 1 none).trans z3
      have HO2 := Lib.hid hO2.1
      clear hO2 hx2 hc2 hS2 hU2
      refine hK.out _ _ ?_ (fun hHeld => ?_)
      · first | exact ⟨z0, z1⟩ | exact ⟨z2, z3⟩ | exact ⟨z4, z5⟩
      clear hK K
      (try simp only [Act.put, List.setIfInBounds_toArray, List.set_cons_zero, List.set_cons_succ])
      refine heldTake 12 (v := ?_) (by simp only [List.getElem?_toArray, List.getElem?_cons_succ, List.getElem?_cons_zero]; rfl) (by kernel_rfl) (by intro _ _ _ h; exact h) (by rfl) (by assumption) ?_ ?_
      rotate_left
      · intro W hSw; (try dsimp only at hSw); go_simp; try with_reducible rfl
      simp only [Act.put, List.setIfInBounds_toArray, List.set_cons_zero, List.set_cons_succ]
      refine heldDone (by kernel_rfl) ?_ _
      have HOF : Hid (∃ F, Objs w v2 w.heap.size [obB sa (foldF (l ++ m.take (i + 1))), obB tb (foldF (l ++ m.take (i + 1)))] F) := Lib.hid ⟨F2, by
        rw [HT.out, foldF_snoc]
        exact HO2.out⟩
      clear z0 z1 z2 z3 z4 z5
      go_wp2_with fail
      go_roundg (gk - 1)
      case measure => have := HI.out; omega
      case rel => exact ⟨i + 1, by go_num, Lib.hid (by have := HI.out; omega), by omega, HOF⟩
    · have hie : i = m.length := by have := HI.out; omega
      rw [hie, List.take_length] at hOr
      have hF2 := foldF_ok (l ++ m)
      have hl2 : (l ++ m).length ≤ 160 := by rw [List.length_append]; omega
      have hks2 := (foldX_ok (l ++ m)).keys hF2.ok
      obtain ⟨ks2, hk2⟩ : ∃ ks2, ks2 = (foldX (l ++ m)).map (·.1) := ⟨_, rfl⟩
      rw [← hk2] at hks2
      have hE2 := hF2.enc hks2 (by omega)
      have HO5 := Lib.hid (hOr.below ((Below.refl wr.heap.size wr).drew))
      have HE2 := Lib.hid hE2
      clear hOr hF2 hl2 hks2 hk2 hE2 HOR hie
      generalize foldF (l ++ m) = F at *
      obtain ⟨bs2, hbs2⟩ : ∃ bs2, bs2 = encF F ks2 := ⟨_, rfl⟩
      have hen := fun s G W (h : SetObj W s G F) => encode_any s G F ks2 W h HE2.out
      rw [← hbs2] at hen
      have HEN := Lib.hid hen
      obtain ⟨st, hst⟩ : ∃ st : ByteArray, st = ⟨bs2.toArray⟩ := ⟨_, rfl⟩
      have HST := Lib.hid hst
      have hse : (st.toList == st.toList) = true := by simp
      clear hen hbs2 hst
      go_wp2_with fail
      refine heldStart 10 (S := fun W => True) (by kernel_rfl) ?_ (fun hHeld => ?_)
      · trivial
      refine heldTake 0 (v := ?_) (by simp only [List.getElem?_toArray, List.getElem?_cons_succ, List.getElem?_cons_zero]; rfl) (by kernel_rfl) (by intro _ _ _ h; exact h) (by rfl) (by assumption) ?_ ?_
      rotate_left
      · intro W hSw; (try dsimp only at hSw); go_simp; try with_reducible rfl
      simp only [Act.put, List.setIfInBounds_toArray, List.set_cons_zero, List.set_cons_succ]
      refine heldTake 3 (v := ?_) (by simp only [List.getElem?_toArray, List.getElem?_cons_succ, List.getElem?_cons_zero]; rfl) (by kernel_rfl) (by intro _ _ _ h; exact h) (by rfl) (by assumption) ?_ ?_
      rotate_left
      · intro W hSw; (try dsimp only at hSw); go_simp; try with_reducible rfl
      simp only [Act.put, List.setIfInBounds_toArray, List.set_cons_zero, List.set_cons_succ]
      refine heldCall 1 (by simp only [List.getElem?_toArray, List.getElem?_cons_succ, List.getElem?_cons_zero]; rfl) (by kernel_rfl) (fun K hK => ?_)
      go_simp
      refine Calls.mono (HEN.out sa _ _ (HO5.out.get (i := 0) rfl)) ?_
      rintro e v1 ⟨A6, c6, rfl, hr6, hb6⟩
      have hO6 := HO5.out.below hb6
      clear hb6
      refine hK.out _ _ ?_ (fun hHeld => ?_)
      · trivial
      clear hK K
      (try simp only [Act.put, List.setIfInBounds_toArray, List.set_cons_zero, List.set_cons_succ])
      refine heldFork 2 4 (by kernel_rfl) ?_ ?_
      · refine heldOp 2 (by simp only [List.getElem?_toArray, List.getElem?_cons_succ, List.getElem?_cons_zero]; rfl) (fun K hK => ?_)
        have hcv := conv_row hr6
        rw [← HST.out] at hcv
        go_simp
        clear hcv
        refine hK.out _ _ ?_ (fun hHeld => ?_)
        · trivial
        clear hK K
        (try simp only [Act.put, List.setIfInBounds_toArray, List.set_cons_zero, List.set_cons_succ])
        refine heldCall 4 (by simp only [List.getElem?_toArray, List.getElem?_cons_succ, List.getElem?_cons_zero]; rfl) (by kernel_rfl) (fun K hK => ?_)
        go_simp
        refine Calls.mono (HEN.out tb _ _ (hO6.get (i := 1) rfl)) ?_
        rintro e v2 ⟨A7, c7, rfl, hr7, hb7⟩
        replace hr6 : ByRow v2 _ A6 c6 bs2 := (Keeps.ofBelow hb7 (fun _ => False)).own hr6 (fun _ _ e => e)
        have hO7 := hO6.below hb7
        clear hb7
        refine hK.out _ _ ?_ (fun hHeld => ?_)
        · trivial
        clear hK K
        (try simp only [Act.put, List.setIfInBounds_toArray, List.set_cons_zero, List.set_cons_succ])
        refine heldCall 5 (by simp only [List.getElem?_toArray, List.getElem?_cons_succ, List.getElem?_cons_zero]; rfl) (by kernel_rfl) (fun K hK => ?_)
        have hcv := conv_row hr7
        rw [← HST.out] at hcv
        go_simp
        clear hcv
        refine hK.out _ _ ?_ (fun hHeld => ?_)
        · trivial
        clear hK K
        (try simp only [Act.put, List.setIfInBounds_toArray, List.set_cons_zero, List.set_cons_succ])
        refine heldTake 6 (v := ?_) (by simp only [List.getElem?_toArray, List.getElem?_cons_succ, List.getElem?_cons_zero]; rfl) (by kernel_rfl) (by intro _ _ _ h; exact h) (by rfl) (by assumption) ?_ ?_
        rotate_left
        · intro W hSw; (try dsimp only at hSw); go_simp; try with_reducible rfl
        simp only [Act.put, List.setIfInBounds_toArray, List.set_cons_zero, List.set_cons_succ]
        refine heldTake 7 (v := ?_) (by simp only [List.getElem?_toArray, List.getElem?_cons_succ, List.getElem?_cons_zero]; rfl) (by kernel_rfl) (by intro _ _ _ h; exact h) (by rfl) (by assumption) ?_ ?_
        rotate_left
        · intro W hSw; (try dsimp only at hSw); go_simp; try with_reducible rfl
        simp only [Act.put, List.setIfInBounds_toArray, List.set_cons_zero, List.set_cons_succ]
        refine heldCall 8 (by simp only [List.getElem?_toArray, List.getElem?_cons_succ, List.getElem?_cons_zero]; rfl) (by kernel_rfl) (fun K hK => ?_)
        go_simp
        refine Calls.mono (HGO.out _ hO7.bl) ?_
        rintro e v3 ⟨rfl, hb8⟩
        refine hK.out _ _ ?_ (fun hHeld => ?_)
        · trivial
        clear hK K
        (try simp only [Act.put, List.setIfInBounds_toArray, List.set_cons_zero, List.set_cons_succ])
        refine heldTake 9 (v := ?_) (by simp only [List.getElem?_toArray, List.getElem?_cons_succ, List.getElem?_cons_zero]; rfl) (by kernel_rfl) (by intro _ _ _ h; exact h) (by rfl) (by assumption) ?_ ?_
        rotate_left
        · intro W hSw; (try dsimp only at hSw); go_simp; try with_reducible rfl
        simp only [Act.put, List.setIfInBounds_toArray, List.set_cons_zero, List.set_cons_succ]
        refine heldTake 10 (v := ?_) (by simp only [List.getElem?_toArray, List.getElem?_cons_succ, List.getElem?_cons_zero]; rfl) (by kernel_rfl) (by intro _ _ _ h; exact h) (by rfl) (by assumption) ?_ ?_
        rotate_left
        · intro W hSw; (try dsimp only at hSw); go_simp; try with_reducible rfl
        simp only [Act.put, List.setIfInBounds_toArray, List.set_cons_zero, List.set_cons_succ]
        refine heldDone (by kernel_rfl) ?_ _
        go_wp2_with fail
        go_ret
        exact ⟨rfl, hb8⟩
      · refine heldOp 4 (by simp only [List.getElem?_toArray, List.getElem?_cons_succ, List.getElem?_cons_zero]; rfl) (fun K hK => ?_)
        go_simp
        refine Calls.mono (HEN.out tb _ _ (hO6.get (i := 1) rfl)) ?_
        rintro e v2 ⟨A7, c7, rfl, hr7, hb7⟩
        replace hr6 : ByRow v2 _ A6 c6 bs2 := (Keeps.ofBelow hb7 (fun _ => False)).own hr6 (fun _ _ e => e)
        have hO7 := hO6.below hb7
        clear hb7
        refine hK.out _ _ ?_ (fun hHeld => ?_)
        · trivial
        clear hK K
        (try simp only [Act.put, List.setIfInBounds_toArray, List.set_cons_zero, List.set_cons_succ])
        refine heldFork 2 5 (by kernel_rfl) ?_ ?_
        · refine heldOp 2 (by simp only [List.getElem?_toArray, List.getElem?_cons_succ, List.getElem?_cons_zero]; rfl) (fun K hK => ?_)
          have hcv := conv_row hr6
          rw [← HST.out] at hcv
          go_simp
          clear hcv
          refine hK.out _ _ ?_ (fun hHeld => ?_)
          · trivial
          clear hK K
          (try simp only [Act.put, List.setIfInBounds_toArray, List.set_cons_zero, List.set_cons_succ])
          refine heldCall 5 (by simp only [List.getElem?_toArray, List.getElem?_cons_succ, List.getElem?_cons_zero]; rfl) (by kernel_rfl) (fun K hK => ?_)
          have hcv := conv_row hr7
          rw [← HST.out] at hcv
          go_simp
          clear hcv
          refine hK.out _ _ ?_ (fun hHeld => ?_)
          · trivial
          clear hK K
          (try simp only [Act.put, List.setIfInBounds_toArray, List.set_cons_zero, List.set_cons_succ])
          refine heldTake 6 (v := ?_) (by simp only [List.getElem?_toArray, List.getElem?_cons_succ, List.getElem?_cons_zero]; rfl) (by kernel_rfl) (by intro _ _ _ h; exact h) (by rfl) (by assumption) ?_ ?_
          rotate_left
          · intro W hSw; (try dsimp only at hSw); go_simp; try with_reducible rfl
          simp only [Act.put, List.setIfInBounds_toArray, List.set_cons_zero, List.set_cons_succ]
          refine heldTake 7 (v := ?_) (by simp only [List.getElem?_toArray, List.getElem?_cons_succ, List.getElem?_cons_zero]; rfl) (by kernel_rfl) (by intro _ _ _ h; exact h) (by rfl) (by assumption) ?_ ?_
          rotate_left
          · intro W hSw; (try dsimp only at hSw); go_simp; try with_reducible rfl
          simp only [Act.put, List.setIfInBounds_toArray, List.set_cons_zero, List.set_cons_succ]
          refine heldCall 8 (by simp only [List.getElem?_toArray, List.getElem?_cons_succ, List.getElem?_cons_zero]; rfl) (by kernel_rfl) (fun K hK => ?_)
          go_simp
          refine Calls.mono (HGO.out _ hO7.bl) ?_
          rintro e v3 ⟨rfl, hb8⟩
          refine hK.out _ _ ?_ (fun hHeld => ?_)
          · trivial
          clear hK K
          (try simp only [Act.put, List.setIfInBounds_toArray, List.set_cons_zero, List.set_cons_succ])
          refine heldTake 9 (v := ?_) (by simp only [List.getElem?_toArray, List.getElem?_cons_succ, List.getElem?_cons_zero]; rfl) (by kernel_rfl) (by intro _ _ _ h; exact h) (by rfl) (by assumption) ?_ ?_
          rotate_left
          · intro W hSw; (try dsimp only at hSw); go_simp; try with_reducible rfl
          simp only [Act.put, List.setIfInBounds_toArray, List.set_cons_zero, List.set_cons_succ]
          refine heldTake 10 (v := ?_) (by simp only [List.getElem?_toArray, List.getElem?_cons_succ, List.getElem?_cons_zero]; rfl) (by kernel_rfl) (by intro _ _ _ h; exact h) (by rfl) (by assumption) ?_ ?_
          rotate_left
          · intro W hSw; (try dsimp only at hSw); go_simp; try with_reducible rfl
          simp only [Act.put, List.setIfInBounds_toArray, List.set_cons_zero, List.set_cons_succ]
          refine heldDone (by kernel_rfl) ?_ _
          go_wp2_with fail
          go_ret
          exact ⟨rfl, hb8⟩
        · refine heldOp 5 (by simp only [List.getElem?_toArray, List.getElem?_cons_succ, List.getElem?_cons_zero]; rfl) (fun K hK => ?_)
          have hcv := conv_row hr7
          rw [← HST.out] at hcv
          go_simp
          clear hcv
          refine hK.out _ _ ?_ (fun hHeld => ?_)
          · trivial
          clear hK K
          (try simp only [Act.put, List.setIfInBounds_toArray, List.set_cons_zero, List.set_cons_succ])
          refine heldCall 2 (by simp only [List.getElem?_toArray, List.getElem?_cons_succ, List.getElem?_cons_zero]; rfl) (by kernel_rfl) (fun K hK => ?_)
          have hcv := conv_row hr6
          rw [← HST.out] at hcv
          go_simp
          clear hcv
          refine hK.out _ _ ?_ (fun hHeld => ?_)
          · trivial
          clear hK K
          (try simp only [Act.put, List.setIfInBounds_toArray, List.set_cons_zero, List.set_cons_succ])
          refine heldTake 6 (v := ?_) (by simp only [List.getElem?_toArray, List.getElem?_cons_succ, List.getElem?_cons_zero]; rfl) (by kernel_rfl) (by intro _ _ _ h; exact h) (by rfl) (by assumption) ?_ ?_
          rotate_left
          · intro W hSw; (try dsimp only at hSw); go_simp; try with_reducible rfl
          simp only [Act.put, List.setIfInBounds_toArray, List.set_cons_zero, List.set_cons_succ]
          refine heldTake 7 (v := ?_) (by simp only [List.getElem?_toArray, List.getElem?_cons_succ, List.getElem?_cons_zero]; rfl) (by kernel_rfl) (by intro _ _ _ h; exact h) (by rfl) (by assumption) ?_ ?_
          rotate_left
          · intro W hSw; (try dsimp only at hSw); go_simp; try with_reducible rfl
          simp only [Act.put, List.setIfInBounds_toArray, List.set_cons_zero, List.set_cons_succ]
          refine heldCall 8 (by simp only [List.getElem?_toArray, List.getElem?_cons_succ, List.getElem?_cons_zero]; rfl) (by kernel_rfl) (fun K hK => ?_)
          go_simp
          refine Calls.mono (HGO.out _ hO7.bl) ?_
          rintro e v3 ⟨rfl, hb8⟩
          refine hK.out _ _ ?_ (fun hHeld => ?_)
          · trivial
          clear hK K
          (try simp only [Act.put, List.setIfInBounds_toArray, List.set_cons_zero, List.set_cons_succ])
          refine heldTake 9 (v := ?_) (by simp only [List.getElem?_toArray, List.getElem?_cons_succ, List.getElem?_cons_zero]; rfl) (by kernel_rfl) (by intro _ _ _ h; exact h) (by rfl) (by assumption) ?_ ?_
          rotate_left
          · intro W hSw; (try dsimp only at hSw); go_simp; try with_reducible rfl
          simp only [Act.put, List.setIfInBounds_toArray, List.set_cons_zero, List.set_cons_succ]
          refine heldTake 10 (v := ?_) (by simp only [List.getElem?_toArray, List.getElem?_cons_succ, List.getElem?_cons_zero]; rfl) (by kernel_rfl) (by intro _ _ _ h; exact h) (by rfl) (by assumption) ?_ ?_
          rotate_left
          · intro W hSw; (try dsimp only at hSw); go_simp; try with_reducible rfl
          simp only [Act.put, List.setIfInBounds_toArray, List.set_cons_zero, List.set_cons_succ]
          refine heldDone (by kernel_rfl) ?_ _
          go_wp2_with fail
          go_ret
          exact ⟨rfl, hb8⟩
end Go.Proofs.Ytcladmcbhnmhiaa
