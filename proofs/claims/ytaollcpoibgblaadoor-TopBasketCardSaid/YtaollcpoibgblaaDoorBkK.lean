/- TopBasket: its walk. -/
import Derived.Test.YtaollcpoibgblaaDoorBkJ
import Derived.Test.YtaollcpoibgblaaDoorBkI
import Derived.Test.YtaollcpoibgblaaDoorRatB
import Derived.Deep.DeepCutAuto
namespace Go.Proofs.YtaollcpoibgblaaDoor
open Go.ChangeShapes Go.WideShapes Go.ChangeAt Go.RowKit
set_option linter.unusedVariables false
set_option linter.unusedSimpArgs false

theorem things6 (w : World) : Calls Tryd.prog 8 #[] w fun e w' => e = .returned (.slice (some ⟨w.heap.size, 0, none⟩) 6 6) ∧ w' = w.alloc (.cells (thL.map Value.string).toArray 9) := things_any w
theorem people4 (w : World) : Calls Tryd.prog 15 #[] w fun e w' => e = .returned (.slice (some ⟨w.heap.size, 0, none⟩) 4 4) ∧ w' = w.alloc (.cells (peL.map Value.string).toArray 9) := people_any w
theorem th_at (w : World) {k : Nat} (hk : k < 6) : (w.alloc (.cells (thL.map Value.string).toArray 9)).cell? ⟨w.heap.size, k, none⟩ = some (.string (nm 105 k)) := by
  rw [World.cell?_alloc_at _ _ _ _ rfl]
  match k, hk with
  | 0, _ => rfl
  | 1, _ => rfl
  | 2, _ => rfl
  | 3, _ => rfl
  | 4, _ => rfl
  | 5, _ => rfl
theorem of_anyN (A : Option Addr) (c n : Nat) (E : List EvV) (gap : Int) (w : World) (hn : n = E.length) (hr : Reads w w.heap.size 8 A n (evsCells E)) (hE : ∀ e ∈ E, BuyE e) (hl : E.length ≤ 60) (hg : 0 ≤ gap ∧ gap ≤ 255) :
    Calls Tryd.prog 6 #[.int .i64 gap, .slice A n c] w (OfNew w gap E) := by
  subst hn
  exact of_any A c E gap w hr hE hl hg
theorem EvsOk.buys {E : List EvV} (h : EvsOk E) (hl : E.length ≤ 60) : ∀ e ∈ E, BuyE e := fun e he => by
  obtain ⟨pre, post, rfl⟩ := List.append_of_mem he
  have h1 := h pre e post rfl
  have h2 := h.num rfl
  exact ⟨h1.1, h2.1, by omega⟩
theorem mod6 {x : Int} (h : 0 ≤ x ∧ x ≤ 255) : ∃ k : Nat, x.tmod 6 = (k : Int) ∧ k < 6 := by
  refine ⟨x.toNat % 6, ?_, Nat.mod_lt _ (by omega)⟩
  have : x = (x.toNat : Int) := by omega
  conv => lhs; rw [this]
  exact (Int.ofNat_tmod x.toNat 6).symm

theorem pe_at (w : World) {k : Nat} (hk : k < 4) : (w.alloc (.cells (peL.map Value.string).toArray 9)).cell? ⟨w.heap.size, k, none⟩ = some (.string (nm 112 k)) := by
  rw [World.cell?_alloc_at _ _ _ _ rfl]
  match k, hk with
  | 0, _ => rfl
  | 1, _ => rfl
  | 2, _ => rfl
  | 3, _ => rfl
theorem pe_take {k : Nat} (hk : k < 4) : peL.take (k + 1) = peL.take k ++ [nm 112 k] := by
  match k, hk with
  | 0, _ => rfl
  | 1, _ => rfl
  | 2, _ => rfl
  | 3, _ => rfl
theorem gotB_snoc (E : List EvV) (e : EvV) (a c p : ByteArray) : gotB (E ++ [e]) a c p = (gotB E a c p || hitB a c p e) := by unfold gotB; simp
theorem mineE_snoc (E : List EvV) (e : EvV) (p : ByteArray) : mineE (E ++ [e]) p = mineE E p ++ (if e.person = p then [e] else []) := by
  unfold mineE
  rw [List.filter_append]
  congr 1
  by_cases h : e.person = p <;> simp [h]
theorem toList_ne {a b : ByteArray} (h : a ≠ b) : (a.toList == b.toList) = false := by
  rw [toList_data, toList_data]
  simp
  intro e
  exact h (by cases a; cases b; simp at e; simp [e])
/-- The range over the people. -/
def Lp1 (W0 : World) (E : List EvV) (a c : ByteArray) (rest : Nat) (s20 s119 : Value) (wr : World) : Prop :=
  ∃ (k nL cL : Nat) (AL : Option Addr) (X : List EvV), s119 = .int .i64 k ∧ k + rest = 4 ∧ s20 = .slice AL nL cL ∧ Hid (nL = X.length) ∧ Hid (X = lessE E a c (peL.take k)) ∧ Hid (wr.ownsRow W0.heap.size 51 8 (.slice AL nL cL) nL (evsCells X)) ∧ Hid (Below W0.heap.size W0 wr)
/-- Did they buy? -/
def Lp2 (W0 : World) (E : List EvV) (a c p : ByteArray) (rest : Nat) (s23 s125 : Value) (wr : World) : Prop :=
  ∃ (k : Nat) (bv : Bool), s125 = .int .i64 k ∧ k + rest = E.length ∧ s23 = .bool bv ∧ Hid (bv = gotB (E.take k) a c p) ∧ Hid (Below W0.heap.size W0 wr)
/-- What is theirs. -/
def Lp3 (W0 : World) (E X0 : List EvV) (bv : Bool) (p : ByteArray) (rest : Nat) (s20 s156 : Value) (wr : World) : Prop :=
  ∃ (k nL cL : Nat) (AL : Option Addr) (X : List EvV), s156 = .int .i64 k ∧ k + rest = E.length ∧ s20 = .slice AL nL cL ∧ nL ≤ 60 + k ∧ Hid (nL = X.length) ∧ Hid (X = X0 ++ (if bv then mineE (E.take k) p else [])) ∧ Hid (wr.ownsRow W0.heap.size 51 8 (.slice AL nL cL) nL (evsCells X)) ∧ Hid (Below W0.heap.size W0 wr)

set_option maxRecDepth 20000 in
set_option maxHeartbeats 4000000 in
theorem topBasket_walk (A : Option Addr) (c : Nat) (l : List Int) (TA : Option Addr) (tc : Nat) (T : List Int) (gp fi th : Int) (w : World) (hr : U8At w w.heap.size A l) (hl : (l.length : Int) ≤ 9223372036854775807) (ht : U8At w w.heap.size TA T) (htl : (T.length : Int) ≤ 9223372036854775807)
    (hgp : 0 ≤ gp ∧ gp ≤ 255) (hfi : 0 ≤ fi ∧ fi ≤ 255) (hth : 0 ≤ th ∧ th ≤ 255) (hk : KdAt w) :
    Calls Tryd.prog 3 #[.slice A l.length c, .slice TA T.length tc, .int .u8 gp, .int .u8 fi, .int .u8 th] w fun e w' => e = .returned (.bool true) ∧ Below w.heap.size w w' := by
  have QB := Lib.hid (begun_any A c l w hr hk hl)
  have HK := Lib.hid hk
  have HTD := Lib.hid ht
  obtain ⟨n, hn⟩ : ∃ n, n = l.length := ⟨_, rfl⟩
  rw [← hn] at QB ⊢
  have HN := Lib.hid (show (n : Int) ≤ 9223372036854775807 by rw [hn]; exact hl)
  clear hr hk hl hn ht
  go_enter Tryd.func3, Tryd.ntmps3
  go_wp2_with fail
  refine QB.out.mono ?_
  rintro e w1 ⟨A1, c1, E, cs, en, rfl, hcl, hco, hrd, hev, hE60, hb1, hn1⟩
  have HONE := Lib.hid hco
  have HRD := Lib.hid hrd
  have HBU := Lib.hid (hev.buys hE60)
  have HB1 := Lib.hid hb1
  have HN1 := Lib.hid hn1
  have HE60 := Lib.hid hE60
  obtain ⟨x0, x1, x2, x3, x4, x5, x6, x7, x8, x9, y0, y1, y2, y3, y4, y5, y6, y7, y8, y9, z0, z1, rfl⟩ : ∃ x0 x1 x2 x3 x4 x5 x6 x7 x8 x9 y0 y1 y2 y3 y4 y5 y6 y7 y8 y9 z0 z1, cs = [x0, x1, x2, x3, x4, x5, x6, x7, x8, x9, y0, y1, y2, y3, y4, y5, y6, y7, y8, y9, z0, z1] := by
    match cs, hcl with
    | [x0, x1, x2, x3, x4, x5, x6, x7, x8, x9, y0, y1, y2, y3, y4, y5, y6, y7, y8, y9, z0, z1], _ => exact ⟨_, _, _, _, _, _, _, _, _, _, _, _, _, _, _, _, _, _, _, _, _, _, rfl⟩
  obtain ⟨W2, hW2⟩ : ∃ W2, W2 = w1.alloc (.cells #[x0, x1, x2, x3, x4, x5, x6, x7, x8, x9, y0, y1, y2, y3, y4, y5, y6, y7, y8, y9, z0, z1] 32) := ⟨_, rfl⟩
  have hb2 : Below w1.heap.size w1 W2 := by rw [hW2]; exact (Below.refl _ w1).alloc (Nat.le_refl _) _
  have HB2 := Lib.hid (hb1.trans (hb2.mono hb1.size))
  have HRD2 := Lib.hid ((hrd.below hb2).more hb2.size)
  clear hcl hco hrd hev hb1 hb2 hn1 HRD QB HB1
  go_upto_region 2 with (refine wpList_store_new rfl 32 _ _ rfl _ _ _ _ (by rfl) (by rfl) (by kernel_rfl) (by rfl) (by exact List.all_eq_true.2 (fun u hu => HONE.out u hu)) (by simp) ?_)
  rw [← hW2]
  clear hW2 HONE
  (try simp only [Act.put])
  have hkW : KdAt W2 := HK.out.below HB2.out
  have HQ := Lib.hid (fun W (hb : Below W2.heap.size W2 W) => parses_any W (hkW.below hb))
  clear hkW
  have hEi : (E.length : Int) ≤ 60 := by omega
  clear hE60
  by_cases h3 : n ≤ 300
  · have hd : decide (n ≤ 300) = true := by simpa using h3
    rw [hd]
    clear hd
    go_wp2_with fail
    refine (HQ.out W2 (Below.refl _ _)).mono ?_
    rintro e w3 ⟨rfl, hb3⟩
    have HB3 := Lib.hid (HB2.out.trans (hb3.mono HB2.out.size))
    have HRD3 := Lib.hid ((HRD2.out.below hb3).more hb3.size)
    have HB23 := Lib.hid hb3
    clear hb3
    by_cases hT : (T.length : Int) ≤ 60
    · have hT2 : ¬ (60 < (T.length : Int)) := by omega
      have hT3 : decide (60 < T.length) = false := by simp; omega
      have hT4 : ¬ (60 < T.length) := by omega
      have hwg : IntKind.i64.wrap gp = gp := IntWalk.i64_in _ (by omega)
      have QO := Lib.hid (of_any A1 c1 E gp w3 HRD3.out HBU.out HE60.out hgp)
      clear HB2 HRD2 HQ h3 HN HB23
      go_wp2_with fail
      refine QO.out.mono ?_
      rintro e w4 ⟨bx, sx, cx, X1, X2, kx, rfl, hax, hkn, hkm, hkl, hlo, hb4⟩
      rw [xB_of HBU.out hkn hkm] at hax
      have HAX := Lib.hid hax
      have HB4 := Lib.hid (HB3.out.trans (hb4.mono HB3.out.size))
      have HRD4 := Lib.hid ((HRD3.out.below hb4).more hb4.size)
      have QT := Lib.hid (turned_any A1 c1 E TA tc T w4 HRD4.out HN1.out HE60.out ⟨(HTD.out.below HB4.out).1.more HB4.out.size, HTD.out.2⟩ (by omega))
      clear hax hkn hkm hkl hlo hb4 HRD3 HB3 QO
      go_wp2_with fail
      refine QT.out.mono ?_
      rintro e w5 ⟨A5, c5, O, rfl, hpO, hrdO, hb5⟩
      have hOE : E.length = O.length := hpO.length_eq.symm
      have HAX5 := Lib.hid (HAX.out.below hb5)
      have HB5 := Lib.hid (HB4.out.trans (hb5.mono HB4.out.size))
      have HRD5 := Lib.hid ((HRD4.out.below hb5).more hb5.size)
      have hBO : ∀ e ∈ O, BuyE e := fun e he => HBU.out e (hpO.mem_iff.1 he)
      have QO := Lib.hid (of_anyN A5 c5 E.length O gp w5 hOE hrdO hBO (by have := HE60.out; omega) hgp)
      have HPO := Lib.hid hpO
      have HBO := Lib.hid hBO
      clear hpO hrdO hb5 hOE hBO QT HRD4 HB4 HAX
      go_wp2_with fail
      refine QO.out.mono ?_
      rintro e w6 ⟨b6, s6, c6, Y1, Y2, ky, rfl, hay, hkn, hkm, hkl, hlo, hb6⟩
      rw [xB_of HBO.out hkn hkm, xB_perm hgp.1 HPO.out] at hay
      have HAY6 := Lib.hid hay
      have HAX6 := Lib.hid (HAX5.out.below hb6)
      have HB6 := Lib.hid (HB5.out.trans (hb6.mono HB5.out.size))
      have HRD6 := Lib.hid ((HRD5.out.below hb6).more hb6.size)
      have HOK := Lib.hid (xB_ok gp HE60.out)
      have HLS := Lib.hid (fun a c => xB_less gp E a c)
      clear hay hkn hkm hkl hlo hb6 HB5 HRD5 HAX5 HPO HBO QO
      obtain ⟨fa, hfa, hfa6⟩ := mod6 hfi
      obtain ⟨fc, hfc, hfc6⟩ := mod6 hth
      obtain ⟨W7, hW7⟩ : ∃ W7, W7 = w6.drew.alloc (.cells (thL.map Value.string).toArray 9) := ⟨_, rfl⟩
      obtain ⟨W8, hW8⟩ : ∃ W8, W8 = W7.alloc (.cells (thL.map Value.string).toArray 9) := ⟨_, rfl⟩
      have hb7 : Below w6.heap.size w6 W7 := by rw [hW7]; exact (Below.refl _ w6).drew.alloc (Nat.le_refl _) _
      have hb8 : Below W7.heap.size W7 W8 := by rw [hW8]; exact (Below.refl _ W7).alloc (Nat.le_refl _) _
      have a7 : W7.cell? ⟨w6.heap.size, fa, none⟩ = some (.string (nm 105 fa)) := by rw [hW7]; exact th_at w6.drew hfa6
      have a8 : W8.cell? ⟨w6.heap.size, fa, none⟩ = some (.string (nm 105 fa)) := (hb8.cell (p := ⟨w6.heap.size, fa, none⟩) (World.block_lt_of_cell? _ _ a7)).trans a7
      have d8 : W8.cell? ⟨W7.heap.size, fc, none⟩ = some (.string (nm 105 fc)) := by rw [hW8]; exact th_at W7 hfc6
      have hb68 := hb7.trans (hb8.mono hb7.size)
      have HAX8 := Lib.hid (HAX6.out.below hb68)
      have HAY8 := Lib.hid (HAY6.out.below hb68)
      have HB8 := Lib.hid (HB6.out.trans (hb68.mono HB6.out.size))
      have HRD8 := Lib.hid ((HRD6.out.below hb68).more hb68.size)
      have HW7 := Lib.hid hW7
      have HW8 := Lib.hid hW8
      clear hb7 hb8 hb68 HAX6 HAY6 HB6 HRD6 hW7 hW8
      have hf1 : (fa : Int) < 6 := by omega
      have hf2 : (fc : Int) < 6 := by omega
      go_wp2_with fail
      go_cut [17, 18] (fun s17 s18 wx => s17 = .string (nm 105 fa) ∧ s18 = .string (nm 105 fc) ∧ wx = W8)
      case first =>
        refine heldStart 11 (S := fun W => True) (by kernel_rfl) ?_ (fun hHeld => ?_)
        · trivial
        refine heldTake 1 (v := ?_) (by simp only [List.getElem?_toArray, List.getElem?_cons_succ, List.getElem?_cons_zero]; rfl) (by kernel_rfl) (by intro _ _ _ h; exact h) (by rfl) (by assumption) ?_ ?_
        rotate_left
        · intro W hSw; (try dsimp only at hSw); go_simp; try with_reducible rfl
        simp only [Act.put, List.setIfInBounds_toArray, List.set_cons_zero, List.set_cons_succ]
        refine heldTake 2 (v := ?_) (by simp only [List.getElem?_toArray, List.getElem?_cons_succ, List.getElem?_cons_zero]; rfl) (by kernel_rfl) (by intro _ _ _ h; exact h) (by rfl) (by assumption) ?_ ?_
        rotate_left
        · intro W hSw; (try dsimp only at hSw); go_simp; try with_reducible rfl
        simp only [Act.put, List.setIfInBounds_toArray, List.set_cons_zero, List.set_cons_succ]
        refine heldTake 6 (v := ?_) (by simp only [List.getElem?_toArray, List.getElem?_cons_succ, List.getElem?_cons_zero]; rfl) (by kernel_rfl) (by intro _ _ _ h; exact h) (by rfl) (by assumption) ?_ ?_
        rotate_left
        · intro W hSw; (try dsimp only at hSw); go_simp; try with_reducible rfl
        simp only [Act.put, List.setIfInBounds_toArray, List.set_cons_zero, List.set_cons_succ]
        refine heldTake 7 (v := ?_) (by simp only [List.getElem?_toArray, List.getElem?_cons_succ, List.getElem?_cons_zero]; rfl) (by kernel_rfl) (by intro _ _ _ h; exact h) (by rfl) (by assumption) ?_ ?_
        rotate_left
        · intro W hSw; (try dsimp only at hSw); go_simp; try with_reducible rfl
        simp only [Act.put, List.setIfInBounds_toArray, List.set_cons_zero, List.set_cons_succ]
        refine heldCall 0 (by simp only [List.getElem?_toArray, List.getElem?_cons_succ, List.getElem?_cons_zero]; rfl) (by kernel_rfl) (fun K hK => ?_)
        go_simp
        refine (things6 _).mono ?_
        rintro r w7 ⟨rfl, hw7⟩
        obtain rfl : W7 = w7 := HW7.out.trans hw7.symm
        clear hw7
        go_wp2_with fail
        refine hK.out _ _ ?_ (fun hHeld => ?_)
        · trivial
        clear hK K
        (try simp only [Act.put, List.setIfInBounds_toArray, List.set_cons_zero, List.set_cons_succ])
        refine heldTake 3 (v := ?_) (by simp only [List.getElem?_toArray, List.getElem?_cons_succ, List.getElem?_cons_zero]; rfl) (by kernel_rfl) (by intro _ _ _ h; exact h) (by rfl) (by assumption) ?_ ?_
        rotate_left
        · intro W hSw; (try dsimp only at hSw); go_simp; try with_reducible rfl
        simp only [Act.put, List.setIfInBounds_toArray, List.set_cons_zero, List.set_cons_succ]
        refine heldFork 4 5 (by kernel_rfl) ?_ ?_
        · refine heldOp 4 (by simp only [List.getElem?_toArray, List.getElem?_cons_succ, List.getElem?_cons_zero]; rfl) (fun K hK => ?_)
          go_simp
          refine hK.out _ _ ?_ (fun hHeld => ?_)
          · trivial
          clear hK K
          (try simp only [Act.put, List.setIfInBounds_toArray, List.set_cons_zero, List.set_cons_succ])
          refine heldCall 5 (by simp only [List.getElem?_toArray, List.getElem?_cons_succ, List.getElem?_cons_zero]; rfl) (by kernel_rfl) (fun K hK => ?_)
          go_simp
          refine (things6 _).mono ?_
          rintro r w8 ⟨rfl, hw8⟩
          obtain rfl : W8 = w8 := HW8.out.trans hw8.symm
          clear hw8
          go_wp2_with fail
          refine hK.out _ _ ?_ (fun hHeld => ?_)
          · trivial
          clear hK K
          (try simp only [Act.put, List.setIfInBounds_toArray, List.set_cons_zero, List.set_cons_succ])
          refine heldTake 8 (v := ?_) (by simp only [List.getElem?_toArray, List.getElem?_cons_succ, List.getElem?_cons_zero]; rfl) (by kernel_rfl) (by intro _ _ _ h; exact h) (by rfl) (by assumption) ?_ ?_
          rotate_left
          · intro W hSw; (try dsimp only at hSw); go_simp; try with_reducible rfl
          simp only [Act.put, List.setIfInBounds_toArray, List.set_cons_zero, List.set_cons_succ]
          refine heldTake 10 (v := ?_) (by simp only [List.getElem?_toArray, List.getElem?_cons_succ, List.getElem?_cons_zero]; rfl) (by kernel_rfl) (by intro _ _ _ h; exact h) (by rfl) (by assumption) ?_ ?_
          rotate_left
          · intro W hSw; (try dsimp only at hSw); go_simp; try with_reducible rfl
          simp only [Act.put, List.setIfInBounds_toArray, List.set_cons_zero, List.set_cons_succ]
          refine heldCall 9 (by simp only [List.getElem?_toArray, List.getElem?_cons_succ, List.getElem?_cons_zero]; rfl) (by kernel_rfl) (fun K hK => ?_)
          go_simp
          refine hK.out _ _ ?_ (fun hHeld => ?_)
          · trivial
          clear hK K
          (try simp only [Act.put, List.setIfInBounds_toArray, List.set_cons_zero, List.set_cons_succ])
          refine heldTake 11 (v := ?_) (by simp only [List.getElem?_toArray, List.getElem?_cons_succ, List.getElem?_cons_zero]; rfl) (by kernel_rfl) (by intro _ _ _ h; exact h) (by rfl) (by assumption) ?_ ?_
          rotate_left
          · intro W hSw; (try dsimp only at hSw); go_simp; try with_reducible rfl
          simp only [Act.put, List.setIfInBounds_toArray, List.set_cons_zero, List.set_cons_succ]
          refine heldDone (by kernel_rfl) ?_ _
          go_wp2_with fail
          go_meet
          exact ⟨rfl, rfl, rfl⟩
        · refine heldOp 5 (by simp only [List.getElem?_toArray, List.getElem?_cons_succ, List.getElem?_cons_zero]; rfl) (fun K hK => ?_)
          go_simp
          refine (things6 _).mono ?_
          rintro r w8 ⟨rfl, hw8⟩
          obtain rfl : W8 = w8 := HW8.out.trans hw8.symm
          clear hw8
          go_wp2_with fail
          refine hK.out _ _ ?_ (fun hHeld => ?_)
          · trivial
          clear hK K
          (try simp only [Act.put, List.setIfInBounds_toArray, List.set_cons_zero, List.set_cons_succ])
          refine heldTake 8 (v := ?_) (by simp only [List.getElem?_toArray, List.getElem?_cons_succ, List.getElem?_cons_zero]; rfl) (by kernel_rfl) (by intro _ _ _ h; exact h) (by rfl) (by assumption) ?_ ?_
          rotate_left
          · intro W hSw; (try dsimp only at hSw); go_simp; try with_reducible rfl
          simp only [Act.put, List.setIfInBounds_toArray, List.set_cons_zero, List.set_cons_succ]
          refine heldFork 4 9 (by kernel_rfl) ?_ ?_
          · refine heldOp 4 (by simp only [List.getElem?_toArray, List.getElem?_cons_succ, List.getElem?_cons_zero]; rfl) (fun K hK => ?_)
            go_simp
            refine hK.out _ _ ?_ (fun hHeld => ?_)
            · trivial
            clear hK K
            (try simp only [Act.put, List.setIfInBounds_toArray, List.set_cons_zero, List.set_cons_succ])
            refine heldTake 10 (v := ?_) (by simp only [List.getElem?_toArray, List.getElem?_cons_succ, List.getElem?_cons_zero]; rfl) (by kernel_rfl) (by intro _ _ _ h; exact h) (by rfl) (by assumption) ?_ ?_
            rotate_left
            · intro W hSw; (try dsimp only at hSw); go_simp; try with_reducible rfl
            simp only [Act.put, List.setIfInBounds_toArray, List.set_cons_zero, List.set_cons_succ]
            refine heldCall 9 (by simp only [List.getElem?_toArray, List.getElem?_cons_succ, List.getElem?_cons_zero]; rfl) (by kernel_rfl) (fun K hK => ?_)
            go_simp
            refine hK.out _ _ ?_ (fun hHeld => ?_)
            · trivial
            clear hK K
            (try simp only [Act.put, List.setIfInBounds_toArray, List.set_cons_zero, List.set_cons_succ])
            refine heldTake 11 (v := ?_) (by simp only [List.getElem?_toArray, List.getElem?_cons_succ, List.getElem?_cons_zero]; rfl) (by kernel_rfl) (by intro _ _ _ h; exact h) (by rfl) (by assumption) ?_ ?_
            rotate_left
            · intro W hSw; (try dsimp only at hSw); go_simp; try with_reducible rfl
            simp only [Act.put, List.setIfInBounds_toArray, List.set_cons_zero, List.set_cons_succ]
            refine heldDone (by kernel_rfl) ?_ _
            go_wp2_with fail
            go_meet
            exact ⟨rfl, rfl, rfl⟩
          · refine heldOp 9 (by simp only [List.getElem?_toArray, List.getElem?_cons_succ, List.getElem?_cons_zero]; rfl) (fun K hK => ?_)
            go_simp
            refine hK.out _ _ ?_ (fun hHeld => ?_)
            · trivial
            clear hK K
            (try simp only [Act.put, List.setIfInBounds_toArray, List.set_cons_zero, List.set_cons_succ])
            refine heldCall 4 (by simp only [List.getElem?_toArray, List.getElem?_cons_succ, List.getElem?_cons_zero]; rfl) (by kernel_rfl) (fun K hK => ?_)
            go_simp
            refine hK.out _ _ ?_ (fun hHeld => ?_)
            · trivial
            clear hK K
            (try simp only [Act.put, List.setIfInBounds_toArray, List.set_cons_zero, List.set_cons_succ])
            refine heldTake 10 (v := ?_) (by simp only [List.getElem?_toArray, List.getElem?_cons_succ, List.getElem?_cons_zero]; rfl) (by kernel_rfl) (by intro _ _ _ h; exact h) (by rfl) (by assumption) ?_ ?_
            rotate_left
            · intro W hSw; (try dsimp only at hSw); go_simp; try with_reducible rfl
            simp only [Act.put, List.setIfInBounds_toArray, List.set_cons_zero, List.set_cons_succ]
            refine heldTake 11 (v := ?_) (by simp only [List.getElem?_toArray, List.getElem?_cons_succ, List.getElem?_cons_zero]; rfl) (by kernel_rfl) (by intro _ _ _ h; exact h) (by rfl) (by assumption) ?_ ?_
            rotate_left
            · intro W hSw; (try dsimp only at hSw); go_simp; try with_reducible rfl
            simp only [Act.put, List.setIfInBounds_toArray, List.set_cons_zero, List.set_cons_succ]
            refine heldDone (by kernel_rfl) ?_ _
            go_wp2_with fail
            go_meet
            exact ⟨rfl, rfl, rfl⟩
      case rest =>
        obtain ⟨rfl, rfl, hwc⟩ := hcut
        obtain rfl : W8 = wc := hwc.symm
        clear hwc a7 a8 d8 HW7 HW8 hf1 hf2
        have hsa : (nm 105 (fa : Int)).size ≤ maxLen := by rw [nm_size]; unfold maxLen; omega
        have hsc : (nm 105 (fc : Int)).size ≤ maxLen := by rw [nm_size]; unfold maxLen; omega
        generalize nm 105 (fa : Int) = an at *
        generalize nm 105 (fc : Int) = cn at *
        generalize xB gp E = b at *
        have HSA := Lib.hid hsa
        have HSC := Lib.hid hsc
        have QXac := Lib.hid (count_any an cn W8 HAX8.out hsa hsc)
        have QXca := Lib.hid (count_any cn an W8 HAX8.out hsc hsa)
        have QYac := Lib.hid (count_any an cn W8 HAY8.out hsa hsc)
        have QXs := Lib.hid (single_any an W8 HAX8.out hsa)
        have QXa := Lib.hid (allB_any W8 HAX8.out)
        have QYa := Lib.hid (allB_any W8 HAY8.out)
        have hca := HOK.out.c0 an cn
        have hcc := HOK.out.c0 cn an
        have hs1 := HOK.out.s0 an
        have hs2 := HOK.out.s0 cn
        have hal := HOK.out.a0
        have hc2 := HOK.out.c2 an cn
        have hwc : IntKind.i64.wrap (b.ct an cn + b.ct cn an) = b.ct an cn + b.ct cn an := IntWalk.i64_in _ (by omega)
        have hwc2 : wrap64 (b.ct an cn + b.ct cn an) = b.ct an cn + b.ct cn an := by unfold wrap64; omega
        clear hsa hsc
        have hpick : (an = cn) ∨ (an ≠ cn ∧ ¬ (b.sg an < b.ct an cn + b.ct cn an)) := by
          by_cases e : an = cn
          · exact .inl e
          · exact .inr ⟨e, by have := hc2 e; omega⟩
        have QCF := Lib.hid (conf_any an cn W8 HAX8.out HSA.out HSC.out)
        have hcf := cf_bd HOK.out an cn
        have HLS2 := Lib.hid (fun d => @cf_same b d an cn)
        generalize cfN b an cn = nu at *
        generalize cfD b an = de at *
        have HPK := Lib.hid hpick
        clear hc2 hpick
        go_upto_region 6 with fail
        go_cut [103] (fun s103 wx => s103 = .bool false ∧ wx = W8)
        case first =>
          go_wp2_with fail
          refine QXac.out.mono ?_
          rintro e w9 ⟨rfl, rfl⟩
          go_wp2_with fail
          refine QYac.out.mono ?_
          rintro e w9 ⟨rfl, rfl⟩
          go_wp2_with fail
          refine QXa.out.mono ?_
          rintro e w9 ⟨rfl, rfl⟩
          go_wp2_with fail
          refine QYa.out.mono ?_
          rintro e w9 ⟨rfl, rfl⟩
          go_wp2_with fail
          refine QXac.out.mono ?_
          rintro e w9 ⟨rfl, rfl⟩
          go_wp2_with fail
          refine QXca.out.mono ?_
          rintro e w9 ⟨rfl, rfl⟩
          go_wp2_with fail
          refine QXs.out.mono ?_
          rintro e w9 ⟨rfl, rfl⟩
          rcases HPK.out with hac | ⟨hac, hgt⟩
          · by_cases hgt : b.sg an < b.ct an cn + b.ct cn an
            · have hgd : decide (b.sg an < b.ct an cn + b.ct cn an) = true := decide_eq_true hgt
              have he1 : (an.toList == cn.toList) = true := by rw [hac]; exact beq_self_eq_true _
              clear hac
              go_wp2_with fail
              go_meet
              exact ⟨rfl, rfl⟩
            · have hgd : decide (b.sg an < b.ct an cn + b.ct cn an) = false := decide_eq_false (by omega)
              clear hac
              go_wp2_with fail
              go_meet
              exact ⟨rfl, rfl⟩
          · have hgd : decide (b.sg an < b.ct an cn + b.ct cn an) = false := decide_eq_false (by omega)
            go_wp2_with fail
            go_meet
            exact ⟨rfl, rfl⟩
        case rest =>
          obtain ⟨rfl, hwc⟩ := hcut
          obtain rfl : W8 = wc := hwc.symm
          clear hwc QXca QYac QXs QXa QYa hca hcc hs1 hs2 hal hwc2 HPK QXac HAY8
          go_wp2_with fail
          refine QCF.out.mono ?_
          rintro e w9 ⟨rfl, hb9⟩
          obtain ⟨rb, hrb⟩ : ∃ rb, rb = w9.heap.size := ⟨_, rfl⟩
          obtain ⟨W10, hW10⟩ : ∃ W10, W10 = w9.alloc (.cells #[.int .i64 nu, .int .i64 de] 45) := ⟨_, rfl⟩
          have hbr : W10.heap[rb]? = some (.cells #[.int .i64 nu, .int .i64 de] 45 (0, 0)) := by rw [hW10, hrb]; exact heap_alloc_new w9 _
          have hb10 : Below w9.heap.size w9 W10 := by rw [hW10]; exact (Below.refl _ w9).alloc (Nat.le_refl _) _
          have hb810 := hb9.trans (hb10.mono hb9.size)
          have HAX10 := Lib.hid (HAX8.out.below hb810)
          have HB10 := Lib.hid (HB8.out.trans (hb810.mono HB8.out.size))
          have HRD10 := Lib.hid ((HRD8.out.below hb810).more hb810.size)
          have HBR := Lib.hid hbr
          clear hb9 hb10 hb810 hbr HAX8 HB8 HRD8 QCF
          go_upto_region 9 with (refine wpList_store_new rfl 45 _ _ rfl _ _ _ _ (by rfl) (by rfl) (by kernel_rfl) (by rfl) (by rfl) (by simp) ?_)
          rw [← hW10, ← hrb]
          clear hW10 hrb
          (try simp only [Act.put])
          have r0 : W10.cell? ⟨rb, 0, none⟩ = some (.int .i64 nu) := by rw [cell_of_row W10 rb 0 _ _ _ HBR.out]; rfl
          have r1 : W10.cell? ⟨rb, 1, none⟩ = some (.int .i64 de) := by rw [cell_of_row W10 rb 1 _ _ _ HBR.out]; rfl
          have qm := rmayR_any nu de W10
          rw [decide_eq_true hcf.1, decide_eq_true hcf.2.2.1] at qm
          have QM := Lib.hid qm
          have QC := Lib.hid (fun W => compare_any nu de 1 1 hcf.1 (by omega) hcf.2.2.1 (by omega) (by omega) (by omega) (by omega) (by omega) W)
          obtain ⟨cv, hcv⟩ : ∃ cv, cv = cmpInt (nu * 1) (1 * de) := ⟨_, rfl⟩
          have hcv0 : ¬ (0 < cv) := by
            rw [hcv]
            unfold cmpInt
            split
            · omega
            · split
              · omega
              · omega
          have hcvd : decide (0 < cv) = false := decide_eq_false hcv0
          rw [← hcv] at QC
          clear qm hcv
          go_cut [116] (fun s116 wx => s116 = .bool false ∧ Below W10.heap.size W10 wx)
          case first =>
            go_wp2_with fail
            refine QM.out.mono ?_
            rintro e w11 ⟨rfl, hg11⟩
            have hb11 := hg11.below
            have r0b : w11.cell? ⟨rb, 0, none⟩ = some (.int .i64 nu) := (hb11.cell (p := ⟨rb, 0, none⟩) (World.block_lt_of_cell? _ _ r0)).trans r0
            have r1b : w11.cell? ⟨rb, 1, none⟩ = some (.int .i64 de) := (hb11.cell (p := ⟨rb, 1, none⟩) (World.block_lt_of_cell? _ _ r1)).trans r1
            have HB11 := Lib.hid hb11
            clear hg11 hb11 r0 r1
            go_wp2_with fail
            refine (QC.out _).mono ?_
            rintro e w12 ⟨rfl, hg12⟩
            have HB12 := Lib.hid (HB11.out.trans (hg12.below.mono HB11.out.size))
            clear hg12
            go_wp2_with fail
            go_meet
            exact ⟨rfl, HB12.out⟩
          case rest =>
            obtain ⟨rfl, hb12⟩ := hcut
            obtain ⟨w12, rfl⟩ : ∃ w12 : World, w12 = wc := ⟨_, rfl⟩
            have HAX12 := Lib.hid (HAX10.out.below hb12)
            have HB12 := Lib.hid (HB10.out.trans (hb12.mono HB10.out.size))
            have HRD12 := Lib.hid ((HRD10.out.below hb12).more hb12.size)
            have HBR12 := Lib.hid ((hb12.block rb (Array.getElem?_eq_some_iff.1 HBR.out).1).trans HBR.out)
            clear hb12 r0 r1 QM QC hcv0 hcvd HAX10 HB10 HRD10 HBR
            obtain ⟨W13, hW13⟩ : ∃ W13, W13 = w12.alloc (.cells (peL.map Value.string).toArray 9) := ⟨_, rfl⟩
            have hb13 : Below w12.heap.size w12 W13 := by rw [hW13]; exact (Below.refl _ w12).alloc (Nat.le_refl _) _
            have hpe : ∀ k, k < 4 → W13.cell? ⟨w12.heap.size, k, none⟩ = some (.string (nm 112 k)) := fun k hk => by rw [hW13]; exact pe_at w12 hk
            have HAX13 := Lib.hid (HAX12.out.below hb13)
            have HB13 := Lib.hid (HB12.out.trans (hb13.mono HB12.out.size))
            have HRD13 := Lib.hid ((HRD12.out.below hb13).more hb13.size)
            have HBR13 := Lib.hid ((hb13.block rb (Array.getElem?_eq_some_iff.1 HBR12.out).1).trans HBR12.out)
            have HPE := Lib.hid hpe
            have HW13 := Lib.hid hW13
            obtain ⟨pb, hpb⟩ : ∃ pb, pb = w12.heap.size := ⟨_, rfl⟩
            have HPE : Hid (∀ k, k < 4 → W13.cell? ⟨pb, k, none⟩ = some (.string (nm 112 k))) := by rw [hpb]; exact HPE
            clear hb13 hpe hW13 HAX12 HB12 HRD12 HBR12
            go_wp2_with fail
            refine (people4 w12).mono ?_
            rintro e w14 ⟨rfl, hw14⟩
            obtain rfl : W13 = w14 := HW13.out.trans hw14.symm
            clear hw14 HW13
            rw [← hpb]
            clear hpb
            go_wp2_with fail
            go_loopg [20, 119] 4 (Lp1 W13 E an cn)
            case atStart => exact ⟨0, 0, 0, none, [], rfl, rfl, rfl, Lib.hid rfl, Lib.hid rfl, Lib.hid (World.ownsRow_nil W13 _ _ _), Lib.hid (Below.refl _ _)⟩
            case round =>
              obtain ⟨k, nL, cL, AL, X, rfl, hk4, rfl, HNL, HX, HOX, HBX⟩ := hrel
              by_cases hkl : (k : Int) < 4
              · have hk44 : k < 4 := by omega
                have hpc : wr.cell? ⟨pb, k, none⟩ = some (.string (nm 112 k)) := (HBX.out.cell (p := ⟨pb, k, none⟩) (World.block_lt_of_cell? _ _ (HPE.out k hk44))).trans (HPE.out k hk44)
                have HTK := Lib.hid (pe_take hk44)
                have hps : (nm 112 (k : Int)).size ≤ maxLen := by rw [nm_size]; unfold maxLen; omega
                generalize nm 112 (k : Int) = pk at *
                obtain ⟨wq, rfl⟩ : ∃ wq : World, wq = wr := ⟨_, rfl⟩
                obtain ⟨gk1, hgk1⟩ : ∃ g, g = gk := ⟨_, rfl⟩
                rw [← hgk1] at hk4
                have HGK := Lib.hid hgk1
                clear hgk1
                go_wp2_with fail
                clear hpc
                go_loopg [23, 125] E.length (Lp2 wq E an cn pk)
                case atStart => exact ⟨0, false, rfl, by omega, rfl, Lib.hid rfl, Lib.hid (Below.refl _ _)⟩
                case round =>
                  obtain ⟨j, bv, rfl, hj, rfl, HBV, HBJ⟩ := hrel
                  by_cases hjl : (j : Int) < (E.length : Int)
                  · have hjn : j < E.length := by omega
                    have HBW : Hid (Below W13.heap.size W13 wr) := Lib.hid (HBX.out.trans (HBJ.out.mono HBX.out.size))
                    obtain ⟨b0, o0, rfl, hbB, hcc⟩ := HRD13.out.2 (by omega)
                    have htk : E.take (j + 1) = E.take j ++ [E[j]] := by rw [List.take_succ_eq_append_getElem hjn]
                    have hrg : wr.rangeAt b0 (o0 + j * 8) (evCells E[j]) := by
                      intro q v hv
                      have hq : q < 8 := (List.getElem?_eq_some_iff.1 hv).1
                      have h2 := hcc (j * 8 + q) v ((ev_at hjn q hq).trans hv)
                      rw [← Nat.add_assoc] at h2
                      exact (HBW.out.cell (p := ⟨b0, o0 + j * 8 + q, none⟩) hbB).trans h2
                    generalize E[j] = ev at *
                    have HTJ := Lib.hid htk
                    clear hcc htk
                    obtain ⟨src, num, at_, kd, pe, it, va, tx⟩ := ev
                    unfold evCells at hrg
                    simp only at hrg
                    have HRG := Lib.hid hrg
                    clear hrg
                    obtain ⟨W5, hW5⟩ : ∃ W5, W5 = wr.alloc (.cells #[Value.string src, .int .i64 num, .int .i64 at_, .int .i64 kd, .string pe, .string it, .int .i64 va, .string tx] 51) := ⟨_, rfl⟩
                    have hb5 : Below wr.heap.size wr W5 := by rw [hW5]; exact (Below.refl _ wr).alloc (Nat.le_refl _) _
                    have hbx : W5.heap[wr.heap.size]? = some (.cells #[Value.string src, .int .i64 num, .int .i64 at_, .int .i64 kd, .string pe, .string it, .int .i64 va, .string tx] 51 (0, 0)) := by rw [hW5]; exact heap_alloc_new wr _
                    go_upto_region 19 with (first | (refine wpList_load_mid rfl _ _ rfl b0 (o0 + j * 8) (by rfl) _ _ HRG.out Tryd.underlying51 (by rfl) (by kernel_rfl) ?_) | (refine wpList_store_new rfl 51 _ _ rfl _ _ _ _ (by rfl) (by rfl) (by kernel_rfl) (by rfl) (by rfl) (by simp) ?_))
                    rw [← hW5]
                    clear hW5 HRG
                    (try simp only [Act.put])
                    obtain ⟨xb, hxb⟩ : ∃ xb, xb = wr.heap.size := ⟨_, rfl⟩
                    rw [← hxb] at hbx ⊢
                    have HXS := Lib.hid (show xb = wr.heap.size from hxb)
                    clear hxb
                    have k0 : W5.cell? ⟨xb, 0, none⟩ = some (.string src) := by rw [cell_of_row W5 xb 0 _ _ _ hbx]; rfl
                    have k1 : W5.cell? ⟨xb, 1, none⟩ = some (.int .i64 num) := by rw [cell_of_row W5 xb 1 _ _ _ hbx]; rfl
                    have k2 : W5.cell? ⟨xb, 2, none⟩ = some (.int .i64 at_) := by rw [cell_of_row W5 xb 2 _ _ _ hbx]; rfl
                    have k3 : W5.cell? ⟨xb, 3, none⟩ = some (.int .i64 kd) := by rw [cell_of_row W5 xb 3 _ _ _ hbx]; rfl
                    have k4 : W5.cell? ⟨xb, 4, none⟩ = some (.string pe) := by rw [cell_of_row W5 xb 4 _ _ _ hbx]; rfl
                    have k5 : W5.cell? ⟨xb, 5, none⟩ = some (.string it) := by rw [cell_of_row W5 xb 5 _ _ _ hbx]; rfl
                    have k6 : W5.cell? ⟨xb, 6, none⟩ = some (.int .i64 va) := by rw [cell_of_row W5 xb 6 _ _ _ hbx]; rfl
                    have k7 : W5.cell? ⟨xb, 7, none⟩ = some (.string tx) := by rw [cell_of_row W5 xb 7 _ _ _ hbx]; rfl
                    clear hbx
                    have HB5 : Hid (Below wq.heap.size wq W5) := Lib.hid (HBJ.out.trans (hb5.mono HBJ.out.size))
                    clear hb5 k0 k1 k2 k6 k7
                    cases bv with
                    | true =>
                      have HHIT : Hid ((true || hitB an cn pk ⟨src, num, at_, kd, pe, it, va, tx⟩) = true) := Lib.hid (Bool.true_or _)
                      go_wp2_with fail
                      go_roundg (gk - 1)
                      case measure => omega
                      case rel => exact ⟨j + 1, true, by go_num, by omega, rfl, Lib.hid (by rw [HTJ.out, gotB_snoc, ← HBV.out]; exact HHIT.out.symm), HB5⟩
                    | false =>
                      by_cases hp : pe = pk
                      · have t1 : (pe.toList == pk.toList) = true := by rw [hp]; exact beq_self_eq_true _
                        by_cases hkd : kd = 3
                        · have t2 : (kd == 3) = true := by rw [hkd]; rfl
                          by_cases ha : it = an
                          · have t3 : (it.toList == an.toList) = true := by rw [ha]; exact beq_self_eq_true _
                            have HHIT : Hid ((false || hitB an cn pk ⟨src, num, at_, kd, pe, it, va, tx⟩) = true) := Lib.hid (by simp [hitB, hp, hkd, ha])
                            clear hp hkd ha
                            go_wp2_with fail
                            go_roundg (gk - 1)
                            case measure => omega
                            case rel => exact ⟨j + 1, true, by go_num, by omega, rfl, Lib.hid (by rw [HTJ.out, gotB_snoc, ← HBV.out]; exact HHIT.out.symm), HB5⟩
                          · have t3 : (it.toList == an.toList) = false := toList_ne ha
                            by_cases hc : it = cn
                            · have t4 : (it.toList == cn.toList) = true := by rw [hc]; exact beq_self_eq_true _
                              have HHIT : Hid ((false || hitB an cn pk ⟨src, num, at_, kd, pe, it, va, tx⟩) = true) := Lib.hid (by simp [hitB, hp, hkd, hc])
                              clear hp hkd ha hc
                              go_wp2_with fail
                              go_roundg (gk - 1)
                              case measure => omega
                              case rel => exact ⟨j + 1, true, by go_num, by omega, rfl, Lib.hid (by rw [HTJ.out, gotB_snoc, ← HBV.out]; exact HHIT.out.symm), HB5⟩
                            · have t4 : (it.toList == cn.toList) = false := toList_ne hc
                              have HHIT : Hid ((false || hitB an cn pk ⟨src, num, at_, kd, pe, it, va, tx⟩) = false) := Lib.hid (by simp [hitB, hp, hkd, ha, hc])
                              clear hp hkd ha hc
                              go_wp2_with fail
                              go_roundg (gk - 1)
                              case measure => omega
                              case rel => exact ⟨j + 1, false, by go_num, by omega, rfl, Lib.hid (by rw [HTJ.out, gotB_snoc, ← HBV.out]; exact HHIT.out.symm), HB5⟩
                        · have t2 : (kd == 3) = false := by simpa using hkd
                          have HHIT : Hid ((false || hitB an cn pk ⟨src, num, at_, kd, pe, it, va, tx⟩) = false) := Lib.hid (by simp [hitB, hkd])
                          clear hp
                          go_wp2_with fail
                          go_roundg (gk - 1)
                          case measure => omega
                          case rel => exact ⟨j + 1, false, by go_num, by omega, rfl, Lib.hid (by rw [HTJ.out, gotB_snoc, ← HBV.out]; exact HHIT.out.symm), HB5⟩
                      · have t1 : (pe.toList == pk.toList) = false := toList_ne hp
                        have HHIT : Hid ((false || hitB an cn pk ⟨src, num, at_, kd, pe, it, va, tx⟩) = false) := Lib.hid (by simp [hitB, hp])
                        clear hp
                        go_wp2_with fail
                        go_roundg (gk - 1)
                        case measure => omega
                        case rel => exact ⟨j + 1, false, by go_num, by omega, rfl, Lib.hid (by rw [HTJ.out, gotB_snoc, ← HBV.out]; exact HHIT.out.symm), HB5⟩
                  · have hje : E.take j = E := List.take_of_length_le (by omega)
                    rw [hje] at HBV
                    have HBW : Hid (Below W13.heap.size W13 wr) := Lib.hid (HBX.out.trans (HBJ.out.mono HBX.out.size))
                    have hox : wr.ownsRow W13.heap.size 51 8 (.slice AL nL cL) nL (evsCells X) := (Keeps.ofBelow HBJ.out (fun _ => False)).own HOX.out (fun _ _ h => h)
                    have HOX2 := Lib.hid hox
                    have hnL : nL ≤ 60 := by rw [HNL.out, HX.out]; have := less_len E an cn (peL.take k) (List.Nodup.sublist (List.take_sublist k peL) peL_nodup); omega
                    clear hje hox HBJ HOX
                    obtain ⟨wp, rfl⟩ : ∃ wp : World, wp = wr := ⟨_, rfl⟩
                    go_wp2_with fail
                    go_loopg [20, 156] E.length (Lp3 W13 E X bv pk)
                    case atStart => exact ⟨0, nL, cL, AL, X, rfl, by omega, rfl, by omega, HNL, Lib.hid (by rw [List.take_zero]; cases bv <;> simp [mineE]), HOX2, HBW⟩
                    case round =>
                      clear HOX2 HBW
                      obtain ⟨j, nX, cX, AX, X2, rfl, hj, rfl, hnX, HNX, HX2, HOX2, HBW⟩ := hrel
                      by_cases hjl : (j : Int) < (E.length : Int)
                      · have hjn : j < E.length := by omega
                        obtain ⟨b0, o0, rfl, hbB, hcc⟩ := HRD13.out.2 (by omega)
                        have htk : E.take (j + 1) = E.take j ++ [E[j]] := by rw [List.take_succ_eq_append_getElem hjn]
                        have hrg : wr.rangeAt b0 (o0 + j * 8) (evCells E[j]) := by
                          intro q v hv
                          have hq : q < 8 := (List.getElem?_eq_some_iff.1 hv).1
                          have h2 := hcc (j * 8 + q) v ((ev_at hjn q hq).trans hv)
                          rw [← Nat.add_assoc] at h2
                          exact (HBW.out.cell (p := ⟨b0, o0 + j * 8 + q, none⟩) hbB).trans h2
                        generalize E[j] = ev at *
                        have HTJ := Lib.hid htk
                        clear hcc htk
                        obtain ⟨src, num, at_, kd, pe, it, va, tx⟩ := ev
                        unfold evCells at hrg
                        simp only at hrg
                        have HRG := Lib.hid hrg
                        clear hrg
                        obtain ⟨W5, hW5⟩ : ∃ W5, W5 = wr.alloc (.cells #[Value.string src, .int .i64 num, .int .i64 at_, .int .i64 kd, .string pe, .string it, .int .i64 va, .string tx] 51) := ⟨_, rfl⟩
                        have hb5 : Below wr.heap.size wr W5 := by rw [hW5]; exact (Below.refl _ wr).alloc (Nat.le_refl _) _
                        have hbx : W5.heap[wr.heap.size]? = some (.cells #[Value.string src, .int .i64 num, .int .i64 at_, .int .i64 kd, .string pe, .string it, .int .i64 va, .string tx] 51 (0, 0)) := by rw [hW5]; exact heap_alloc_new wr _
                        go_upto_region 24 with (first | (refine wpList_load_mid rfl _ _ rfl b0 (o0 + j * 8) (by rfl) _ _ HRG.out Tryd.underlying51 (by rfl) (by kernel_rfl) ?_) | (refine wpList_store_new rfl 51 _ _ rfl _ _ _ _ (by rfl) (by rfl) (by kernel_rfl) (by rfl) (by rfl) (by simp) ?_))
                        rw [← hW5]
                        clear hW5 HRG
                        (try simp only [Act.put])
                        obtain ⟨xb, hxb⟩ : ∃ xb, xb = wr.heap.size := ⟨_, rfl⟩
                        rw [← hxb] at hbx ⊢
                        have HXS := Lib.hid (show xb = wr.heap.size from hxb)
                        clear hxb
                        have k0 : W5.cell? ⟨xb, 0, none⟩ = some (.string src) := by rw [cell_of_row W5 xb 0 _ _ _ hbx]; rfl
                        have k1 : W5.cell? ⟨xb, 1, none⟩ = some (.int .i64 num) := by rw [cell_of_row W5 xb 1 _ _ _ hbx]; rfl
                        have k2 : W5.cell? ⟨xb, 2, none⟩ = some (.int .i64 at_) := by rw [cell_of_row W5 xb 2 _ _ _ hbx]; rfl
                        have k3 : W5.cell? ⟨xb, 3, none⟩ = some (.int .i64 kd) := by rw [cell_of_row W5 xb 3 _ _ _ hbx]; rfl
                        have k4 : W5.cell? ⟨xb, 4, none⟩ = some (.string pe) := by rw [cell_of_row W5 xb 4 _ _ _ hbx]; rfl
                        have k5 : W5.cell? ⟨xb, 5, none⟩ = some (.string it) := by rw [cell_of_row W5 xb 5 _ _ _ hbx]; rfl
                        have k6 : W5.cell? ⟨xb, 6, none⟩ = some (.int .i64 va) := by rw [cell_of_row W5 xb 6 _ _ _ hbx]; rfl
                        have k7 : W5.cell? ⟨xb, 7, none⟩ = some (.string tx) := by rw [cell_of_row W5 xb 7 _ _ _ hbx]; rfl
                        clear hbx
                        have HB5 : Hid (Below W13.heap.size W13 W5) := Lib.hid (HBW.out.trans (hb5.mono HBW.out.size))
                        have hox : W5.ownsRow W13.heap.size 51 8 (.slice AX nX cX) nX (evsCells X2) := (Keeps.ofBelow hb5 (fun _ => False)).own HOX2.out (fun _ _ h => h)
                        have HOX5 := Lib.hid hox
                        have HSZ5 := Lib.hid HB5.out.size
                        clear hb5 hox HOX2
                        cases bv with
                        | true =>
                          by_cases hp : pe = pk
                          · have t1 : (pe.toList == pk.toList) = true := by rw [hp]; exact beq_self_eq_true _
                            have HMN : Hid (mineE (E.take (j + 1)) pk = mineE (E.take j) pk ++ [⟨src, num, at_, kd, pe, it, va, tx⟩]) := Lib.hid (by rw [HTJ.out, mineE_snoc, if_pos hp])
                            clear hp
                            go_wp2_with (at_builtin; refine wpList_append_one W5 rfl (.tmp 167) (.tmp 169) _ rfl W13.heap.size 51 (.agg #[.string ⟨#[]⟩, .int .i64 0, .int .i64 0, .int .i64 0, .string ⟨#[]⟩, .string ⟨#[]⟩, .int .i64 0, .string ⟨#[]⟩]) 8 96 u_evs ev_info rfl (by omega) AX nX cX (evsCells X2) rfl HOX5.out [Value.string src, .int .i64 num, .int .i64 at_, .int .i64 kd, .string pe, .string it, .int .i64 va, .string tx] rfl rfl (evCells_one ⟨src, num, at_, kd, pe, it, va, tx⟩) (by omega) (by unfold maxLen; omega) HSZ5.out ?_; intro A7 c7 w7 hown7 hg7 hb7)
                            have HO7 : Hid (w7.ownsRow W13.heap.size 51 8 (.slice A7 (nX + 1) c7) (nX + 1) (evsCells (X2 ++ [⟨src, num, at_, kd, pe, it, va, tx⟩]))) := Lib.hid (by rw [evsCells_snoc]; exact hown7)
                            have HB7 := Lib.hid (HB5.out.trans hb7)
                            clear hown7 hg7 hb7
                            go_wp2_with fail
                            go_roundg (gk - 1)
                            case measure => omega
                            case rel => exact ⟨j + 1, nX + 1, c7, A7, X2 ++ [⟨src, num, at_, kd, pe, it, va, tx⟩], by go_num, by omega, rfl, by omega, Lib.hid (by rw [List.length_append, ← HNX.out]; rfl), Lib.hid (by rw [HMN.out, HX2.out]; simp), HO7, HB7⟩
                          · have t1 : (pe.toList == pk.toList) = false := toList_ne hp
                            have HMN : Hid (mineE (E.take (j + 1)) pk = mineE (E.take j) pk) := Lib.hid (by rw [HTJ.out, mineE_snoc, if_neg hp, List.append_nil])
                            clear hp
                            go_wp2_with fail
                            go_roundg (gk - 1)
                            case measure => omega
                            case rel => exact ⟨j + 1, nX, cX, AX, X2, by go_num, by omega, rfl, by omega, HNX, Lib.hid (by rw [HMN.out, HX2.out] <;> simp), HOX5, HB5⟩
                        | false =>
                          go_wp2_with fail
                          go_roundg (gk - 1)
                          case measure => omega
                          case rel => exact ⟨j + 1, nX, cX, AX, X2, by go_num, by omega, rfl, by omega, HNX, Lib.hid (by rw [HX2.out]; simp), HOX5, HB5⟩
                      · have hje : E.take j = E := List.take_of_length_le (by omega)
                        have hX2 := HX2.out
                        rw [hje] at hX2
                        have HX3 : Hid (X2 = lessE E an cn (peL.take (k + 1))) := Lib.hid (by
                          rw [hX2, HTK.out, lessE_snoc, ← HX.out]
                          unfold lessP
                          rw [← HBV.out])
                        clear hje hX2 HX2
                        go_wp2_with fail
                        go_roundg (gk1 - 1)
                        case measure => have := HGK.out; omega
                        case rel => exact ⟨k + 1, nX, cX, AX, X2, by go_num, by omega, rfl, HNX, HX3, HOX2, HBW⟩
              · have hk44 : k = 4 := by omega
                have hX := HX.out
                have ht4 : peL.take k = peL := by rw [hk44]; rfl
                rw [ht4] at hX
                have hXl : X.length ≤ 60 := by
                  rw [hX]
                  have h1 := less_len E an cn peL peL_nodup
                  have h2 := HE60.out
                  omega
                have hXE : ∀ e ∈ X, BuyE e := fun e he => HBU.out e (lessE_sub (by rw [← hX]; exact he))
                have hls := HLS.out an cn
                rw [← hX] at hls
                have hcf2 := HLS2.out (xB gp X) hls.1 hls.2
                have QO := Lib.hid (of_anyN AL cL nL X gp wr HNL.out (Reads.of_own HOX.out) hXE hXl hgp)
                have HXE := Lib.hid hXE
                have HLSX := Lib.hid hls
                have HCF2 := Lib.hid hcf2
                have HBW := Lib.hid (HB13.out.trans (HBX.out.mono HB13.out.size))
                have HAXr := Lib.hid (HAX13.out.below HBX.out)
                have HBRr := Lib.hid ((HBX.out.block rb (Array.getElem?_eq_some_iff.1 HBR13.out).1).trans HBR13.out)
                clear hX ht4 hXl hXE hls hcf2 HOX HBX HAX13 HB13 HBR13 HX HNL HLS HLS2 hk44
                go_wp2_with fail
                refine QO.out.mono ?_
                rintro e w20 ⟨bz, sz, cz, Z1, Z2, kz, rfl, haz, hkn, hkm, hklz, hlo, hb20⟩
                rw [xB_of HXE.out hkn hkm] at haz
                have kd20 : Keeps (fun _ => False) w20 w20.drew := (Keeps.refl _ _).drew
                have hbr := (hb20.block rb (Array.getElem?_eq_some_iff.1 HBRr.out).1).trans HBRr.out
                have hxz : BkAt w20.drew bx sx cx X1 X2 b := (HAXr.out.below hb20).keep kd20 (fun h => h) (fun h => h) (fun h => h)
                have hzz : BkAt w20.drew bz sz cz Z1 Z2 (xB gp X) := haz.keep kd20 (fun h => h) (fun h => h) (fun h => h)
                have qz := count_any an cn w20.drew hzz HSA.out HSC.out
                rw [HLSX.out.1] at qz
                have QCZ := Lib.hid qz
                have QCX := Lib.hid (count_any an cn w20.drew hxz HSA.out HSC.out)
                have qf := conf_any an cn w20.drew hzz HSA.out HSC.out
                rw [HCF2.out.1, HCF2.out.2] at qf
                have QCF := Lib.hid qf
                have QCM := Lib.hid (fun W => compare_any nu de nu de hcf.1 (by omega) hcf.2.2.1 (by omega) hcf.1 (by omega) hcf.2.2.1 (by omega) W)
                have hcv0 : cmpInt (nu * de) (nu * de) = 0 := by unfold cmpInt; rw [if_neg (by omega), if_neg (by omega)]
                rw [hcv0] at QCM
                have r0 : w20.drew.cell? ⟨rb, 0, none⟩ = some (.int .i64 nu) := by rw [cell_of_row w20.drew rb 0 _ _ _ hbr]; rfl
                have r1 : w20.drew.cell? ⟨rb, 1, none⟩ = some (.int .i64 de) := by rw [cell_of_row w20.drew rb 1 _ _ _ hbr]; rfl
                have HB20 := Lib.hid (show Below w.heap.size w w20.drew from (HBW.out.trans (hb20.mono HBW.out.size)).drew)
                generalize b.ct an cn = nct at *
                clear kd20 hbr hxz hzz qz qf hcv0 haz hkn hkm hklz hlo hb20 HAXr HBRr HBW HLSX HCF2 HXE QO
                go_wp2_with fail
                refine heldStart 18 (S := fun W => W.cell? ⟨rb, 0, none⟩ = some (.int .i64 nu) ∧ W.cell? ⟨rb, 1, none⟩ = some (.int .i64 de)) (by kernel_rfl) ?_ (fun hHeld => ?_)
                · first | exact ⟨r0, r1⟩ | exact ⟨r0b, r1b⟩ | exact ⟨r0c, r1c⟩
                refine heldTake 0 (v := ?_) (by simp only [List.getElem?_toArray, List.getElem?_cons_succ, List.getElem?_cons_zero]; rfl) (by kernel_rfl) (by intro _ _ _ h; exact h) (by rfl) (by assumption) ?_ ?_
                rotate_left
                · intro W hSw; (try dsimp only at hSw); go_simp; try with_reducible rfl
                simp only [Act.put, List.setIfInBounds_toArray, List.set_cons_zero, List.set_cons_succ]
                refine heldTake 1 (v := ?_) (by simp only [List.getElem?_toArray, List.getElem?_cons_succ, List.getElem?_cons_zero]; rfl) (by kernel_rfl) (by intro _ _ _ h; exact h) (by rfl) (by assumption) ?_ ?_
                rotate_left
                · intro W hSw; (try dsimp only at hSw); go_simp; try with_reducible rfl
                simp only [Act.put, List.setIfInBounds_toArray, List.set_cons_zero, List.set_cons_succ]
                refine heldTake 2 (v := ?_) (by simp only [List.getElem?_toArray, List.getElem?_cons_succ, List.getElem?_cons_zero]; rfl) (by kernel_rfl) (by intro _ _ _ h; exact h) (by rfl) (by assumption) ?_ ?_
                rotate_left
                · intro W hSw; (try dsimp only at hSw); go_simp; try with_reducible rfl
                simp only [Act.put, List.setIfInBounds_toArray, List.set_cons_zero, List.set_cons_succ]
                refine heldTake 4 (v := ?_) (by simp only [List.getElem?_toArray, List.getElem?_cons_succ, List.getElem?_cons_zero]; rfl) (by kernel_rfl) (by intro _ _ _ h; exact h) (by rfl) (by assumption) ?_ ?_
                rotate_left
                · intro W hSw; (try dsimp only at hSw); go_simp; try with_reducible rfl
                simp only [Act.put, List.setIfInBounds_toArray, List.set_cons_zero, List.set_cons_succ]
                refine heldTake 5 (v := ?_) (by simp only [List.getElem?_toArray, List.getElem?_cons_succ, List.getElem?_cons_zero]; rfl) (by kernel_rfl) (by intro _ _ _ h; exact h) (by rfl) (by assumption) ?_ ?_
                rotate_left
                · intro W hSw; (try dsimp only at hSw); go_simp; try with_reducible rfl
                simp only [Act.put, List.setIfInBounds_toArray, List.set_cons_zero, List.set_cons_succ]
                refine heldTake 6 (v := ?_) (by simp only [List.getElem?_toArray, List.getElem?_cons_succ, List.getElem?_cons_zero]; rfl) (by kernel_rfl) (by intro _ _ _ h; exact h) (by rfl) (by assumption) ?_ ?_
                rotate_left
                · intro W hSw; (try dsimp only at hSw); go_simp; try with_reducible rfl
                simp only [Act.put, List.setIfInBounds_toArray, List.set_cons_zero, List.set_cons_succ]
                refine heldCall 3 (by simp only [List.getElem?_toArray, List.getElem?_cons_succ, List.getElem?_cons_zero]; rfl) (by kernel_rfl) (fun K hK => ?_)
                go_simp
                refine QCZ.out.mono ?_
                rintro r w21 ⟨rfl, rfl⟩
                go_wp2_with fail
                refine hK.out _ _ ?_ (fun hHeld => ?_)
                · first | exact ⟨r0, r1⟩ | exact ⟨r0b, r1b⟩ | exact ⟨r0c, r1c⟩
                clear hK K
                (try simp only [Act.put, List.setIfInBounds_toArray, List.set_cons_zero, List.set_cons_succ])
                refine heldCall 7 (by simp only [List.getElem?_toArray, List.getElem?_cons_succ, List.getElem?_cons_zero]; rfl) (by kernel_rfl) (fun K hK => ?_)
                go_simp
                refine QCX.out.mono ?_
                rintro r w21 ⟨rfl, rfl⟩
                go_wp2_with fail
                refine hK.out _ _ ?_ (fun hHeld => ?_)
                · first | exact ⟨r0, r1⟩ | exact ⟨r0b, r1b⟩ | exact ⟨r0c, r1c⟩
                clear hK K
                (try simp only [Act.put, List.setIfInBounds_toArray, List.set_cons_zero, List.set_cons_succ])
                refine heldTake 8 (v := ?_) (by simp only [List.getElem?_toArray, List.getElem?_cons_succ, List.getElem?_cons_zero]; rfl) (by kernel_rfl) (by intro _ _ _ h; exact h) (by rfl) (by assumption) ?_ ?_
                rotate_left
                · intro W hSw; (try dsimp only at hSw); go_simp; try with_reducible rfl
                simp only [Act.put, List.setIfInBounds_toArray, List.set_cons_zero, List.set_cons_succ]
                refine heldTake 9 (v := ?_) (by simp only [List.getElem?_toArray, List.getElem?_cons_succ, List.getElem?_cons_zero]; rfl) (by kernel_rfl) (by intro _ _ _ h; exact h) (by rfl) (by assumption) ?_ ?_
                rotate_left
                · intro W hSw; (try dsimp only at hSw); go_simp; try with_reducible rfl
                simp only [Act.put, List.setIfInBounds_toArray, List.set_cons_zero, List.set_cons_succ]
                refine heldTake 10 (v := ?_) (by simp only [List.getElem?_toArray, List.getElem?_cons_succ, List.getElem?_cons_zero]; rfl) (by kernel_rfl) (by intro _ _ _ h; exact h) (by rfl) (by assumption) ?_ ?_
                rotate_left
                · intro W hSw; (try dsimp only at hSw); go_simp; try with_reducible rfl
                simp only [Act.put, List.setIfInBounds_toArray, List.set_cons_zero, List.set_cons_succ]
                refine heldTake 11 (v := ?_) (by simp only [List.getElem?_toArray, List.getElem?_cons_succ, List.getElem?_cons_zero]; rfl) (by kernel_rfl) (by intro _ _ _ h; exact h) (by rfl) (by assumption) ?_ ?_
                rotate_left
                · intro W hSw; (try dsimp only at hSw); go_simp; try with_reducible rfl
                simp only [Act.put, List.setIfInBounds_toArray, List.set_cons_zero, List.set_cons_succ]
                refine heldTake 12 (v := ?_) (by simp only [List.getElem?_toArray, List.getElem?_cons_succ, List.getElem?_cons_zero]; rfl) (by kernel_rfl) (by intro _ _ _ h; exact h) (by rfl) (by assumption) ?_ ?_
                rotate_left
                · intro W hSw; (try dsimp only at hSw); go_simp; try with_reducible rfl
                simp only [Act.put, List.setIfInBounds_toArray, List.set_cons_zero, List.set_cons_succ]
                refine heldTake 14 (v := ?_) (by simp only [List.getElem?_toArray, List.getElem?_cons_succ, List.getElem?_cons_zero]; rfl) (by kernel_rfl) (by intro _ _ _ h; exact h) (by rfl) (by assumption) ?_ ?_
                rotate_left
                · intro W hSw; (try dsimp only at hSw); go_simp; try with_reducible rfl
                simp only [Act.put, List.setIfInBounds_toArray, List.set_cons_zero, List.set_cons_succ]
                refine heldCall 13 (by simp only [List.getElem?_toArray, List.getElem?_cons_succ, List.getElem?_cons_zero]; rfl) (by kernel_rfl) (fun K hK => ?_)
                go_simp
                refine QCF.out.mono ?_
                rintro r w22 ⟨rfl, hb22⟩
                have r0b : w22.cell? ⟨rb, 0, none⟩ = some (.int .i64 nu) := (hb22.cell (p := ⟨rb, 0, none⟩) (World.block_lt_of_cell? _ _ r0)).trans r0
                have r1b : w22.cell? ⟨rb, 1, none⟩ = some (.int .i64 de) := (hb22.cell (p := ⟨rb, 1, none⟩) (World.block_lt_of_cell? _ _ r1)).trans r1
                have HB22 := Lib.hid (HB20.out.trans (hb22.mono HB20.out.size))
                clear hb22
                go_wp2_with fail
                refine hK.out _ _ ?_ (fun hHeld => ?_)
                · first | exact ⟨r0, r1⟩ | exact ⟨r0b, r1b⟩ | exact ⟨r0c, r1c⟩
                clear hK K
                (try simp only [Act.put, List.setIfInBounds_toArray, List.set_cons_zero, List.set_cons_succ])
                refine heldCall 15 (by simp only [List.getElem?_toArray, List.getElem?_cons_succ, List.getElem?_cons_zero]; rfl) (by kernel_rfl) (fun K hK => ?_)
                go_simp
                refine (QCM.out _).mono ?_
                rintro r w23 ⟨rfl, hg23⟩
                have hb23 := hg23.below
                have r0c : w23.cell? ⟨rb, 0, none⟩ = some (.int .i64 nu) := (hb23.cell (p := ⟨rb, 0, none⟩) (World.block_lt_of_cell? _ _ r0b)).trans r0b
                have r1c : w23.cell? ⟨rb, 1, none⟩ = some (.int .i64 de) := (hb23.cell (p := ⟨rb, 1, none⟩) (World.block_lt_of_cell? _ _ r1b)).trans r1b
                have HB23 := Lib.hid (HB22.out.trans (hb23.mono HB22.out.size))
                clear hg23 hb23
                go_wp2_with fail
                refine hK.out _ _ ?_ (fun hHeld => ?_)
                · first | exact ⟨r0, r1⟩ | exact ⟨r0b, r1b⟩ | exact ⟨r0c, r1c⟩
                clear hK K
                (try simp only [Act.put, List.setIfInBounds_toArray, List.set_cons_zero, List.set_cons_succ])
                refine heldTake 16 (v := ?_) (by simp only [List.getElem?_toArray, List.getElem?_cons_succ, List.getElem?_cons_zero]; rfl) (by kernel_rfl) (by intro _ _ _ h; exact h) (by rfl) (by assumption) ?_ ?_
                rotate_left
                · intro W hSw; (try dsimp only at hSw); go_simp; try with_reducible rfl
                simp only [Act.put, List.setIfInBounds_toArray, List.set_cons_zero, List.set_cons_succ]
                refine heldTake 17 (v := ?_) (by simp only [List.getElem?_toArray, List.getElem?_cons_succ, List.getElem?_cons_zero]; rfl) (by kernel_rfl) (by intro _ _ _ h; exact h) (by rfl) (by assumption) ?_ ?_
                rotate_left
                · intro W hSw; (try dsimp only at hSw); go_simp; try with_reducible rfl
                simp only [Act.put, List.setIfInBounds_toArray, List.set_cons_zero, List.set_cons_succ]
                refine heldTake 18 (v := ?_) (by simp only [List.getElem?_toArray, List.getElem?_cons_succ, List.getElem?_cons_zero]; rfl) (by kernel_rfl) (by intro _ _ _ h; exact h) (by rfl) (by assumption) ?_ ?_
                rotate_left
                · intro W hSw; (try dsimp only at hSw); go_simp; try with_reducible rfl
                simp only [Act.put, List.setIfInBounds_toArray, List.set_cons_zero, List.set_cons_succ]
                refine heldDone (by kernel_rfl) ?_ _
                go_wp2_with fail
                go_ret
                exact ⟨rfl, HB23.out⟩
    · have hT3 : decide (60 < T.length) = true := by simp; omega
      have hT4 : 60 < T.length := by omega
      have hT5 : (60 : Int) < (T.length : Int) := by omega
      go_wp2_with fail
      refine (HQ.out w3 HB23.out).mono ?_
      rintro e w4 ⟨rfl, hb4⟩
      go_wp2_with fail
      go_ret
      exact ⟨rfl, HB3.out.trans (hb4.mono HB3.out.size)⟩
  · have hd : decide (n ≤ 300) = false := by simpa using h3
    rw [hd]
    clear hd
    go_wp2_with fail
    refine (HQ.out W2 (Below.refl _ _)).mono ?_
    rintro e w3 ⟨rfl, hb3⟩
    go_wp2_with fail
    refine (HQ.out w3 hb3).mono ?_
    rintro e w4 ⟨rfl, hb4⟩
    go_wp2_with fail
    go_ret
    have q := HB2.out.trans (hb3.mono HB2.out.size)
    exact ⟨rfl, q.trans (hb4.mono q.size)⟩
end Go.Proofs.YtaollcpoibgblaaDoor
