/- Contracts of the intake: Offer. -/
import Derived.Test.YthbijemihaekiaaGreatDoorIkC
namespace Go.Proofs.YthbijemihaekiaaGreatDoor
open Go.ChangeShapes Go.WideShapes Go.ChangeAt Go.RowKit
set_option linter.unusedVariables false
set_option linter.unusedSimpArgs false

set_option maxRecDepth 20000 in
set_option maxHeartbeats 1000000 in
theorem ident_any (e : EvV) (w : World) : Calls Tryz.prog 18 #[.agg #[.string e.src, .int .i64 e.num, .int .i64 e.at_, .int .i64 e.kind, .string e.person, .string e.item, .int .i64 e.value, .string e.text]] w fun r w' => r = .returned (.agg #[.string e.src, .int .i64 e.num]) ∧ Below w.heap.size w w' := by
  obtain ⟨W1, hW1⟩ : ∃ W1, W1 = (w.alloc (bxE e)).alloc (.cells #[.string ⟨#[]⟩, .int .i64 0] 66) := ⟨_, rfl⟩
  obtain ⟨h2, h1, hb, hz⟩ := alloc2N w (bxE e) (.cells #[.string ⟨#[]⟩, .int .i64 0] 66)
  rw [← hW1] at h1 h2 hb hz
  unfold bxE at h1 hW1
  have e0 : W1.cell? ⟨w.heap.size, 0, none⟩ = some (.string e.src) := by rw [cell_of_row W1 w.heap.size 0 _ _ _ h1]; rfl
  have e1 : W1.cell? ⟨w.heap.size, 1, none⟩ = some (.int .i64 e.num) := by rw [cell_of_row W1 w.heap.size 1 _ _ _ h1]; rfl
  have H2 := Lib.hid h2
  have HB := Lib.hid hb
  clear h1 h2 hb hz
  go_enter Tryz.func18, Tryz.ntmps18
  go_upto_region 1 with fail
  rw [← hW1]
  clear hW1
  go_wp2_with (refine wpList_store_row rfl 66 _ _ rfl (w.heap.size + 1) _ (by rfl) (by rfl) _ _ H2.out (by kernel_rfl) (by rfl) (by simp [Value.oneCell']) ?_)
  refine bodyPost_ret (results_cell_row rfl _ _ _ _ _ _ _ (by rfl) (setRow_heap W1 _ _ _ _ _ H2.out) Tryz.underlying66 (by rfl) (by kernel_rfl)) rfl ?_
  exact ⟨rfl, below_setRow HB.out (by omega) _⟩

theorem SetOk.of_mem {F : RowsF} {l l' : List OpD} (h : SetOk F l) (he : ∀ o, o ∈ l ↔ o ∈ l') : SetOk F l' := ⟨h.ok, fun k n => by rw [h.mem, he]⟩
def setC (x : InV) (mk : Int) (D : CkD) : InV := { x with mark := mk, D := D }
def setL (x : InV) (A : Option Addr) (c : Nat) (L : List EvV) (S : List (IdD × Bool)) : InV := { x with LA := A, Lc := c, L := L, S := S }
def inOb1 (p : Ob1) (x : InV) (b : Nat) (e : EvV) : List Ob1 := inObs x ++ [p] ++ [kOb b (bxE e)]
theorem in1_cells {p : Ob1} {w0 w : World} {B b : Nat} {x : InV} {e : EvV} {F : Nat → Nat → Prop} (h : Objs w0 w B (inOb1 p x b e) F) : w.heap[b]? = some (bxE e) ∧ w.cell? ⟨b, 0, none⟩ = some (.string e.src) ∧ w.cell? ⟨b, 2, none⟩ = some (.int .i64 e.at_) := by
  have he : w.heap[b]? = some (bxE e) := (h.get (i := 8) rfl).2
  have he2 := he
  unfold bxE at he2
  refine ⟨he, ?_, ?_⟩
  · rw [cell_of_row w b _ _ _ _ he2]; rfl
  · rw [cell_of_row w b _ _ _ _ he2]; rfl
theorem upd_clk {w0 w w' : World} {B : Nat} {x : InV} {l : List Ob1} {F : Nat → Nat → Prop} (h : Objs w0 w B (inObs x ++ l) F) {mk : Int} {D : CkD} (hc : ClkAt w' x.cb x.cm x.sl mk D) (hk : Keeps (fun k => k = x.cb ∨ k = x.cm) w w') : ∃ G, Objs w0 w' B (inObs (setC x mk D) ++ l) G := by
  have e0 := (h.get (i := 0) (o := ckOb x.cb x.cm x.sl x.mark x.D) rfl).1
  exact h.upd (ckOb x.cb x.cm x.sl mk D) (i := 0) (o := ckOb x.cb x.cm x.sl x.mark x.D) (F' := fun k => k = x.cb ∨ k = x.cm) rfl ⟨by rw [e0]; exact hk, fun k hk2 => .inl (by rw [e0]; exact hk2)⟩ ⟨rfl, hc⟩
def OfNew (p : Ob1) (w0 : World) (B : Nat) (x : InV) (E : List EvV) (e : EvV) (r : Ending) (w' : World) : Prop :=
  ∃ x' G v, r = .returned (.int .i64 v) ∧ Objs w0 w' B (inObs x' ++ [p]) G ∧ InOk x' (E ++ [e]) ∧ x'.ib = x.ib ∧ x.mark ≤ x'.mark ∧ ((v = 2 ∧ x'.L.length = x.L.length + 1 ∧ e.at_ ≤ x.mark) ∨ (v = 0 ∧ x'.L.length = x.L.length ∧ x.mark < e.at_))
set_option maxRecDepth 20000 in
set_option maxHeartbeats 4000000 in
theorem offer_any {p : Ob1} {w0 w : World} {B : Nat} {x : InV} {F : Nat → Nat → Prop} {E : List EvV} (h : Objs w0 w B (inObs x ++ [p]) F) (hok : InOk x E) (e : EvV) (he : EvOk e) (hn : 1 ≤ e.num ∧ e.num ≤ 1000) (hnew : ∀ y ∈ E, ¬ (y.src = e.src ∧ y.num = e.num)) (hE : E.length + 1 ≤ 60) (hmx : MxAt w0) (hB : 1 < B) (hkd : e.kind ≠ 14) :
    Calls Tryz.prog 8 #[.pointer (some ⟨x.ib, 0, none⟩), evVal e, .int .i64 0] w (OfNew p w0 B x E e) := by
  change Calls Tryz.prog 8 #[.pointer (some ⟨x.ib, 0, none⟩), .agg #[.string e.src, .int .i64 e.num, .int .i64 e.at_, .int .i64 e.kind, .string e.person, .string e.item, .int .i64 e.value, .string e.text], .int .i64 0] w (OfNew p w0 B x E e)
  obtain ⟨W1, hW1⟩ : ∃ W1, W1 = w.alloc (bxE e) := ⟨_, rfl⟩
  have ho : ∃ G, Objs w0 W1 B (inOb1 p x w.heap.size e) G := by
    obtain ⟨G1, o1⟩ := h.new (kOb w.heap.size (bxE e)) ((Below.refl _ w).alloc (Nat.le_refl _) (bxE e)) ⟨rfl, heap_alloc_new w _⟩ (by rintro k rfl; exact Nat.le_refl _)
    exact ⟨G1, by rw [hW1]; exact o1⟩
  obtain ⟨G, o⟩ := ho
  unfold bxE at hW1
  have i0 := (in_cells o.pre.pre).1
  have Q := Lib.hid (tick_any x.cb x.cm x.sl x.mark x.D W1 (o.get (i := 0) rfl).2 hok.ck)
  have HO := Lib.hid o
  have HOK := Lib.hid hok
  have HE := Lib.hid he
  have HNEW := Lib.hid hnew
  have HHN := Lib.hid hn
  have HMX := Lib.hid hmx
  have HIDE := Lib.hid hE
  clear h o hok he hnew hn hmx hE
  go_enter Tryz.func8, Tryz.ntmps8
  go_upto_region 1 with fail
  rw [← hW1]
  clear hW1
  go_wp2_with fail
  refine Q.out.mono ?_
  rintro r w2 ⟨rfl, hc2, hk2⟩
  obtain ⟨G2, o2⟩ := upd_clk (l := [p, kOb w.heap.size (bxE e)]) HO.out hc2 (hk2.mono (fun k _ q => .inl q))
  have o2 : Objs w0 w2 B (inOb1 p x w.heap.size e) G2 := o2
  have HO2 := Lib.hid o2
  have hbx2 := (in1_cells o2).1
  unfold bxE at hbx2
  have HBX2 := Lib.hid hbx2
  have hrf := refused_any o2.pre.pre HOK.out e HE.out HHN.out HNEW.out (HMX.out.below o2.bl hB)
  have HRF := Lib.hid (show Calls Tryz.prog 16 #[.pointer (some ⟨x.ib, 0, none⟩), .agg #[.string e.src, .int .i64 e.num, .int .i64 e.at_, .int .i64 e.kind, .string e.person, .string e.item, .int .i64 e.value, .string e.text]] w2 (RfNew w2) from hrf)
  clear hc2 hk2 o2 hbx2 hrf Q HO i0
  go_wp2_with (refine wpList_load_row rfl _ _ rfl _ (by rfl) _ _ _ _ HBX2.out Tryz.underlying41 (by rfl) (by kernel_rfl) ?_)
  refine HRF.out.mono ?_
  rintro r w3 ⟨rfl, hb3⟩
  have o3 := HO2.out.below hb3
  have HO3 := Lib.hid o3
  have i0 := (in_cells o3.pre.pre).1
  obtain ⟨-, e0, e2⟩ := in1_cells o3
  clear hb3 HO2 HBX2 HRF o3
  go_upto_region 5 with fail
  obtain ⟨n, hn, hsrc⟩ : ∃ n : Int, (n = 0 ∨ n = 1) ∧ e.src = nm 115 n := by
    rcases HE.out.2.1 with q | q
    · exact ⟨0, .inl rfl, q⟩
    · exact ⟨1, .inr rfl, q⟩
  have hhear := fun m => hear_any x.cb x.cm x.sl x.mark e.at_ x.D (w3.drewN m) n hn (((HO3.out.get (i := 0) rfl).2.next (below_drewN (Below.refl _ w3) m))) HOK.out.ck HE.out.2.2
  rw [← hsrc] at hhear
  have HHEAR := Lib.hid hhear
  clear hhear hsrc hn
  go_cut [34] (fun s34 wx => ∃ mk' D' G', s34 = .bool (!decide (x.mark < e.at_)) ∧ Objs w0 wx B (inOb1 p (setC x mk' D') w.heap.size e) G' ∧ CkInv x.sl mk' D' ∧ x.mark ≤ mk')
  case first =>
    refine heldStart 11 (S := fun W => W.cell? ⟨x.ib, 0, none⟩ = some (.pointer (some ⟨x.cb, 0, none⟩)) ∧ W.cell? ⟨w.heap.size, 0, none⟩ = some (.string e.src) ∧ W.cell? ⟨w.heap.size, 2, none⟩ = some (.int .i64 e.at_)) (by kernel_rfl) ?_ (fun hHeld => ?_)
    · first | exact ⟨i0b, e0b, e2b⟩ | exact ⟨i0, e0, e2⟩
    refine heldTake 0 (v := ?_) (by simp only [List.getElem?_toArray, List.getElem?_cons_succ, List.getElem?_cons_zero]; rfl) (by kernel_rfl) (by intro _ _ _ h; exact h) (by rfl) (by assumption) ?_ ?_
    rotate_left
    · intro W hSw; (try dsimp only at hSw); go_simp; try with_reducible rfl
    simp only [Act.put, List.setIfInBounds_toArray, List.set_cons_zero, List.set_cons_succ]
    refine heldTake 1 (v := ?_) (by simp only [List.getElem?_toArray, List.getElem?_cons_succ, List.getElem?_cons_zero]; rfl) (by kernel_rfl) (by intro _ _ _ h; exact h) (by rfl) (by assumption) ?_ ?_
    rotate_left
    · intro W hSw; (try dsimp only at hSw); go_simp; try with_reducible rfl
    simp only [Act.put, List.setIfInBounds_toArray, List.set_cons_zero, List.set_cons_succ]
    refine heldTake 2 (v := ?_) (by simp only [List.getElem?_toArray, List.getElem?_cons_succ, List.getElem?_cons_zero]; rfl) (by kernel_rfl) (by intro _ _ _ h; exact h) (by rfl) (by assumption) ?_ ?_
    rotate_left
    · intro W hSw; (try dsimp only at hSw); go_simp; try with_reducible rfl
    simp only [Act.put, List.setIfInBounds_toArray, List.set_cons_zero, List.set_cons_succ]
    refine heldTake 3 (v := ?_) (by simp only [List.getElem?_toArray, List.getElem?_cons_succ, List.getElem?_cons_zero]; rfl) (by kernel_rfl) (by intro _ _ _ h; exact h) (by rfl) (by assumption) ?_ ?_
    rotate_left
    · intro W hSw; (try dsimp only at hSw); go_simp; try with_reducible rfl
    simp only [Act.put, List.setIfInBounds_toArray, List.set_cons_zero, List.set_cons_succ]
    refine heldTake 4 (v := ?_) (by simp only [List.getElem?_toArray, List.getElem?_cons_succ, List.getElem?_cons_zero]; rfl) (by kernel_rfl) (by intro _ _ _ h; exact h) (by rfl) (by assumption) ?_ ?_
    rotate_left
    · intro W hSw; (try dsimp only at hSw); go_simp; try with_reducible rfl
    simp only [Act.put, List.setIfInBounds_toArray, List.set_cons_zero, List.set_cons_succ]
    refine heldTake 5 (v := ?_) (by simp only [List.getElem?_toArray, List.getElem?_cons_succ, List.getElem?_cons_zero]; rfl) (by kernel_rfl) (by intro _ _ _ h; exact h) (by rfl) (by assumption) ?_ ?_
    rotate_left
    · intro W hSw; (try dsimp only at hSw); go_simp; try with_reducible rfl
    simp only [Act.put, List.setIfInBounds_toArray, List.set_cons_zero, List.set_cons_succ]
    refine heldTake 6 (v := ?_) (by simp only [List.getElem?_toArray, List.getElem?_cons_succ, List.getElem?_cons_zero]; rfl) (by kernel_rfl) (by intro _ _ _ h; exact h) (by rfl) (by assumption) ?_ ?_
    rotate_left
    · intro W hSw; (try dsimp only at hSw); go_simp; try with_reducible rfl
    simp only [Act.put, List.setIfInBounds_toArray, List.set_cons_zero, List.set_cons_succ]
    refine heldTake 7 (v := ?_) (by simp only [List.getElem?_toArray, List.getElem?_cons_succ, List.getElem?_cons_zero]; rfl) (by kernel_rfl) (by intro _ _ _ h; exact h) (by rfl) (by assumption) ?_ ?_
    rotate_left
    · intro W hSw; (try dsimp only at hSw); go_simp; try with_reducible rfl
    simp only [Act.put, List.setIfInBounds_toArray, List.set_cons_zero, List.set_cons_succ]
    refine heldTake 8 (v := ?_) (by simp only [List.getElem?_toArray, List.getElem?_cons_succ, List.getElem?_cons_zero]; rfl) (by kernel_rfl) (by intro _ _ _ h; exact h) (by rfl) (by assumption) ?_ ?_
    rotate_left
    · intro W hSw; (try dsimp only at hSw); go_simp; try with_reducible rfl
    simp only [Act.put, List.setIfInBounds_toArray, List.set_cons_zero, List.set_cons_succ]
    refine heldCall 9 (by simp only [List.getElem?_toArray, List.getElem?_cons_succ, List.getElem?_cons_zero]; rfl) (by kernel_rfl) (fun K hK => ?_)
    go_simp
    refine (HHEAR.out 1).mono ?_
    rintro r w6 ⟨mk', D', rfl, hc6, hi6, hl6, -, hk6⟩
    obtain ⟨G6, o6⟩ := upd_clk (l := [p, kOb w.heap.size (bxE e)]) (HO3.out.below (below_drewN (Below.refl _ w3) 1)) hc6 hk6
    have o6 : Objs w0 w6 B (inOb1 p (setC x mk' D') w.heap.size e) G6 := o6
    have i0b := (in_cells o6.pre.pre).1
    obtain ⟨-, e0b, e2b⟩ := in1_cells o6
    have HO6 := Lib.hid o6
    have HI6 := Lib.hid hi6
    have HL6 := Lib.hid hl6
    clear o6 hc6 hi6 hl6 hk6
    go_wp2_with fail
    refine hK.out _ _ ?_ (fun hHeld => ?_)
    · first | exact ⟨i0b, e0b, e2b⟩ | exact ⟨i0, e0, e2⟩
    clear hK K
    (try simp only [Act.put, List.setIfInBounds_toArray, List.set_cons_zero, List.set_cons_succ])
    refine heldTake 10 (v := ?_) (by simp only [List.getElem?_toArray, List.getElem?_cons_succ, List.getElem?_cons_zero]; rfl) (by kernel_rfl) (by intro _ _ _ h; exact h) (by rfl) (by assumption) ?_ ?_
    rotate_left
    · intro W hSw; (try dsimp only at hSw); go_simp; try with_reducible rfl
    simp only [Act.put, List.setIfInBounds_toArray, List.set_cons_zero, List.set_cons_succ]
    refine heldDone (by kernel_rfl) ?_ _
    go_wp2_with fail
    go_meet
    case rel => exact ⟨mk', D', G6, rfl, HO6.out, HI6.out, HL6.out⟩
  case rest =>
    obtain ⟨mk', D', G', rfl, o4, hi4, hl4⟩ := hcut
    clear HHEAR i0 e0 e2
    generalize wc = w4 at *
    generalize hx2 : setC x mk' D' = x2 at *
    have hxx : x2.T = x.T ∧ x2.F = x.F ∧ x2.ib = x.ib ∧ x2.L = x.L ∧ x2.S = x.S ∧ x2.mark = mk' ∧ x2.sl = x.sl ∧ x2.D = D' := by rw [← hx2]; exact ⟨rfl, rfl, rfl, rfl, rfl, rfl, rfl, rfl⟩
    have HXX := Lib.hid hxx
    have hT60 : x.T.length + x.L.length ≤ 60 := by have := HOK.out.cnt; have := HOK.out.bd; omega
    have hbx4 := (in1_cells o4).1
    unfold bxE at hbx4
    have HBX4 := Lib.hid hbx4
    have HO4 := Lib.hid o4
    have HI4 := Lib.hid hi4
    have HL4 := Lib.hid hl4
    clear hx2 hxx hbx4 hi4 hl4 HO3
    by_cases hat : x.mark < e.at_
    · have hd : (!decide (x.mark < e.at_)) = false := by simp [hat]
      have hlF := HOK.out.had.len e.src
      rw [List.length_map] at hlF
      have htk := take_any o4.pre e (ev_src HE.out) HHN.out (by rw [HXX.out.1]; omega) (by rw [HXX.out.2.1]; omega) hkd
      rw [HXX.out.2.2.1] at htk
      have HTK := Lib.hid (show Calls Tryz.prog 19 #[.pointer (some ⟨x.ib, 0, none⟩), .agg #[.string e.src, .int .i64 e.num, .int .i64 e.at_, .int .i64 e.kind, .string e.person, .string e.item, .int .i64 e.value, .string e.text]] w4 (TkeNew p w0 B x2 e w4) from htk)
      have HAT := Lib.hid hat
      rw [hd]
      clear htk o4 hat hd hlF
      go_wp2_with (refine wpList_load_row rfl _ _ rfl _ (by rfl) _ _ _ _ HBX4.out Tryz.underlying41 (by rfl) (by kernel_rfl) ?_)
      refine HTK.out.mono ?_
      rintro r w5 ⟨x3, G5, T', A', c', rfl, o5, hx3, hl5, hm5, k, hk5⟩
      have hfin : OfNew p w0 B x E e (.returned (.int .i64 0)) w5 := by
        obtain ⟨q1, q2, q3, q4, q5, q6, q7, q8⟩ := HXX.out
        have y1 : x3.T = T' := by rw [hx3]
        have y2 : x3.F = putF x.F e.src e.num := by rw [hx3]; show putF x2.F e.src e.num = _; rw [q2]
        have y3 : x3.L = x.L := by rw [hx3]; exact q4
        have y4 : x3.S = x.S := by rw [hx3]; exact q5
        have y5 : x3.mark = mk' := by rw [hx3]; exact q6
        have y6 : x3.sl = x.sl := by rw [hx3]; exact q7
        have y7 : x3.D = D' := by rw [hx3]; exact q8
        refine ⟨x3, G5, 0, rfl, o5, ⟨?_, ?_, ?_, ?_, ?_, ?_⟩, by rw [hx3]; exact q3, by rw [y5]; exact HL4.out, .inr ⟨rfl, by rw [y3], HAT.out⟩⟩
        · rw [y5, y6, y7]; exact HI4.out
        · rw [y1, y2]
          refine (HOK.out.had.put (e.src, e.num)).of_mem (fun oo => ?_)
          simp only [hk5, q1, List.map_append, List.map_cons, List.mem_append, List.mem_cons, List.not_mem_nil, or_false]
          constructor
          · rintro (hh | hh)
            · rw [← List.take_append_drop k x.T, List.map_append, List.mem_append] at hh
              rcases hh with hh | hh
              · exact .inl hh
              · exact .inr (.inr hh)
            · exact .inr (.inl hh)
          · rintro (hh | hh | hh)
            · exact .inl (by rw [← List.take_append_drop k x.T, List.map_append, List.mem_append]; exact .inl hh)
            · exact .inr hh
            · exact .inl (by rw [← List.take_append_drop k x.T, List.map_append, List.mem_append]; exact .inr hh)
        · intro kk hkk
          rw [y4] at hkk
          obtain ⟨y, hy, hye⟩ := HOK.out.lat kk hkk
          exact ⟨y, List.mem_append.2 (.inl hy), hye⟩
        · intro y hy
          rw [y1] at hy
          rcases hm5 y hy with hy | hy
          · rw [q1] at hy; exact List.mem_append.2 (.inl (HOK.out.sub y hy))
          · exact List.mem_append.2 (.inr (by simp [hy]))
        · rw [y1, y3, hl5, q1, List.length_append]; have := HOK.out.cnt; simp; omega
        · rw [List.length_append]; exact HIDE.out
      have HF := Lib.hid hfin
      clear hfin o5 hx3 hl5 hm5 hk5
      go_wp2_with fail
      go_ret
      exact HF.out
    · have hd : (!decide (x.mark < e.at_)) = true := by simp [hat]
      have hle : e.at_ ≤ x.mark := by omega
      have HLE := Lib.hid hle
      obtain ⟨idv, hidv⟩ : ∃ idv : IdD, idv = (e.src, e.num) := ⟨_, rfl⟩
      have hidok : idOk (e.src, e.num) := ⟨ev_src HE.out, by have := HHN.out; omega, by have := HHN.out; omega⟩
      have hget : mget x2.S (e.src, e.num) = none := by
        rw [HXX.out.2.2.2.2.1]
        cases hg : mget x.S (e.src, e.num) with
        | none => rfl
        | some b =>
          obtain ⟨y, hy, hye⟩ := HOK.out.lat (e.src, e.num) (by rw [hg]; rfl)
          injection hye with e1 e2
          exact absurd ⟨e1, e2⟩ (HNEW.out y hy)
      rw [hd]
      clear hd hat hle
      have HID := Lib.hid (ident_any e w4)
      go_wp2_with (refine wpList_load_row rfl _ _ rfl _ (by rfl) _ _ _ _ HBX4.out Tryz.underlying41 (by rfl) (by kernel_rfl) ?_)
      refine HID.out.mono ?_
      rintro r w5 ⟨rfl, hb5⟩
      have o5 := o4.below hb5
      obtain ⟨W6, hW6⟩ : ∃ W6, W6 = w5.alloc (.cells #[.string e.src, .int .i64 e.num] 66) := ⟨_, rfl⟩
      have ho6 : ∃ G, Objs w0 W6 B (inOb1 p x2 w.heap.size e ++ [kOb w5.heap.size (.cells #[.string e.src, .int .i64 e.num] 66)]) G := by
        obtain ⟨G1, o1⟩ := o5.new (kOb w5.heap.size (.cells #[.string e.src, .int .i64 e.num] 66)) ((Below.refl _ w5).alloc (Nat.le_refl _) (.cells #[.string e.src, .int .i64 e.num] 66)) ⟨rfl, heap_alloc_new w5 _⟩ (by rintro k rfl; exact Nat.le_refl _)
        exact ⟨G1, by rw [hW6]; exact o1⟩
      obtain ⟨G6, o6⟩ := ho6
      clear o4 o5 hb5 HID HBX4 HO4
      go_upto_region 7 with (refine wpList_store_new rfl 66 _ _ rfl _ _ _ _ (by rfl) (by rfl) (by kernel_rfl) (by rfl) (by simp [Value.oneCell']) (by simp) ?_)
      rw [← hW6]
      clear hW6
      simp only [Act.put]
      generalize w5.heap.size = db at *
      have hib4 := (in_cells o6.pre.pre.pre).2.2.2.2.1
      rw [HXX.out.2.2.1] at hib4
      have hdb : W6.heap[db]? = some (.cells #[.string e.src, .int .i64 e.num] 66 (0, 0)) := (o6.get (i := 9) rfl).2
      have hlm : MapIs W6 idKf boolVf idOk x2.lb x2.S := (o6.get (i := 2) rfl).2
      have hlo : (Instr.lookup 57 (.map (some x2.lb)) (.agg #[.string e.src, .int .i64 e.num]) false).run Tryz.prog W6 = .ok (.bool false) W6 := by
        have := hlm.look (x := (e.src, e.num)) idKey Tryz.underlying57 zero_bool hidok
        rw [hget] at this
        exact this
      have hloD : (Instr.lookup 57 (.map (some x2.lb)) (.agg #[.string e.src, .int .i64 e.num]) false).run Tryz.prog W6.drew = .ok (.bool false) W6.drew := by
        have := hlm.drew.look (x := (e.src, e.num)) idKey Tryz.underlying57 zero_bool hidok
        rw [hget] at this
        exact this
      have HDB := Lib.hid hdb
      have HGET := Lib.hid hget
      have HIDOK := Lib.hid hidok
      clear hdb hlm hget
      go_cut [43] (fun s43 wx => s43 = .bool true ∧ ∃ q, wx = W6.drewN q)
      case first =>
        refine heldStart 7 (S := fun W => W.cell? ⟨x.ib, 4, none⟩ = some (.map (some x2.lb)) ∧ (Instr.lookup 57 (.map (some x2.lb)) (.agg #[.string e.src, .int .i64 e.num]) false).run Tryz.prog W = .ok (.bool false) W) (by kernel_rfl) ?_ (fun hHeld => ?_)
        · first | exact ⟨hib4, hloD⟩ | exact ⟨hib4, hlo⟩
        refine heldTake 0 (v := ?_) (by simp only [List.getElem?_toArray, List.getElem?_cons_succ, List.getElem?_cons_zero]; rfl) (by kernel_rfl) (by intro _ _ _ h; exact h) (by rfl) (by assumption) ?_ ?_
        rotate_left
        · intro W hSw; (try dsimp only at hSw); go_simp; try with_reducible rfl
        simp only [Act.put, List.setIfInBounds_toArray, List.set_cons_zero, List.set_cons_succ]
        refine heldTake 1 (v := ?_) (by simp only [List.getElem?_toArray, List.getElem?_cons_succ, List.getElem?_cons_zero]; rfl) (by kernel_rfl) (by intro _ _ _ h; exact h) (by rfl) (by assumption) ?_ ?_
        rotate_left
        · intro W hSw; (try dsimp only at hSw); go_simp; try with_reducible rfl
        simp only [Act.put, List.setIfInBounds_toArray, List.set_cons_zero, List.set_cons_succ]
        refine heldTake 2 (v := ?_) (by simp only [List.getElem?_toArray, List.getElem?_cons_succ, List.getElem?_cons_zero]; rfl) (by kernel_rfl) (by intro _ _ _ h; exact h) (by rfl) (by assumption) ?_ ?_
        rotate_left
        · intro W hSw; (try dsimp only at hSw); go_simp; try with_reducible rfl
        simp only [Act.put, List.setIfInBounds_toArray, List.set_cons_zero, List.set_cons_succ]
        refine heldTake 3 (v := ?_) (by simp only [List.getElem?_toArray, List.getElem?_cons_succ, List.getElem?_cons_zero]; rfl) (by kernel_rfl) (by intro _ _ _ h; exact h) (by rfl) (by assumption) ?_ ?_
        rotate_left
        · intro W hSw; (try dsimp only at hSw); go_simp; try with_reducible rfl
        simp only [Act.put, List.setIfInBounds_toArray, List.set_cons_zero, List.set_cons_succ]
        refine heldCall 4 (by simp only [List.getElem?_toArray, List.getElem?_cons_succ, List.getElem?_cons_zero]; rfl) (by kernel_rfl) (fun K hK => ?_)
        refine wp_load_row 66 _ rfl db (by rfl) _ _ _ _ HDB.out Tryz.underlying66 (by rfl) (by kernel_rfl) ?_
        refine hK.out _ _ ?_ (fun hHeld => ?_)
        · first | exact ⟨hib4, hloD⟩ | exact ⟨hib4, hlo⟩
        clear hK K
        (try simp only [Act.put, List.setIfInBounds_toArray, List.set_cons_zero, List.set_cons_succ])
        refine heldTake 5 (v := ?_) (by simp only [List.getElem?_toArray, List.getElem?_cons_succ, List.getElem?_cons_zero]; rfl) (by kernel_rfl) (by intro _ _ _ h; exact h) (by rfl) (by assumption) ?_ ?_
        rotate_left
        · intro W hSw; (try dsimp only at hSw); go_simp; try with_reducible rfl
        simp only [Act.put, List.setIfInBounds_toArray, List.set_cons_zero, List.set_cons_succ]
        refine heldTake 6 (v := ?_) (by simp only [List.getElem?_toArray, List.getElem?_cons_succ, List.getElem?_cons_zero]; rfl) (by kernel_rfl) (by intro _ _ _ h; exact h) (by rfl) (by assumption) ?_ ?_
        rotate_left
        · intro W hSw; (try dsimp only at hSw); go_simp; try with_reducible rfl
        simp only [Act.put, List.setIfInBounds_toArray, List.set_cons_zero, List.set_cons_succ]
        refine heldDone (by kernel_rfl) ?_ _
        go_wp2_with fail
        go_meet
        case rel => exact ⟨rfl, 1, rfl⟩
      case rest =>
        obtain ⟨rfl, q, hq⟩ := hcut
        have o7 := o6.below (w' := wc) (by rw [hq]; exact below_drewN (Below.refl _ _) q)
        clear hq hib4 hlo hloD HDB o6
        generalize wc = W7 at *
        have hib4 := (in_cells o7.pre.pre.pre).2.2.2.2.1
        rw [HXX.out.2.2.1] at hib4
        have hdb : W7.heap[db]? = some (.cells #[.string e.src, .int .i64 e.num] 66 (0, 0)) := (o7.get (i := 9) rfl).2
        have hlm : MapIs W7 idKf boolVf idOk x2.lb x2.S := (o7.get (i := 2) rfl).2
        obtain ⟨w8, hrun, hm8, hk8, hz8⟩ := hlm.drew.put (x := (e.src, e.num)) idKey Tryz.underlying57 HIDOK.out true
        change (Instr.mapUpdate 57 (.map (some x2.lb)) (.agg #[.string e.src, .int .i64 e.num]) (.bool true)).run Tryz.prog W7.drew = .ok () w8 at hrun
        have hk8b : Keeps (fun k => k = x2.lb) W7 w8 := ⟨hk8.os, hk8.tape, hk8.output, hk8.size, hk8.block⟩
        have e2 := (o7.get (i := 2) rfl).1
        obtain ⟨G8, o8⟩ := o7.upd (mapOb idKf boolVf idOk x2.lb (mput x2.S (e.src, e.num) true)) (i := 2) (F' := fun k => k = x2.lb) rfl ⟨by rw [e2]; exact hk8b, fun k hk => .inl (by rw [e2]; exact hk)⟩ ⟨rfl, hm8⟩
        have o8 : Objs w0 w8 B (inOb1 p (setL x2 x2.LA x2.Lc x2.L (mput x2.S (e.src, e.num) true)) w.heap.size e ++ [kOb db (.cells #[.string e.src, .int .i64 e.num] 66)]) G8 := o8
        have HDB := Lib.hid hdb
        have HO8 := Lib.hid o8
        have hib4d : W7.drew.cell? ⟨x.ib, 4, none⟩ = some (.map (some x2.lb)) := hib4
        clear hdb hlm hm8 hk8 hk8b hz8 o7 o8
        go_upto_region 8 with fail
        go_cut [44] (fun s44 wx => wx = w8)
        case first =>
          refine heldStart 5 (S := fun W => W.cell? ⟨x.ib, 4, none⟩ = some (.map (some x2.lb))) (by kernel_rfl) ?_ (fun hHeld => ?_)
          · first | with_reducible exact hib4 | with_reducible exact hib4d
          refine heldTake 0 (v := ?_) (by simp only [List.getElem?_toArray, List.getElem?_cons_succ, List.getElem?_cons_zero]; rfl) (by kernel_rfl) (by intro _ _ _ h; exact h) (by rfl) (by assumption) ?_ ?_
          rotate_left
          · intro W hSw; (try dsimp only at hSw); go_simp; try with_reducible rfl
          simp only [Act.put, List.setIfInBounds_toArray, List.set_cons_zero, List.set_cons_succ]
          refine heldTake 1 (v := ?_) (by simp only [List.getElem?_toArray, List.getElem?_cons_succ, List.getElem?_cons_zero]; rfl) (by kernel_rfl) (by intro _ _ _ h; exact h) (by rfl) (by assumption) ?_ ?_
          rotate_left
          · intro W hSw; (try dsimp only at hSw); go_simp; try with_reducible rfl
          simp only [Act.put, List.setIfInBounds_toArray, List.set_cons_zero, List.set_cons_succ]
          refine heldTake 2 (v := ?_) (by simp only [List.getElem?_toArray, List.getElem?_cons_succ, List.getElem?_cons_zero]; rfl) (by kernel_rfl) (by intro _ _ _ h; exact h) (by rfl) (by assumption) ?_ ?_
          rotate_left
          · intro W hSw; (try dsimp only at hSw); go_simp; try with_reducible rfl
          simp only [Act.put, List.setIfInBounds_toArray, List.set_cons_zero, List.set_cons_succ]
          refine heldTake 3 (v := ?_) (by simp only [List.getElem?_toArray, List.getElem?_cons_succ, List.getElem?_cons_zero]; rfl) (by kernel_rfl) (by intro _ _ _ h; exact h) (by rfl) (by assumption) ?_ ?_
          rotate_left
          · intro W hSw; (try dsimp only at hSw); go_simp; try with_reducible rfl
          simp only [Act.put, List.setIfInBounds_toArray, List.set_cons_zero, List.set_cons_succ]
          refine heldCall 4 (by simp only [List.getElem?_toArray, List.getElem?_cons_succ, List.getElem?_cons_zero]; rfl) (by kernel_rfl) (fun K hK => ?_)
          refine wp_load_row 66 _ rfl db (by rfl) _ _ _ _ HDB.out Tryz.underlying66 (by rfl) (by kernel_rfl) ?_
          refine hK.out _ _ ?_ (fun hHeld => ?_)
          · first | with_reducible exact hib4 | with_reducible exact hib4d
          clear hK K
          (try simp only [Act.put, List.setIfInBounds_toArray, List.set_cons_zero, List.set_cons_succ])
          refine heldLast 5 (by simp only [List.getElem?_toArray, List.getElem?_cons_succ, List.getElem?_cons_zero]; rfl) (by kernel_rfl) rfl (fun K hK => ?_)
          go_simp
          refine hK.out _ _ ?_
          clear hK K
          (try simp only [Act.put, List.setIfInBounds_toArray, List.set_cons_zero, List.set_cons_succ])
          refine heldDone (by kernel_rfl) ?_ _
          go_wp2_with fail
          go_meet
          case rel => exact rfl
        case rest =>
          obtain rfl := hcut
          clear hrun hib4 hib4d HDB
          generalize hx3 : setL x2 x2.LA x2.Lc x2.L (mput x2.S (e.src, e.num) true) = x3 at *
          have hyy : x3.T = x.T ∧ x3.F = x.F ∧ x3.ib = x.ib ∧ x3.L = x.L ∧ x3.S = mput x.S (e.src, e.num) true ∧ x3.mark = mk' ∧ x3.sl = x.sl ∧ x3.D = D' := by
            obtain ⟨q1, q2, q3, q4, q5, q6, q7, q8⟩ := HXX.out
            rw [← hx3]
            exact ⟨q1, q2, q3, q4, by show mput x2.S _ _ = _; rw [q5], q6, q7, q8⟩
          have HYY := Lib.hid hyy
          clear hx3 hyy HXX HGET
          have o9 := HO8.out
          generalize wc = W9 at *
          have i3 := (in_cells o9.pre.pre.pre).2.2.2.1
          have hib9 := in_blk o9.pre.pre.pre
          rw [HYY.out.2.2.1] at i3 hib9
          unfold inBlk at hib9
          have hbx := (in1_cells o9.pre).1
          unfold bxE at hbx
          have HBX := Lib.hid hbx
          have i3d : W9.drew.cell? ⟨x.ib, 3, none⟩ = some (.slice x3.LA x3.L.length x3.Lc) := i3
          have hrowD : W9.drew.ownsRow 0 41 8 (.slice x3.LA x3.L.length x3.Lc) x3.L.length (evsCells x3.L) := (Keeps.ofBelow ((Below.refl _ W9).drew) (fun _ => False)).own (o9.get (i := 6) rfl).2 (fun _ _ q => q)
          have HROW := Lib.hid hrowD
          have HIB9 := Lib.hid hib9
          have HO9 := Lib.hid o9
          have hL60 : x3.L.length ≤ 60 := by rw [HYY.out.2.2.2.1]; omega
          clear hbx hrowD o9 hib9 HO8
          go_upto_region 9 with fail
          go_cut [49] (fun s49 wx => ∃ A' c' G', Objs w0 wx B (inObs (setL x3 A' c' (x3.L ++ [e]) x3.S) ++ [p]) G')
          case first =>
            refine heldStart 10 (S := fun W => W.cell? ⟨x.ib, 3, none⟩ = some (.slice x3.LA x3.L.length x3.Lc)) (by kernel_rfl) ?_ (fun hHeld => ?_)
            · first | exact i3b | with_reducible exact i3 | with_reducible exact i3d | exact (World.cell?_alloc_lt W9 _ ⟨x.ib, 3, none⟩ (World.block_lt_of_cell? _ _ i3)).trans i3
            refine heldTake 0 (v := ?_) (by simp only [List.getElem?_toArray, List.getElem?_cons_succ, List.getElem?_cons_zero]; rfl) (by kernel_rfl) (by intro _ _ _ h; exact h) (by rfl) (by assumption) ?_ ?_
            rotate_left
            · intro W hSw; (try dsimp only at hSw); go_simp; try with_reducible rfl
            simp only [Act.put, List.setIfInBounds_toArray, List.set_cons_zero, List.set_cons_succ]
            refine heldTake 1 (v := ?_) (by simp only [List.getElem?_toArray, List.getElem?_cons_succ, List.getElem?_cons_zero]; rfl) (by kernel_rfl) (by intro _ _ _ h; exact h) (by rfl) (by assumption) ?_ ?_
            rotate_left
            · intro W hSw; (try dsimp only at hSw); go_simp; try with_reducible rfl
            simp only [Act.put, List.setIfInBounds_toArray, List.set_cons_zero, List.set_cons_succ]
            refine heldTake 2 (v := ?_) (by simp only [List.getElem?_toArray, List.getElem?_cons_succ, List.getElem?_cons_zero]; rfl) (by kernel_rfl) (by intro _ _ _ h; exact h) (by rfl) (by assumption) ?_ ?_
            rotate_left
            · intro W hSw; (try dsimp only at hSw); go_simp; try with_reducible rfl
            simp only [Act.put, List.setIfInBounds_toArray, List.set_cons_zero, List.set_cons_succ]
            refine heldTake 3 (v := ?_) (by simp only [List.getElem?_toArray, List.getElem?_cons_succ, List.getElem?_cons_zero]; rfl) (by kernel_rfl) (by intro _ _ _ h; exact h) (by rfl) (by assumption) ?_ ?_
            rotate_left
            · intro W hSw; (try dsimp only at hSw); go_simp; try with_reducible rfl
            simp only [Act.put, List.setIfInBounds_toArray, List.set_cons_zero, List.set_cons_succ]
            refine heldTake 4 (v := ?_) (by simp only [List.getElem?_toArray, List.getElem?_cons_succ, List.getElem?_cons_zero]; rfl) (by kernel_rfl) (by intro _ _ _ h; exact h) (by rfl) (by assumption) ?_ ?_
            rotate_left
            · intro W hSw; (try dsimp only at hSw); go_simp; try with_reducible rfl
            simp only [Act.put, List.setIfInBounds_toArray, List.set_cons_zero, List.set_cons_succ]
            refine heldCall 5 (by simp only [List.getElem?_toArray, List.getElem?_cons_succ, List.getElem?_cons_zero]; rfl) (by kernel_rfl) (fun K hK => ?_)
            refine wp_load_row 41 _ rfl w.heap.size (by rfl) _ _ _ _ HBX.out Tryz.underlying41 (by rfl) (by kernel_rfl) ?_
            refine hK.out _ _ ?_ (fun hHeld => ?_)
            · first | exact i3b | with_reducible exact i3 | with_reducible exact i3d | exact (World.cell?_alloc_lt W9 _ ⟨x.ib, 3, none⟩ (World.block_lt_of_cell? _ _ i3)).trans i3
            clear hK K
            (try simp only [Act.put, List.setIfInBounds_toArray, List.set_cons_zero, List.set_cons_succ])
            refine heldCall 6 (by simp only [List.getElem?_toArray, List.getElem?_cons_succ, List.getElem?_cons_zero]; rfl) (by kernel_rfl) (fun K hK => ?_)
            go_wp2_with fail
            refine hK.out _ _ ?_ (fun hHeld => ?_)
            · first | exact i3b | with_reducible exact i3 | with_reducible exact i3d | exact (World.cell?_alloc_lt W9 _ ⟨x.ib, 3, none⟩ (World.block_lt_of_cell? _ _ i3)).trans i3
            clear hK K
            (try simp only [Act.put, List.setIfInBounds_toArray, List.set_cons_zero, List.set_cons_succ])
            refine heldCall 7 (by simp only [List.getElem?_toArray, List.getElem?_cons_succ, List.getElem?_cons_zero]; rfl) (by kernel_rfl) (fun K hK => ?_)
            refine wp_append_one W9.drew (.tmp 53) (.tmp 55) _ rfl 0 41 _ 8 96 Tryz.underlying23 ev_info rfl (by decide) x3.LA x3.L.length x3.Lc _ rfl HROW.out [Value.string e.src, .int .i64 e.num, .int .i64 e.at_, .int .i64 e.kind, .string e.person, .string e.item, .int .i64 e.value, .string e.text] rfl rfl (evCells_one e) (by omega) (by unfold maxLen; omega) (Nat.zero_le _) ?_
            intro A' c' w7 hown7 hg7 hb7 hloc
            have e6 := (HO9.out.get (i := 6) rfl).1
            obtain ⟨G7, o7⟩ := HO9.out.upd (rowOb A' c' (x3.L ++ [e])) (i := 6) (F' := fun k => (Value.slice A' (x3.L ++ [e]).length c').ownBlock = some k) (w' := w7) rfl (by
              refine ⟨⟨hg7.os, hg7.tape, hg7.output, hg7.size, fun k hk hn => hg7.block k hk (fun q => hn (by rw [e6]; exact q.symm))⟩, fun k hk => ?_⟩
              rcases hloc with hloc | hloc
              · left
                rw [e6]
                have : (Value.slice A' (x3.L.length + 1) c').ownBlock = (Value.slice A' (x3.L ++ [e]).length c').ownBlock := by cases A' <;> rfl
                exact hloc.symm.trans (this.trans hk)
              · right
                have : (Value.slice A' (x3.L.length + 1) c').ownBlock = (Value.slice A' (x3.L ++ [e]).length c').ownBlock := by cases A' <;> rfl
                have q := (hloc.symm.trans (this.trans hk))
                injection q with q
                have : W9.drew.heap.size = W9.heap.size := rfl
                omega) ⟨rfl, by rw [evsCells_snoc, List.length_append]; exact hown7⟩
            have hib7 : w7.heap[x3.ib]? = some (inBlk x3) := (o7.get (i := 4) rfl).2
            unfold inBlk at hib7
            rw [HYY.out.2.2.1] at hib7
            have i3b : w7.cell? ⟨x.ib, 3, none⟩ = some (.slice x3.LA x3.L.length x3.Lc) := by rw [cell_of_row w7 x.ib 3 _ _ _ hib7]; rfl
            have fr7 : w7.frozen? ⟨x.ib, 3, none⟩ = false := frozen_block hib7 _
            have HO7 := Lib.hid o7
            have HIB7 := Lib.hid hib7
            clear o7 hib7 hown7 hg7 hb7 hloc
            refine hK.out _ _ ?_ (fun hHeld => ?_)
            · first | exact i3b | with_reducible exact i3 | with_reducible exact i3d | exact (World.cell?_alloc_lt W9 _ ⟨x.ib, 3, none⟩ (World.block_lt_of_cell? _ _ i3)).trans i3
            clear hK K
            (try simp only [Act.put, List.setIfInBounds_toArray, List.set_cons_zero, List.set_cons_succ])
            refine heldTake 8 (v := ?_) (by simp only [List.getElem?_toArray, List.getElem?_cons_succ, List.getElem?_cons_zero]; rfl) (by kernel_rfl) (by intro _ _ _ h; exact h) (by rfl) (by assumption) ?_ ?_
            rotate_left
            · intro W hSw; (try dsimp only at hSw); go_simp; try with_reducible rfl
            simp only [Act.put, List.setIfInBounds_toArray, List.set_cons_zero, List.set_cons_succ]
            refine heldTake 9 (v := ?_) (by simp only [List.getElem?_toArray, List.getElem?_cons_succ, List.getElem?_cons_zero]; rfl) (by kernel_rfl) (by intro _ _ _ h; exact h) (by rfl) (by assumption) ?_ ?_
            rotate_left
            · intro W hSw; (try dsimp only at hSw); go_simp; try with_reducible rfl
            simp only [Act.put, List.setIfInBounds_toArray, List.set_cons_zero, List.set_cons_succ]
            refine heldLast 10 (by simp only [List.getElem?_toArray, List.getElem?_cons_succ, List.getElem?_cons_zero]; rfl) (by kernel_rfl) rfl (fun K hK => ?_)
            go_simp
            refine hK.out _ _ ?_
            clear hK K
            (try simp only [Act.put, List.setIfInBounds_toArray, List.set_cons_zero, List.set_cons_succ])
            refine heldDone (by kernel_rfl) ?_ _
            go_wp2_with fail
            go_meet
            case rel =>
              have e4 := (HO7.out.get (i := 4) rfl).1
              obtain ⟨G8, o8⟩ := HO7.out.upd (kOb x3.ib (inBlk (setL x3 A' c' (x3.L ++ [e]) x3.S))) (i := 4) (F' := fun q => q = x3.ib) (w' := w7.setCell ⟨x.ib, 3, none⟩ (.slice A' (x3.L.length + 1) c')) rfl (by
                refine ⟨?_, fun q hq => .inl (by rw [e4]; exact hq)⟩
                rw [e4]
                exact (Keeps.refl (fun q => q = x3.ib) w7).setCell (p := ⟨x.ib, 3, none⟩) (.inr HYY.out.2.2.1.symm) _) ⟨rfl, by
                have h1 := setCell_blkC HIB7.out 3 (.slice A' (x3.L.length + 1) c')
                rw [HYY.out.2.2.1]
                have h2 : (x3.L ++ [e]).length = x3.L.length + 1 := by rw [List.length_append]; rfl
                unfold inBlk setL
                simp only [h2]
                exact h1⟩
              exact ⟨A', c', G8, o8.pre.pre⟩
          case rest =>
            obtain ⟨A', c', G', o10⟩ := hcut
            have hfin : OfNew p w0 B x E e (.returned (.int .i64 2)) wc := by
              obtain ⟨q1, q2, q3, q4, q5, q6, q7, q8⟩ := HYY.out
              refine ⟨setL x3 A' c' (x3.L ++ [e]) x3.S, G', 2, rfl, o10, ⟨?_, ?_, ?_, ?_, ?_, ?_⟩, q3, ?_, .inl ⟨rfl, ?_, HLE.out⟩⟩
              · show CkInv x3.sl x3.mark x3.D
                rw [q6, q7, q8]; exact HI4.out
              · show SetOk x3.F (x3.T.map _)
                rw [q1, q2]; exact HOK.out.had
              · intro kk hkk
                have hkk : (mget x3.S kk).isSome = true := hkk
                rw [q5, mget_mput] at hkk
                by_cases q : kk = (e.src, e.num)
                · exact ⟨e, List.mem_append.2 (.inr (by simp)), q.symm⟩
                · rw [if_neg q] at hkk
                  obtain ⟨y, hy, hye⟩ := HOK.out.lat kk hkk
                  exact ⟨y, List.mem_append.2 (.inl hy), hye⟩
              · intro y hy
                have hy : y ∈ x3.T := hy
                rw [q1] at hy
                exact List.mem_append.2 (.inl (HOK.out.sub y hy))
              · show x3.T.length + (x3.L ++ [e]).length = _
                rw [q1, List.length_append, List.length_append, q4]
                have := HOK.out.cnt
                simp
                omega
              · rw [List.length_append]; exact HIDE.out
              · show x.mark ≤ x3.mark
                rw [q6]; exact HL4.out
              · show (x3.L ++ [e]).length = _
                rw [List.length_append, q4]; rfl
            have HF := Lib.hid hfin
            clear hfin o10 HO9 HIB9 HROW HBX i3 i3d
            go_wp2_with fail
            go_ret
            exact HF.out
end Go.Proofs.YthbijemihaekiaaGreatDoor
