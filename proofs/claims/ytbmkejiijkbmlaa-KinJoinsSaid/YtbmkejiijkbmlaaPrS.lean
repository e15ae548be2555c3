/- Contract of (*pairs.Pairs).Merge: into nothing, of another one, of itself. -/
import Derived.Test.YtbmkejiijkbmlaaPrR
import Derived.Test.YtbmkejiijkbmlaaPrEq
import Derived.LaidEqlPtr
namespace Go.Proofs.Ytbmkejiijkbmlaa
open Go.ChangeShapes Go.WideShapes Go.ChangeAt Go.RowKit Go.Shelf Go.Lib Go.Sort Go.Proofs
set_option linter.unusedVariables false
set_option linter.unusedSimpArgs false

theorem tab_len {w : World} {b : Nat} {l : CntL} (h : MapIs w strKf intVf strOk b l) (ty : TypeId) : (Builtin.len_ #[59] ty #[.map (some b)]).run Try.prog w = .ok (.int .i64 (List.length l)) w := h.len (P := Try.prog) Try.underlying59 (ty := ty)

theorem size_P : (Try.prog.info? 64).map (·.size) = some 2 := by kernel_rfl
theorem size_T : (Try.prog.info? 62).map (·.size) = some 2 := by kernel_rfl
theorem under_P : Try.prog.underlying 25 = some (.pointer 64) := by kernel_rfl
theorem under_T : Try.prog.underlying 52 = some (.pointer 62) := by kernel_rfl
theorem eql_pp {w : World} {pb ob tb ot : Nat} {sh so : Bool} (h : PAt w pb tb sh) (ho : PAt w ob ot so) (hne : pb ≠ ob) : (binOp .eql 25 (.pointer (some ⟨pb, 0, none⟩)) (.pointer (some ⟨ob, 0, none⟩))).run Try.prog w = .ok (.bool false) w := by
  obtain ⟨j, hj, hjs⟩ := Option.map_eq_some_iff.1 size_P
  exact run_eql_ptr_other w under_P hj (by rw [hjs]; decide) (fun e => hne (by injection e)) h ho
theorem eql_same (w : World) (a : Addr) : (binOp .eql 25 (.pointer (some a)) (.pointer (some a))).run Try.prog w = .ok (.bool true) w := by
  obtain ⟨j, hj, hjs⟩ := Option.map_eq_some_iff.1 size_P
  exact run_eql_ptr_same w a under_P hj
theorem eql_tab {w : World} {tb ot sb cb sb' cb' : Nat} {S S' : CntL} {C C' : RowsL} {R R' : Nat → CntL} (h : TabAt w tb sb cb S C R) (ho : TabAt w ot sb' cb' S' C' R') (hne : tb ≠ ot) : (binOp .eql 52 (.pointer (some ⟨tb, 0, none⟩)) (.pointer (some ⟨ot, 0, none⟩))).run Try.prog w = .ok (.bool false) w := by
  obtain ⟨j, hj, hjs⟩ := Option.map_eq_some_iff.1 size_T
  exact run_eql_ptr_other w under_T hj (by rw [hjs]; decide) (fun e => hne (by injection e)) h.blk ho.blk
theorem PAt.set_other {w : World} {pb tb ob ot : Nat} {sh so : Bool} (h : PAt w pb tb sh) (ho : PAt w ob ot so) (hne : pb ≠ ob) :
    PAt (((w.setCell ⟨pb, 0, none⟩ (.pointer (some ⟨ot, 0, none⟩))).setCell ⟨pb, 1, none⟩ (.bool true)).setCell ⟨ob, 1, none⟩ (.bool true)) pb ot true ∧ PAt (((w.setCell ⟨pb, 0, none⟩ (.pointer (some ⟨ot, 0, none⟩))).setCell ⟨pb, 1, none⟩ (.bool true)).setCell ⟨ob, 1, none⟩ (.bool true)) ob ot true ∧ Keeps (fun k => k = pb ∨ k = ob) w (((w.setCell ⟨pb, 0, none⟩ (.pointer (some ⟨ot, 0, none⟩))).setCell ⟨pb, 1, none⟩ (.bool true)).setCell ⟨ob, 1, none⟩ (.bool true)) := by
  have k1 := PAt.set_keeps w pb (.pointer (some ⟨ot, 0, none⟩)) (.bool true)
  have h1 := h.set ot true
  have h2 := ho.keep k1 (fun e => hne e.symm)
  have k2 : ∀ W : World, Keeps (fun k => k = ob) W (W.setCell ⟨ob, 1, none⟩ (.bool true)) := fun W => (Keeps.refl (fun k => k = ob) W).setCell (p := ⟨ob, 1, none⟩) (.inr rfl) _
  exact ⟨h1.keep (k2 _) hne, h2.set1 true, (k1.mono (fun _ _ e => .inl e)).trans (k2 _) (fun _ _ e => .inr e)⟩
theorem PAt.set_self {w : World} {pb tb : Nat} {sh : Bool} (h : PAt w pb tb sh) (ot : Nat) :
    PAt (((w.setCell ⟨pb, 0, none⟩ (.pointer (some ⟨ot, 0, none⟩))).setCell ⟨pb, 1, none⟩ (.bool true)).setCell ⟨pb, 1, none⟩ (.bool true)) pb ot true ∧ Keeps (fun k => k = pb) w (((w.setCell ⟨pb, 0, none⟩ (.pointer (some ⟨ot, 0, none⟩))).setCell ⟨pb, 1, none⟩ (.bool true)).setCell ⟨pb, 1, none⟩ (.bool true)) :=
  ⟨(h.set ot true).set1 true, (PAt.set_keeps w pb (.pointer (some ⟨ot, 0, none⟩)) (.bool true)).setCell (p := ⟨pb, 1, none⟩) (.inr rfl) _⟩

set_option maxRecDepth 20000 in
set_option maxHeartbeats 2000000 in
theorem merge_empty (pb tb : Nat) (sh : Bool) (G : Nat → Prop) (f : ByteArray → Int) (g : ByteArray → ByteArray → Int) (ob ot : Nat) (so : Bool) (w : World) (h : PAt w pb tb sh) (ht : TabObj w tb G f g) (hf : ∀ a, f a = 0) (ho : PAt w ob ot so) (hne : pb ≠ ob) :
    Calls Try.prog 16 #[.pointer (some ⟨pb, 0, none⟩), .pointer (some ⟨ob, 0, none⟩)] w fun e w' => e = .returned (.tuple #[]) ∧ PAt w' pb ot true ∧ PAt w' ob ot true ∧ Keeps (fun k => k = pb ∨ k = ob) w w' := by
  obtain ⟨sb, cb, S, C, R, hD, hI, -⟩ := ht
  obtain ⟨c1, c2⟩ := h.cells
  obtain ⟨d1, d2⟩ := hD.cells
  obtain ⟨e1, e2⟩ := ho.cells
  have hS := hI.empty_of hf
  have hln := fun ty => tab_len hD.ones ty
  rw [hS] at hln
  simp only [List.length_nil] at hln
  have z1 := h.free 0
  have z2 := h.free 1
  have z3 := ho.free 1
  have hPp := h.set_other ho hne
  have HP := Lib.hid hPp
  clear hPp h ho hD hI hS
  go_enter Try.func16, Try.ntmps16
  go_wp2
  (try simp only [Exit.inBlock, Exit.then])
  refine bodyPost_ret (results_none rfl _ _ _) rfl ?_
  exact ⟨rfl, HP.out⟩

set_option maxRecDepth 20000 in
set_option maxHeartbeats 2000000 in
theorem merge_empty_self (pb tb : Nat) (sh : Bool) (G : Nat → Prop) (f : ByteArray → Int) (g : ByteArray → ByteArray → Int) (w : World) (h : PAt w pb tb sh) (ht : TabObj w tb G f g) (hf : ∀ a, f a = 0) :
    Calls Try.prog 16 #[.pointer (some ⟨pb, 0, none⟩), .pointer (some ⟨pb, 0, none⟩)] w fun e w' => e = .returned (.tuple #[]) ∧ PAt w' pb tb true ∧ Keeps (fun k => k = pb) w w' := by
  obtain ⟨sb, cb, S, C, R, hD, hI, -⟩ := ht
  obtain ⟨c1, c2⟩ := h.cells
  obtain ⟨d1, d2⟩ := hD.cells
  have hS := hI.empty_of hf
  have hln := fun ty => tab_len hD.ones ty
  rw [hS] at hln
  simp only [List.length_nil] at hln
  have z1 := h.free 0
  have z2 := h.free 1
  have hPp := h.set_self tb
  have HP := Lib.hid hPp
  clear hPp h hD hI hS
  go_enter Try.func16, Try.ntmps16
  go_wp2
  (try simp only [Exit.inBlock, Exit.then])
  refine bodyPost_ret (results_none rfl _ _ _) rfl ?_
  exact ⟨rfl, HP.out⟩

set_option maxRecDepth 20000 in
set_option maxHeartbeats 8000000 in
theorem merge_apart (pb tt : Nat) (F0 : Nat → Prop) (f' : ByteArray → Int) (g' : ByteArray → ByteArray → Int) (ob ft : Nat) (so : Bool) (GF : Nat → Prop) (f : ByteArray → Int) (g : ByteArray → ByteArray → Int) (w : World) (h : PAt w pb tt false) (ht : TabObj w tt F0 f' g') (ho : PAt w ob ft so) (hot : TabObj w ft GF f g)
    (hap : ∀ k, GF k → ¬ F0 k) (hne : pb ≠ ob) (hpo : ¬ F0 pb) (hsome : ∃ a, f' a ≠ 0) (hb1 : ∀ a, f' a + f a ≤ 1000000) (hb2 : ∀ a b, g' a b + g a b ≤ 1000000) :
    Calls Try.prog 16 #[.pointer (some ⟨pb, 0, none⟩), .pointer (some ⟨ob, 0, none⟩)] w fun e w' => e = .returned (.tuple #[]) ∧ ∃ F', TabObj w' tt F' (fun a => f' a + f a) (fun a b => g' a b + g a b) ∧ Upd F0 w F' w' := by
  have hto := ht
  obtain ⟨sb', cb', S', C', R', hD', hI', hF0⟩ := ht
  obtain ⟨sb, cb, S, C, R, hD, hI, rfl⟩ := hot
  obtain ⟨c1, c2⟩ := h.cells
  obtain ⟨d1, d2⟩ := hD'.cells
  obtain ⟨e1, e2⟩ := ho.cells
  have hln := fun ty => tab_len hD'.ones ty
  have hS : S' ≠ [] := fun e => by obtain ⟨a, ha⟩ := hsome; have := hI'.one a; rw [e] at this; simp [mget] at this; exact ha this.symm
  have hl0 : ((S'.length : Int) == 0) = false := by
    have := List.length_pos_iff.2 hS
    simp; exact hS
  have hl1 : ¬ (S'.length : Int) = 0 := by
    have := List.length_pos_iff.2 hS
    omega
  generalize S'.length = ln at *
  have htf : tt ≠ ft := fun e => hap ft (.inl rfl) (by rw [hF0, ← e]; exact .inl rfl)
  have Q := Lib.hid (own_any pb tt w h)
  have x1 := eql_pp (w := w.drew) h ho hne
  have x2 := eql_tab (w := w.drew) (hD'.keep ((Keeps.refl (fun _ => False) w).drew) (fun _ _ e => e)) (hD.keep ((Keeps.refl (fun _ => False) w).drew) (fun _ _ e => e)) htf
  have HDf0 := Lib.hid hD
  have HIf := Lib.hid hI
  have HTo0 := Lib.hid hto
  have HAP := Lib.hid hap
  have HB1 := Lib.hid hb1
  have HB2 := Lib.hid hb2
  have HP := Lib.hid h
  clear hto hD' hI' hF0 hD hI h ho hap hb1 hb2 hsome hS
  go_enter Try.func16, Try.ntmps16
  go_wp2_with fail
  refine heldStart 14 (S := fun W => W.cell? ⟨pb, 0, none⟩ = some (.pointer (some ⟨tt, 0, none⟩)) ∧ W.cell? ⟨ob, 0, none⟩ = some (.pointer (some ⟨ft, 0, none⟩))) (by kernel_rfl) ?_ (fun hHeld => ?_)
  · exact ⟨c1, e1⟩
  refine heldTake 0 (v := ?_) (by simp only [List.getElem?_toArray, List.getElem?_cons_succ, List.getElem?_cons_zero]; rfl) (by kernel_rfl) (by intro _ _ _ h; exact h) (by rfl) (by assumption) ?_ ?_
  rotate_left
  · intro W hSw; (try dsimp only at hSw); go_simp; try with_reducible rfl
  simp only [Act.put, List.setIfInBounds_toArray, List.set_cons_zero, List.set_cons_succ]
  refine heldTake 1 (v := ?_) (by simp only [List.getElem?_toArray, List.getElem?_cons_succ, List.getElem?_cons_zero]; rfl) (by kernel_rfl) (by intro _ _ _ h; exact h) (by rfl) (by assumption) ?_ ?_
  rotate_left
  · intro W hSw; (try dsimp only at hSw); go_simp; try with_reducible rfl
  simp only [Act.put, List.setIfInBounds_toArray, List.set_cons_zero, List.set_cons_succ]
  refine heldCall 2 (by simp only [List.getElem?_toArray, List.getElem?_cons_succ, List.getElem?_cons_zero]; rfl) (by kernel_rfl) (fun K hK => ?_)
  go_simp
  refine hK.out _ _ ?_ (fun hHeld => ?_)
  · exact ⟨c1, e1⟩
  clear hK K
  (try simp only [Act.put, List.setIfInBounds_toArray, List.set_cons_zero, List.set_cons_succ])
  refine heldTake 3 (v := ?_) (by simp only [List.getElem?_toArray, List.getElem?_cons_succ, List.getElem?_cons_zero]; rfl) (by kernel_rfl) (by intro _ _ _ h; exact h) (by rfl) (by assumption) ?_ ?_
  rotate_left
  · intro W hSw; (try dsimp only at hSw); go_simp; try with_reducible rfl
  simp only [Act.put, List.setIfInBounds_toArray, List.set_cons_zero, List.set_cons_succ]
  refine heldTake 4 (v := ?_) (by simp only [List.getElem?_toArray, List.getElem?_cons_succ, List.getElem?_cons_zero]; rfl) (by kernel_rfl) (by intro _ _ _ h; exact h) (by rfl) (by assumption) ?_ ?_
  rotate_left
  · intro W hSw; (try dsimp only at hSw); go_simp; try with_reducible rfl
  simp only [Act.put, List.setIfInBounds_toArray, List.set_cons_zero, List.set_cons_succ]
  refine heldTake 5 (v := ?_) (by simp only [List.getElem?_toArray, List.getElem?_cons_succ, List.getElem?_cons_zero]; rfl) (by kernel_rfl) (by intro _ _ _ h; exact h) (by rfl) (by assumption) ?_ ?_
  rotate_left
  · intro W hSw; (try dsimp only at hSw); go_simp; try with_reducible rfl
  simp only [Act.put, List.setIfInBounds_toArray, List.set_cons_zero, List.set_cons_succ]
  refine heldTake 6 (v := ?_) (by simp only [List.getElem?_toArray, List.getElem?_cons_succ, List.getElem?_cons_zero]; rfl) (by kernel_rfl) (by intro _ _ _ h; exact h) (by rfl) (by assumption) ?_ ?_
  rotate_left
  · intro W hSw; (try dsimp only at hSw); go_simp; try with_reducible rfl
  simp only [Act.put, List.setIfInBounds_toArray, List.set_cons_zero, List.set_cons_succ]
  refine heldTake 7 (v := ?_) (by simp only [List.getElem?_toArray, List.getElem?_cons_succ, List.getElem?_cons_zero]; rfl) (by kernel_rfl) (by intro _ _ _ h; exact h) (by rfl) (by assumption) ?_ ?_
  rotate_left
  · intro W hSw; (try dsimp only at hSw); go_simp; try with_reducible rfl
  simp only [Act.put, List.setIfInBounds_toArray, List.set_cons_zero, List.set_cons_succ]
  refine heldTake 8 (v := ?_) (by simp only [List.getElem?_toArray, List.getElem?_cons_succ, List.getElem?_cons_zero]; rfl) (by kernel_rfl) (by intro _ _ _ h; exact h) (by rfl) (by assumption) ?_ ?_
  rotate_left
  · intro W hSw; (try dsimp only at hSw); go_simp; try with_reducible rfl
  simp only [Act.put, List.setIfInBounds_toArray, List.set_cons_zero, List.set_cons_succ]
  refine heldTake 9 (v := ?_) (by simp only [List.getElem?_toArray, List.getElem?_cons_succ, List.getElem?_cons_zero]; rfl) (by kernel_rfl) (by intro _ _ _ h; exact h) (by rfl) (by assumption) ?_ ?_
  rotate_left
  · intro W hSw; (try dsimp only at hSw); go_simp; try with_reducible rfl
  simp only [Act.put, List.setIfInBounds_toArray, List.set_cons_zero, List.set_cons_succ]
  refine heldTake 10 (v := ?_) (by simp only [List.getElem?_toArray, List.getElem?_cons_succ, List.getElem?_cons_zero]; rfl) (by kernel_rfl) (by intro _ _ _ h; exact h) (by rfl) (by assumption) ?_ ?_
  rotate_left
  · intro W hSw; (try dsimp only at hSw); go_simp; try with_reducible rfl
  simp only [Act.put, List.setIfInBounds_toArray, List.set_cons_zero, List.set_cons_succ]
  refine heldTake 11 (v := ?_) (by simp only [List.getElem?_toArray, List.getElem?_cons_succ, List.getElem?_cons_zero]; rfl) (by kernel_rfl) (by intro _ _ _ h; exact h) (by rfl) (by assumption) ?_ ?_
  rotate_left
  · intro W hSw; (try dsimp only at hSw); go_simp; try with_reducible rfl
  simp only [Act.put, List.setIfInBounds_toArray, List.set_cons_zero, List.set_cons_succ]
  refine heldCall 12 (by simp only [List.getElem?_toArray, List.getElem?_cons_succ, List.getElem?_cons_zero]; rfl) (by kernel_rfl) (fun K hK => ?_)
  go_simp
  refine hK.out _ _ ?_ (fun hHeld => ?_)
  · exact ⟨c1, e1⟩
  clear hK K
  (try simp only [Act.put, List.setIfInBounds_toArray, List.set_cons_zero, List.set_cons_succ])
  refine heldTake 13 (v := ?_) (by simp only [List.getElem?_toArray, List.getElem?_cons_succ, List.getElem?_cons_zero]; rfl) (by kernel_rfl) (by intro _ _ _ h; exact h) (by rfl) (by assumption) ?_ ?_
  rotate_left
  · intro W hSw; (try dsimp only at hSw); go_simp; try with_reducible rfl
  simp only [Act.put, List.setIfInBounds_toArray, List.set_cons_zero, List.set_cons_succ]
  refine heldDone (by kernel_rfl) ?_ _
  have Q1 : Hid _ := Lib.hid (own_any pb tt w.drew HP.out)
  have HDf : Hid (TabAt w.drew ft sb cb S C R) := Lib.hid (HDf0.out.keep ((Keeps.refl (fun _ => False) w).drew) (fun _ _ e => e))
  have HTo : Hid (TabObj w.drew tt F0 f' g') := Lib.hid ((TabObj.own _ _ _).keep HTo0.out ((Keeps.refl (fun _ => False) w).drew) (fun _ _ e => e))
  have HKW : Hid (Keeps (fun _ => False) w w.drew) := Lib.hid ((Keeps.refl (fun _ => False) w).drew)
  generalize w.drew = W0 at *
  clear c1 c2 d1 d2 e1 e2 hln hl0 hl1 Q HTo0 HDf0 x1 x2 hHeld
  go_wp2_with fail
  refine Q1.out.mono ?_
  rintro e W1 ⟨rfl, rfl⟩
  obtain ⟨W0, rfl⟩ : ∃ W0 : World, W0 = W1 := ⟨_, rfl⟩
  clear Q1 htf

  have hs0 : MapIs W0 strKf intVf strOk sb S := HDf.out.ones
  have hfc := HDf.out.cells
  have q0 := hfc.1
  have HFL : Hid (∀ k, tabFoot ft sb cb C k → k < W0.heap.size) := Lib.hid HDf.out.foot_lt
  have HTL : Hid (∀ k, F0 k → k < W0.heap.size) := Lib.hid ((TabObj.own _ _ _).lt HTo.out)
  go_wp2_with (at_range; refine wpList_range_is rfl _ _ rfl Try.underlying59 rfl hs0 ?_; intro w4 hrg4 hb4 hz4)
  have hst : MgOne W0 w4 W0.heap.size tt sb F0 f f' g' S S F0 := ⟨hrg4, fun _ h => h, by rw [addS_all HIf.out]; exact (TabObj.own _ _ _).below HTo.out hb4, ⟨Keeps.ofBelow hb4 _, fun _ h => .inl h⟩, fun h => by have := HTL.out _ h; omega⟩
  have HST := Lib.hid hst
  have HQ1 := Lib.hid hfc.2
  clear hst hrg4 hb4 hz4 hs0 hfc q0
  obtain ⟨r1, hr1⟩ : ∃ r1, r1 = W0.heap.size := ⟨_, rfl⟩
  rw [← hr1] at HST ⊢
  have HR1 : Hid (W0.heap.size ≤ r1) := Lib.hid (by omega)
  clear hr1
  go_frame
  go_loopg [] S.length (fun rest wr => ∃ left F', Hid (rest = List.length left) ∧ Hid (MgOne W0 wr r1 tt sb F0 f f' g' S left F'))
  case atStart => exact ⟨S, F0, Lib.hid rfl, HST⟩
  case round =>
    clear HST
    obtain ⟨left, F', HLN, HM⟩ := hrel
    obtain ⟨w5, rfl⟩ : ∃ w5 : World, w5 = wr := ⟨_, rfl⟩
    go_wp2_with (at_next; refine wpList_next_is rfl _ rfl rfl HM.out.rg ?_ ?_)
    · intro h0
      subst h0
      have hto := HM.out.to_
      rw [addS_nil] at hto
      obtain ⟨f2, hf2⟩ : ∃ f2, f2 = fun a => f' a + f a := ⟨_, rfl⟩
      rw [← hf2] at hto
      have hk5 := HM.out.upd
      have hs5 : MapIs w5 strKf mapVf strOk cb C := HDf.out.twos.keep hk5.keeps (HAP.out _ (.inr (.inr (.inl rfl))))
      have q1 : w5.cell? ⟨ft, 1, none⟩ = some (.map (some cb)) := (hk5.keeps.cell (p := ⟨ft, 1, none⟩) (HFL.out _ (.inl rfl)) (HAP.out _ (.inl rfl))).trans HQ1.out
      have HTO := Lib.hid hto
      have HK5 := Lib.hid hk5
      have HF2 := Lib.hid hf2
      clear hto hk5 hf2 HM HLN
      (try go_frame)
      go_wp2_with (at_range; refine wpList_range_is rfl _ _ rfl Try.underlying60 rfl hs5 ?_; intro w8 hrg8 hb8 hz8)
      have hst : MgTwo W0 w8 w5.heap.size tt cb F0 f2 g g' C C F' := ⟨hrg8, fun _ h => h, by rw [addR_all HIf.out]; exact (TabObj.own _ _ _).below HTO.out hb8, ⟨HK5.out.keeps.trans (Keeps.ofBelow hb8 (fun _ => False)) (fun _ _ e => e.elim), HK5.out.foot⟩, fun h => by have := (TabObj.own _ _ _).lt HTO.out _ h; omega⟩
      have HST := Lib.hid hst
      have hz5 := HK5.out.keeps.size
      clear hst hrg8 hb8 hz8 hs5 q1 HTO
      obtain ⟨r2, hr2⟩ : ∃ r2, r2 = w5.heap.size := ⟨_, rfl⟩
      rw [← hr2] at HST ⊢
      have HR2 : Hid (W0.heap.size ≤ r2) := Lib.hid (by omega)
      clear hr2 hz5 HK5
      go_frame
      go_loopg [] C.length (fun rest wr => ∃ left F', Hid (rest = List.length left) ∧ Hid (MgTwo W0 wr r2 tt cb F0 f2 g g' C left F'))
      case atStart => exact ⟨C, F', Lib.hid rfl, HST⟩
      case round =>
        clear HST
        obtain ⟨left, F', HLN, HM⟩ := hrel
        obtain ⟨w9, rfl⟩ : ∃ w9 : World, w9 = wr := ⟨_, rfl⟩
        go_wp2_with (at_next; refine wpList_next_is rfl _ rfl rfl HM.out.rg ?_ ?_)
        · intro h0
          subst h0
          (try go_frame)
          go_wp2
          go_end0
          have hz := HKW.out
          have hto := HM.out.to_
          rw [addR_nil, HF2.out] at hto
          exact ⟨rfl, F', hto, ⟨(hz.mono (fun _ _ e => e.elim)).trans HM.out.upd.keeps (fun _ _ e => e), fun k hk => by rcases HM.out.upd.foot k hk with h1 | h1; exact .inl h1; exact .inr (by have := hz.size; omega)⟩⟩
        · intro k b w6 hmem hrg6 hk6 hz6 hen
          have hml := mdel_len HM.out.rg.nodup (p := (k, b)) hmem
          simp only at hml
          have HML := Lib.hid hml
          have hmS := HM.out.sub _ hmem
          have hfb : tabFoot ft sb cb C b := .inr (.inr (.inr ⟨_, hmS, rfl⟩))
          have hbl := HFL.out b hfb
          have hbn := HAP.out b hfb
          have hrow6 : MapIs w6 strKf intVf strOk b (R b) := ((HDf.out.rows _ hmS).keep HM.out.upd.keeps hbn).keep hk6 (by have := HR2.out; omega)
          have hkok : strOk k := HDf.out.twos.ok _ hmS
          simp only [strKf, mapVf] at hen
          have HZ6 := Lib.hid hz6
          have HBL := Lib.hid (And.intro hbl hbn)
          have HRG6 := Lib.hid hrg6
          have HK6 := Lib.hid hk6
          have HMS := Lib.hid hmS
          clear hml hrg6 hk6 hz6 hmS hfb hbl hbn
          (try go_frame)
          go_wp2_with (at_range; refine wpList_range_is rfl _ _ rfl Try.underlying59 rfl hrow6 ?_; intro w8 hrg8 hb8 hz8)
          have hin := HM.out.into HIf.out HDf.out.twos.nodup hmem HRG6.out HK6.out HR2.out hrg8 hb8
          have hz9 := HM.out.upd.keeps.size
          have hz6 := HK6.out.size
          have HR3 : Hid (W0.heap.size ≤ w6.heap.size) := Lib.hid (by omega)
          have HIN := Lib.hid hin
          clear hin hrg8 hb8 hz8 hrow6 hz9 hz6 HRG6 HK6 HZ6
          obtain ⟨r3, hr3⟩ : ∃ r3, r3 = w6.heap.size := ⟨_, rfl⟩
          rw [← hr3] at HIN HR3 ⊢
          clear hr3
          have HLN0 := HLN
          clear HLN
          go_frame
          go_loopg [] (R b).length (fun rest wr => ∃ lr F', Hid (rest = List.length lr) ∧ Hid (MgIn W0 wr r2 r3 tt cb b F0 f2 g g' C (mdel left k) k (R b) lr F'))
          case atStart => exact ⟨R b, F', Lib.hid rfl, HIN⟩
          case round =>
            clear HIN
            obtain ⟨lr, F2, HLR, HN⟩ := hrel
            obtain ⟨wa, rfl⟩ : ∃ wa : World, wa = wr := ⟨_, rfl⟩
            go_wp2_with (at_next; refine wpList_next_is rfl _ rfl rfl HN.out.rg2 ?_ ?_)
            · intro h0
              subst h0
              have HO := Lib.hid HN.out.out
              (try go_frame)
              (try go_wp2)
              go_roundg (mdel left k).length
              case measure => have := HML.out; have := HLN0.out; omega
              case rel => exact ⟨mdel left k, F2, Lib.hid rfl, HO⟩
            · intro x n wb hmx hrgb hkb hzb henb
              have hmlx := mdel_len HN.out.rg2.nodup (p := (x, n)) hmx
              simp only at hmlx
              have HMLX := Lib.hid hmlx
              have hxok : strOk x := (HDf.out.rows _ HMS.out).ok _ (HN.out.sub2 _ hmx)
              have hn0 : 0 < n := HIf.out.ppos _ HMS.out _ (HN.out.sub2 _ hmx)
              have hat := addI_at g g' (mdel left k) k HN.out.rg2.nodup hmx
              have HQ := Lib.hid (pair_any tt F2 f2 (addI g g' (mdel left k) k lr) k x n wb (HN.out.to6 hkb) hkok hxok hn0 (by rw [hat]; exact HB2.out k x))
              have HRGB := Lib.hid hrgb
              have HKB := Lib.hid hkb
              simp only [strKf, intVf] at henb
              clear hmlx hxok hn0 hat hrgb hkb hzb
              (try go_frame)
              go_wp2_with fail
              refine HQ.out.mono ?_
              rintro e wc ⟨rfl, F3, hT, hU⟩
              have HS2 := Lib.hid (HN.out.step hmx HRGB.out HKB.out HR3.out (HFL.out _ (.inr (.inr (.inl rfl)))) (HAP.out _ (.inr (.inr (.inl rfl)))) HBL.out.1 HBL.out.2 hT hU)
              clear hT hU HQ HRGB HKB
              go_wp2
              go_roundg (mdel lr x).length
              case measure => have := HMLX.out; have := HLR.out; omega
              case rel => exact ⟨mdel lr x, F3, Lib.hid rfl, HS2⟩
    · intro k n w6 hmem hrg6 hk6 hz6 hen
      have hml := mdel_len HM.out.rg.nodup (p := (k, n)) hmem
      simp only at hml
      have HML := Lib.hid hml
      have hkok : strOk k := HDf.out.ones.ok _ (HM.out.sub _ hmem)
      have hn0 : 0 < n := HIf.out.spos _ (HM.out.sub _ hmem)
      have hat := addS_at f f' HM.out.rg.nodup hmem
      have HQ := Lib.hid (single_any tt F' (addS f f' left) g' k n w6 (HM.out.to6 hk6) hkok hn0 (by rw [hat]; exact HB1.out k))
      have HRG6 := Lib.hid hrg6
      have HK6 := Lib.hid hk6
      simp only [strKf, intVf] at hen
      clear hml hkok hn0 hat hrg6 hk6 hz6
      (try go_frame)
      go_wp2_with fail
      refine HQ.out.mono ?_
      rintro e w7 ⟨rfl, F2, hT, hU⟩
      have HS2 := Lib.hid (HM.out.step hmem HRG6.out HK6.out HR1.out (HFL.out _ (.inr (.inl rfl))) (HAP.out _ (.inr (.inl rfl))) hT hU)
      clear hT hU HQ HRG6 HK6
      go_wp2
      go_roundg (mdel left k).length
      case measure => have := HML.out; have := HLN.out; omega
      case rel => exact ⟨mdel left k, F2, Lib.hid rfl, HS2⟩

theorem own_either (pb tb : Nat) (sh : Bool) (G : Nat → Prop) (f : ByteArray → Int) (g : ByteArray → ByteArray → Int) (w : World) (h : PAt w pb tb sh) (ht : TabObj w tb G f g) (hG : ¬ G pb) :
    Calls Try.prog 22 #[.pointer (some ⟨pb, 0, none⟩)] w fun e w' => ∃ tt G', e = .returned (.pointer (some ⟨tt, 0, none⟩)) ∧ PAt w' pb tt false ∧ TabObj w' tt G' f g ∧ ¬ G' pb ∧ (∀ k, G' k → G k ∨ w.heap.size ≤ k) ∧ Keeps (fun k => k = pb) w w' := by
  cases sh with
  | false =>
    refine (own_any pb tb w h).mono ?_
    rintro e w' ⟨rfl, rfl⟩
    exact ⟨tb, G, rfl, h, ht, hG, fun k hk => .inl hk, Keeps.refl _ _⟩
  | true =>
    refine (own_shared pb tb G f g w h ht).mono ?_
    rintro e w' ⟨tt, G', rfl, h1, h2, h3, h4, h5⟩
    exact ⟨tt, G', rfl, h1, h2, h3, fun k hk => .inr (h4 k hk), h5⟩

def SelfNew (w : World) (pb : Nat) (G : Nat → Prop) (f : ByteArray → Int) (g : ByteArray → ByteArray → Int) (e : Ending) (w' : World) : Prop :=
  e = .returned (.tuple #[]) ∧ ∃ tt F', PAt w' pb tt false ∧ TabObj w' tt F' (fun a => f a + f a) (fun a b => g a b + g a b) ∧ Keeps (fun k => k = pb ∨ G k) w w'

set_option maxRecDepth 20000 in
set_option maxHeartbeats 8000000 in
theorem merge_self (pb tb : Nat) (sh : Bool) (G : Nat → Prop) (f : ByteArray → Int) (g : ByteArray → ByteArray → Int) (w : World) (h : PAt w pb tb sh) (ht : TabObj w tb G f g) (hpG : ¬ G pb) (hsome : ∃ a, f a ≠ 0) (hb1 : ∀ a, f a + f a ≤ 1000000) (hb2 : ∀ a b, g a b + g a b ≤ 1000000) :
    Calls Try.prog 16 #[.pointer (some ⟨pb, 0, none⟩), .pointer (some ⟨pb, 0, none⟩)] w (SelfNew w pb G f g) := by
  have hto := ht
  obtain ⟨sb', cb', S', C', R', hD', hI', hF0⟩ := ht
  obtain ⟨c1, c2⟩ := h.cells
  obtain ⟨d1, d2⟩ := hD'.cells
  have hln := fun ty => tab_len hD'.ones ty
  have hS : S' ≠ [] := fun e => by obtain ⟨a, ha⟩ := hsome; have := hI'.one a; rw [e] at this; simp [mget] at this; exact ha this.symm
  have hl0 : ((S'.length : Int) == 0) = false := by
    have := List.length_pos_iff.2 hS
    simp; exact hS
  have hl1 : ¬ (S'.length : Int) = 0 := by
    have := List.length_pos_iff.2 hS
    omega
  generalize S'.length = ln at *
  have hpl := h.lt
  have x1 := eql_same w.drew ⟨pb, 0, none⟩
  have HTo0 := Lib.hid hto
  have HB1 := Lib.hid hb1
  have HB2 := Lib.hid hb2
  have HP := Lib.hid h
  have HPG := Lib.hid hpG
  clear hto hD' hI' hF0 h hpG hb1 hb2 hsome hS
  go_enter Try.func16, Try.ntmps16
  go_wp2_with fail
  refine heldStart 14 (S := fun W => W.cell? ⟨pb, 0, none⟩ = some (.pointer (some ⟨tb, 0, none⟩))) (by kernel_rfl) ?_ (fun hHeld => ?_)
  · exact c1
  refine heldTake 0 (v := ?_) (by simp only [List.getElem?_toArray, List.getElem?_cons_succ, List.getElem?_cons_zero]; rfl) (by kernel_rfl) (by intro _ _ _ h; exact h) (by rfl) (by assumption) ?_ ?_
  rotate_left
  · intro W hSw; (try dsimp only at hSw); go_simp; try with_reducible rfl
  simp only [Act.put, List.setIfInBounds_toArray, List.set_cons_zero, List.set_cons_succ]
  refine heldTake 1 (v := ?_) (by simp only [List.getElem?_toArray, List.getElem?_cons_succ, List.getElem?_cons_zero]; rfl) (by kernel_rfl) (by intro _ _ _ h; exact h) (by rfl) (by assumption) ?_ ?_
  rotate_left
  · intro W hSw; (try dsimp only at hSw); go_simp; try with_reducible rfl
  simp only [Act.put, List.setIfInBounds_toArray, List.set_cons_zero, List.set_cons_succ]
  refine heldCall 2 (by simp only [List.getElem?_toArray, List.getElem?_cons_succ, List.getElem?_cons_zero]; rfl) (by kernel_rfl) (fun K hK => ?_)
  go_simp
  refine hK.out _ _ ?_ (fun hHeld => ?_)
  · exact c1
  clear hK K
  (try simp only [Act.put, List.setIfInBounds_toArray, List.set_cons_zero, List.set_cons_succ])
  refine heldTake 3 (v := ?_) (by simp only [List.getElem?_toArray, List.getElem?_cons_succ, List.getElem?_cons_zero]; rfl) (by kernel_rfl) (by intro _ _ _ h; exact h) (by rfl) (by assumption) ?_ ?_
  rotate_left
  · intro W hSw; (try dsimp only at hSw); go_simp; try with_reducible rfl
  simp only [Act.put, List.setIfInBounds_toArray, List.set_cons_zero, List.set_cons_succ]
  refine heldSkip 4 (by simp only [List.getElem?_toArray, List.getElem?_cons_succ, List.getElem?_cons_zero]; rfl) (by kernel_rfl) (by intro _ _ _ h; exact h) (by rfl) (by assumption) ?_
  simp only [Act.put, List.setIfInBounds_toArray, List.set_cons_zero, List.set_cons_succ]
  refine heldSkip 5 (by simp only [List.getElem?_toArray, List.getElem?_cons_succ, List.getElem?_cons_zero]; rfl) (by kernel_rfl) (by intro _ _ _ h; exact h) (by rfl) (by assumption) ?_
  simp only [Act.put, List.setIfInBounds_toArray, List.set_cons_zero, List.set_cons_succ]
  refine heldSkip 6 (by simp only [List.getElem?_toArray, List.getElem?_cons_succ, List.getElem?_cons_zero]; rfl) (by kernel_rfl) (by intro _ _ _ h; exact h) (by rfl) (by assumption) ?_
  simp only [Act.put, List.setIfInBounds_toArray, List.set_cons_zero, List.set_cons_succ]
  refine heldSkip 7 (by simp only [List.getElem?_toArray, List.getElem?_cons_succ, List.getElem?_cons_zero]; rfl) (by kernel_rfl) (by intro _ _ _ h; exact h) (by rfl) (by assumption) ?_
  simp only [Act.put, List.setIfInBounds_toArray, List.set_cons_zero, List.set_cons_succ]
  refine heldSkip 8 (by simp only [List.getElem?_toArray, List.getElem?_cons_succ, List.getElem?_cons_zero]; rfl) (by kernel_rfl) (by intro _ _ _ h; exact h) (by rfl) (by assumption) ?_
  simp only [Act.put, List.setIfInBounds_toArray, List.set_cons_zero, List.set_cons_succ]
  refine heldSkip 9 (by simp only [List.getElem?_toArray, List.getElem?_cons_succ, List.getElem?_cons_zero]; rfl) (by kernel_rfl) (by intro _ _ _ h; exact h) (by rfl) (by assumption) ?_
  simp only [Act.put, List.setIfInBounds_toArray, List.set_cons_zero, List.set_cons_succ]
  refine heldSkip 10 (by simp only [List.getElem?_toArray, List.getElem?_cons_succ, List.getElem?_cons_zero]; rfl) (by kernel_rfl) (by intro _ _ _ h; exact h) (by rfl) (by assumption) ?_
  simp only [Act.put, List.setIfInBounds_toArray, List.set_cons_zero, List.set_cons_succ]
  refine heldSkip 11 (by simp only [List.getElem?_toArray, List.getElem?_cons_succ, List.getElem?_cons_zero]; rfl) (by kernel_rfl) (by intro _ _ _ h; exact h) (by rfl) (by assumption) ?_
  simp only [Act.put, List.setIfInBounds_toArray, List.set_cons_zero, List.set_cons_succ]
  refine heldSkip 12 (by simp only [List.getElem?_toArray, List.getElem?_cons_succ, List.getElem?_cons_zero]; rfl) (by kernel_rfl) (by intro _ _ _ h; exact h) (by rfl) (by assumption) ?_
  simp only [Act.put, List.setIfInBounds_toArray, List.set_cons_zero, List.set_cons_succ]
  refine heldTake 13 (v := ?_) (by simp only [List.getElem?_toArray, List.getElem?_cons_succ, List.getElem?_cons_zero]; rfl) (by kernel_rfl) (by intro _ _ _ h; exact h) (by rfl) (by assumption) ?_ ?_
  rotate_left
  · intro W hSw; (try dsimp only at hSw); go_simp; try with_reducible rfl
  simp only [Act.put, List.setIfInBounds_toArray, List.set_cons_zero, List.set_cons_succ]
  refine heldDone (by kernel_rfl) ?_ _
  have Q0 : Hid _ := Lib.hid (tcopy_any tb G f g w.drew ((TabObj.own _ _ _).keep HTo0.out ((Keeps.refl (fun _ => False) w).drew) (fun _ _ e => e)))
  have HKW : Hid (Keeps (fun k => k = pb ∨ G k) w w.drew) := Lib.hid ((Keeps.refl _ w).drew)
  have HT0 : Hid (TabObj w.drew tb G f g) := Lib.hid ((TabObj.own _ _ _).keep HTo0.out ((Keeps.refl (fun _ => False) w).drew) (fun _ _ e => e))
  have HP0 : Hid (PAt w.drew pb tb sh) := Lib.hid HP.out
  replace hpl : pb < w.drew.heap.size := hpl
  replace c1 : w.drew.cell? ⟨pb, 0, none⟩ = some (.pointer (some ⟨tb, 0, none⟩)) := c1
  generalize w.drew = W1 at *
  clear c2 d1 d2 hln hl0 hl1 x1 hHeld HTo0 HP
  go_wp2_with fail
  refine Q0.out.mono ?_
  rintro e W2 ⟨ft, GF, rfl, hF, hGF, hb2⟩
  have hlt := (TabObj.own tb f g).lt HT0.out
  have hlf := (TabObj.own ft f g).lt hF
  have Q1 := Lib.hid (own_either pb tb sh G f g W2 (HP0.out.keep (Keeps.ofBelow hb2 (fun _ => False)) (fun e => e)) ((TabObj.own _ _ _).below HT0.out hb2) HPG.out)
  have HFG := Lib.hid (And.intro hF hGF)
  have HLT := Lib.hid (And.intro hlt hlf)
  have hz2 := hb2.size
  have HZ2 := Lib.hid hz2
  have HKX : Hid (Keeps (fun k => k = pb ∨ G k) w W2) := Lib.hid (HKW.out.trans (Keeps.ofBelow hb2 (fun _ => False)) (fun _ _ e => e.elim))
  clear HKW
  clear hb2 hF hGF hlt hlf c1 hz2
  go_wp2_with fail
  refine Q1.out.mono ?_
  rintro e W0 ⟨tt, F0, rfl, hP0, hTo0, hpF, hF0, hK0⟩
  obtain ⟨sb, cb, S, C, R, hD, hI, rfl⟩ := HFG.out.1
  have hnp : ∀ k, tabFoot ft sb cb C k → k ≠ pb := fun k hk e => by have := HFG.out.2 k hk; omega
  obtain ⟨f', hf'⟩ : ∃ f' : ByteArray → Int, f' = f := ⟨_, rfl⟩
  obtain ⟨g', hg'⟩ : ∃ g' : ByteArray → ByteArray → Int, g' = g := ⟨_, rfl⟩
  have HDf : Hid (TabAt W0 ft sb cb S C R) := Lib.hid (hD.keep hK0 hnp)
  have HIf : Hid (TabInv S C R f g) := Lib.hid hI
  have HTo : Hid (TabObj W0 tt F0 f' g') := Lib.hid (by rw [hf', hg']; exact hTo0)
  have HAP : Hid (∀ k, tabFoot ft sb cb C k → ¬ F0 k) := Lib.hid (fun k hk hf => by
    have h1 := HFG.out.2 k hk
    have h2 := HLT.out.2 k hk
    rcases hF0 k hf with h3 | h3
    · have := HLT.out.1 k h3; omega
    · omega)
  have HPF := Lib.hid (And.intro hP0 hpF)
  have HKY : Hid (Keeps (fun k => k = pb ∨ G k) w W0 ∧ ∀ k, F0 k → G k ∨ w.heap.size ≤ k) := Lib.hid ⟨HKX.out.trans hK0 (fun _ _ e => .inl e), fun k hk => by
    rcases hF0 k hk with h3 | h3
    · exact .inl h3
    · exact .inr (by have := HKX.out.size; omega)⟩
  clear HKX
  have HB1' : Hid (∀ a, f' a + f a ≤ 1000000) := Lib.hid (by rw [hf']; exact HB1.out)
  have HB2' : Hid (∀ a b, g' a b + g a b ≤ 1000000) := Lib.hid (by rw [hg']; exact HB2.out)
  have HEQ := Lib.hid (And.intro hf' hg')
  clear HB1 HB2 hf' hg' hD hI hP0 hpF hF0 hK0 hTo0 hnp Q0 Q1 HFG HLT HZ2 HT0 HP0
  have HB1 := HB1'
  have HB2 := HB2'
  clear HB1' HB2' hpl

  have hs0 : MapIs W0 strKf intVf strOk sb S := HDf.out.ones
  have hfc := HDf.out.cells
  have q0 := hfc.1
  have HFL : Hid (∀ k, tabFoot ft sb cb C k → k < W0.heap.size) := Lib.hid HDf.out.foot_lt
  have HTL : Hid (∀ k, F0 k → k < W0.heap.size) := Lib.hid ((TabObj.own _ _ _).lt HTo.out)
  go_wp2_with (at_range; refine wpList_range_is rfl _ _ rfl Try.underlying59 rfl hs0 ?_; intro w4 hrg4 hb4 hz4)
  have hst : MgOne W0 w4 W0.heap.size tt sb F0 f f' g' S S F0 := ⟨hrg4, fun _ h => h, by rw [addS_all HIf.out]; exact (TabObj.own _ _ _).below HTo.out hb4, ⟨Keeps.ofBelow hb4 _, fun _ h => .inl h⟩, fun h => by have := HTL.out _ h; omega⟩
  have HST := Lib.hid hst
  have HQ1 := Lib.hid hfc.2
  clear hst hrg4 hb4 hz4 hs0 hfc q0
  obtain ⟨r1, hr1⟩ : ∃ r1, r1 = W0.heap.size := ⟨_, rfl⟩
  rw [← hr1] at HST ⊢
  have HR1 : Hid (W0.heap.size ≤ r1) := Lib.hid (by omega)
  clear hr1
  go_frame
  go_loopg [] S.length (fun rest wr => ∃ left F', Hid (rest = List.length left) ∧ Hid (MgOne W0 wr r1 tt sb F0 f f' g' S left F'))
  case atStart => exact ⟨S, F0, Lib.hid rfl, HST⟩
  case round =>
    clear HST
    obtain ⟨left, F', HLN, HM⟩ := hrel
    obtain ⟨w5, rfl⟩ : ∃ w5 : World, w5 = wr := ⟨_, rfl⟩
    go_wp2_with (at_next; refine wpList_next_is rfl _ rfl rfl HM.out.rg ?_ ?_)
    · intro h0
      subst h0
      have hto := HM.out.to_
      rw [addS_nil] at hto
      obtain ⟨f2, hf2⟩ : ∃ f2, f2 = fun a => f' a + f a := ⟨_, rfl⟩
      rw [← hf2] at hto
      have hk5 := HM.out.upd
      have hs5 : MapIs w5 strKf mapVf strOk cb C := HDf.out.twos.keep hk5.keeps (HAP.out _ (.inr (.inr (.inl rfl))))
      have q1 : w5.cell? ⟨ft, 1, none⟩ = some (.map (some cb)) := (hk5.keeps.cell (p := ⟨ft, 1, none⟩) (HFL.out _ (.inl rfl)) (HAP.out _ (.inl rfl))).trans HQ1.out
      have HTO := Lib.hid hto
      have HK5 := Lib.hid hk5
      have HF2 := Lib.hid hf2
      clear hto hk5 hf2 HM HLN
      (try go_frame)
      go_wp2_with (at_range; refine wpList_range_is rfl _ _ rfl Try.underlying60 rfl hs5 ?_; intro w8 hrg8 hb8 hz8)
      have hst : MgTwo W0 w8 w5.heap.size tt cb F0 f2 g g' C C F' := ⟨hrg8, fun _ h => h, by rw [addR_all HIf.out]; exact (TabObj.own _ _ _).below HTO.out hb8, ⟨HK5.out.keeps.trans (Keeps.ofBelow hb8 (fun _ => False)) (fun _ _ e => e.elim), HK5.out.foot⟩, fun h => by have := (TabObj.own _ _ _).lt HTO.out _ h; omega⟩
      have HST := Lib.hid hst
      have hz5 := HK5.out.keeps.size
      clear hst hrg8 hb8 hz8 hs5 q1 HTO
      obtain ⟨r2, hr2⟩ : ∃ r2, r2 = w5.heap.size := ⟨_, rfl⟩
      rw [← hr2] at HST ⊢
      have HR2 : Hid (W0.heap.size ≤ r2) := Lib.hid (by omega)
      clear hr2 hz5 HK5
      go_frame
      go_loopg [] C.length (fun rest wr => ∃ left F', Hid (rest = List.length left) ∧ Hid (MgTwo W0 wr r2 tt cb F0 f2 g g' C left F'))
      case atStart => exact ⟨C, F', Lib.hid rfl, HST⟩
      case round =>
        clear HST
        obtain ⟨left, F', HLN, HM⟩ := hrel
        obtain ⟨w9, rfl⟩ : ∃ w9 : World, w9 = wr := ⟨_, rfl⟩
        go_wp2_with (at_next; refine wpList_next_is rfl _ rfl rfl HM.out.rg ?_ ?_)
        · intro h0
          subst h0
          (try go_frame)
          go_wp2
          go_end0
          have hto := HM.out.to_
          rw [addR_nil, HF2.out, HEQ.out.1, HEQ.out.2] at hto
          exact ⟨rfl, tt, F', HPF.out.1.keep HM.out.upd.keeps HPF.out.2, hto, HKY.out.1.trans HM.out.upd.keeps (fun k hk e => by
            rcases HKY.out.2 k e with h3 | h3
            · exact .inr h3
            · omega)⟩
        · intro k b w6 hmem hrg6 hk6 hz6 hen
          have hml := mdel_len HM.out.rg.nodup (p := (k, b)) hmem
          simp only at hml
          have HML := Lib.hid hml
          have hmS := HM.out.sub _ hmem
          have hfb : tabFoot ft sb cb C b := .inr (.inr (.inr ⟨_, hmS, rfl⟩))
          have hbl := HFL.out b hfb
          have hbn := HAP.out b hfb
          have hrow6 : MapIs w6 strKf intVf strOk b (R b) := ((HDf.out.rows _ hmS).keep HM.out.upd.keeps hbn).keep hk6 (by have := HR2.out; omega)
          have hkok : strOk k := HDf.out.twos.ok _ hmS
          simp only [strKf, mapVf] at hen
          have HZ6 := Lib.hid hz6
          have HBL := Lib.hid (And.intro hbl hbn)
          have HRG6 := Lib.hid hrg6
          have HK6 := Lib.hid hk6
          have HMS := Lib.hid hmS
          clear hml hrg6 hk6 hz6 hmS hfb hbl hbn
          (try go_frame)
          go_wp2_with (at_range; refine wpList_range_is rfl _ _ rfl Try.underlying59 rfl hrow6 ?_; intro w8 hrg8 hb8 hz8)
          have hin := HM.out.into HIf.out HDf.out.twos.nodup hmem HRG6.out HK6.out HR2.out hrg8 hb8
          have hz9 := HM.out.upd.keeps.size
          have hz6 := HK6.out.size
          have HR3 : Hid (W0.heap.size ≤ w6.heap.size) := Lib.hid (by omega)
          have HIN := Lib.hid hin
          clear hin hrg8 hb8 hz8 hrow6 hz9 hz6 HRG6 HK6 HZ6
          obtain ⟨r3, hr3⟩ : ∃ r3, r3 = w6.heap.size := ⟨_, rfl⟩
          rw [← hr3] at HIN HR3 ⊢
          clear hr3
          have HLN0 := HLN
          clear HLN
          go_frame
          go_loopg [] (R b).length (fun rest wr => ∃ lr F', Hid (rest = List.length lr) ∧ Hid (MgIn W0 wr r2 r3 tt cb b F0 f2 g g' C (mdel left k) k (R b) lr F'))
          case atStart => exact ⟨R b, F', Lib.hid rfl, HIN⟩
          case round =>
            clear HIN
            obtain ⟨lr, F2, HLR, HN⟩ := hrel
            obtain ⟨wa, rfl⟩ : ∃ wa : World, wa = wr := ⟨_, rfl⟩
            go_wp2_with (at_next; refine wpList_next_is rfl _ rfl rfl HN.out.rg2 ?_ ?_)
            · intro h0
              subst h0
              have HO := Lib.hid HN.out.out
              (try go_frame)
              (try go_wp2)
              go_roundg (mdel left k).length
              case measure => have := HML.out; have := HLN0.out; omega
              case rel => exact ⟨mdel left k, F2, Lib.hid rfl, HO⟩
            · intro x n wb hmx hrgb hkb hzb henb
              have hmlx := mdel_len HN.out.rg2.nodup (p := (x, n)) hmx
              simp only at hmlx
              have HMLX := Lib.hid hmlx
              have hxok : strOk x := (HDf.out.rows _ HMS.out).ok _ (HN.out.sub2 _ hmx)
              have hn0 : 0 < n := HIf.out.ppos _ HMS.out _ (HN.out.sub2 _ hmx)
              have hat := addI_at g g' (mdel left k) k HN.out.rg2.nodup hmx
              have HQ := Lib.hid (pair_any tt F2 f2 (addI g g' (mdel left k) k lr) k x n wb (HN.out.to6 hkb) hkok hxok hn0 (by rw [hat]; exact HB2.out k x))
              have HRGB := Lib.hid hrgb
              have HKB := Lib.hid hkb
              simp only [strKf, intVf] at henb
              clear hmlx hxok hn0 hat hrgb hkb hzb
              (try go_frame)
              go_wp2_with fail
              refine HQ.out.mono ?_
              rintro e wc ⟨rfl, F3, hT, hU⟩
              have HS2 := Lib.hid (HN.out.step hmx HRGB.out HKB.out HR3.out (HFL.out _ (.inr (.inr (.inl rfl)))) (HAP.out _ (.inr (.inr (.inl rfl)))) HBL.out.1 HBL.out.2 hT hU)
              clear hT hU HQ HRGB HKB
              go_wp2
              go_roundg (mdel lr x).length
              case measure => have := HMLX.out; have := HLR.out; omega
              case rel => exact ⟨mdel lr x, F3, Lib.hid rfl, HS2⟩
    · intro k n w6 hmem hrg6 hk6 hz6 hen
      have hml := mdel_len HM.out.rg.nodup (p := (k, n)) hmem
      simp only at hml
      have HML := Lib.hid hml
      have hkok : strOk k := HDf.out.ones.ok _ (HM.out.sub _ hmem)
      have hn0 : 0 < n := HIf.out.spos _ (HM.out.sub _ hmem)
      have hat := addS_at f f' HM.out.rg.nodup hmem
      have HQ := Lib.hid (single_any tt F' (addS f f' left) g' k n w6 (HM.out.to6 hk6) hkok hn0 (by rw [hat]; exact HB1.out k))
      have HRG6 := Lib.hid hrg6
      have HK6 := Lib.hid hk6
      simp only [strKf, intVf] at hen
      clear hml hkok hn0 hat hrg6 hk6 hz6
      (try go_frame)
      go_wp2_with fail
      refine HQ.out.mono ?_
      rintro e w7 ⟨rfl, F2, hT, hU⟩
      have HS2 := Lib.hid (HM.out.step hmem HRG6.out HK6.out HR1.out (HFL.out _ (.inr (.inl rfl))) (HAP.out _ (.inr (.inl rfl))) hT hU)
      clear hT hU HQ HRG6 HK6
      go_wp2
      go_roundg (mdel left k).length
      case measure => have := HML.out; have := HLN.out; omega
      case rel => exact ⟨mdel left k, F2, Lib.hid rfl, HS2⟩
end Go.Proofs.Ytbmkejiijkbmlaa
