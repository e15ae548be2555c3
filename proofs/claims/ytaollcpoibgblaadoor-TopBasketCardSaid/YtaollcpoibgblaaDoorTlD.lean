/- Contract of tale.told. -/
import Derived.Test.YtaollcpoibgblaaDoorTlE
import Derived.Test.YtaollcpoibgblaaDoorKitC
import Derived.Deep.DeepCutAuto
namespace Go.Proofs.YtaollcpoibgblaaDoor
open Go.ChangeShapes Go.WideShapes Go.ChangeAt Go.RowKit
set_option linter.unusedVariables false
set_option linter.unusedSimpArgs false

def srcOf (x0 : Int) : Int := (x0.tdiv 16).tmod 2
def ToldNew (x0 num tick : Int) (w : World) (e : Ending) (w' : World) : Prop :=
  ∃ E : EvV, e = .returned (evVal E) ∧ E.src = nm 115 (srcOf x0) ∧ E.num = num ∧ 0 ≤ E.at_ ∧ E.at_ ≤ tick ∧ ShapeE E ∧ Below w.heap.size w w'
/-- What the first half of told leaves: the event's box with its source, number, place and kind. -/
def EvBox (w : World) (bx rb eb : Nat) (src : ByteArray) (num at_ kd : Int) (W : World) : Prop :=
  W.heap[eb]? = some (.cells #[.string src, .int .i64 num, .int .i64 at_, .int .i64 kd, .string ⟨#[]⟩, .string ⟨#[]⟩, .int .i64 0, .string ⟨#[]⟩] 51 (0, 0)) ∧
  (∃ z : List Value, W.heap[rb]? = some (.cells z.toArray 51 (0, 0)) ∧ z.length = 8) ∧ rb ≠ eb ∧ w.heap.size ≤ rb ∧ w.heap.size ≤ eb ∧ Below w.heap.size w W

theorem setCell_blk {W : World} {g : Nat} {cs : List Value} {t : TypeId} (h : W.heap[g]? = some (.cells cs.toArray t (0, 0))) (i : Nat) (v : Value) : (W.setCell ⟨g, i, none⟩ v).heap[g]? = some (.cells (cs.set i v).toArray t (0, 0)) := by
  rw [setCell_eq_setRow W g i _ _ _ _ h]
  have e : cs.toArray.setIfInBounds i v = (cs.set i v).toArray := by simp
  rw [e]
  exact setRow_block h
theorem setCell_oth {W : World} {g k : Nat} {o : Obj} (h : W.heap[k]? = some o) (hne : k ≠ g) (i : Nat) (v : Value) : (W.setCell ⟨g, i, none⟩ v).heap[k]? = some o := (Below.heap_setCell W ⟨g, i, none⟩ v k hne).trans h
set_option maxRecDepth 20000 in
set_option maxHeartbeats 4000000 in
theorem told_any (x0 x1 x2 v x4 num tick : Int) (w : World) (hk : KdAt w) (h0 : 0 ≤ x0 ∧ x0 ≤ 255) (h1 : 0 ≤ x1 ∧ x1 ≤ 255) (h2 : 0 ≤ x2 ∧ x2 ≤ 255) (hv : 0 ≤ v ∧ v ≤ 255) (hj : x0.tmod 16 ≤ 12) (ht : 0 ≤ tick ∧ tick ≤ 1000000) :
    Calls Tryd.prog 26 #[.agg #[.int .i64 x0, .int .i64 x1, .int .i64 x2, .int .i64 v, .int .i64 x4], .int .i64 num, .int .i64 tick] w (ToldNew x0 num tick w) := by
  obtain ⟨q, hq⟩ : ∃ q, x0.tdiv 16 = q := ⟨_, rfl⟩
  obtain ⟨p, hp⟩ : ∃ p, x0.tdiv 32 = p := ⟨_, rfl⟩
  obtain ⟨s, hs⟩ : ∃ s, q.tmod 2 = s := ⟨_, rfl⟩
  obtain ⟨j, hjn⟩ : ∃ j : Nat, x0.tmod 16 = (j : Int) := ⟨(x0.tmod 16).toNat, by rw [Int.toNat_of_nonneg (Int.tmod_nonneg _ h0.1)]⟩
  have hq0 : 0 ≤ q ∧ q ≤ 15 := by rw [← hq, Int.tdiv_eq_ediv_of_nonneg h0.1]; omega
  have hp0 : 0 ≤ p ∧ p ≤ 7 := by rw [← hp, Int.tdiv_eq_ediv_of_nonneg h0.1]; omega
  have hs0 : 0 ≤ s ∧ s ≤ 1 := by rw [← hs, Int.tmod_eq_emod_of_nonneg hq0.1]; omega
  have hj12 : j < 13 := by omega
  have HSRC : Hid (srcOf x0 = s) := Lib.hid (by unfold srcOf; rw [hq, hs])
  obtain ⟨kd, hkd⟩ : ∃ kd, kd = kdL.getD j 0 := ⟨_, rfl⟩
  have hkc := hk.2 j hj12
  rw [← hkd] at hkc
  have hkl := hk.1
  obtain ⟨a, ha⟩ : ∃ a, x1.tmod 4 = a := ⟨_, rfl⟩
  obtain ⟨i, hi⟩ : ∃ i, x2.tmod 6 = i := ⟨_, rfl⟩
  obtain ⟨m, hm⟩ : ∃ m, v.tmod 3 = m := ⟨_, rfl⟩
  have ha0 : 0 ≤ a ∧ a ≤ 3 := by rw [← ha, Int.tmod_eq_emod_of_nonneg h1.1]; omega
  have hi0 : 0 ≤ i ∧ i ≤ 5 := by rw [← hi, Int.tmod_eq_emod_of_nonneg h2.1]; omega
  have hm0 : 0 ≤ m ∧ m ≤ 2 := by rw [← hm, Int.tmod_eq_emod_of_nonneg hv.1]; omega
  have HA := Lib.hid ha
  have HI := Lib.hid hi
  have HM := Lib.hid hm
  have HKD := Lib.hid hkd
  have HJ12 := Lib.hid hj12
  have HKL := Lib.hid hkl
  have HK := Lib.hid hkc
  have HV := Lib.hid hv
  clear ha hi hm hkd hk hj hj12 hkl hkc h0 h1 h2 hv
  go_enter Tryd.func26, Tryd.ntmps26
  go_wp2_with fail
  have hw1 := alloc2N w (.cells #[.int .i64 x0, .int .i64 x1, .int .i64 x2, .int .i64 v, .int .i64 x4] 78) (.cells #[.string ⟨#[]⟩, .int .i64 0, .int .i64 0, .int .i64 0, .string ⟨#[]⟩, .string ⟨#[]⟩, .int .i64 0, .string ⟨#[]⟩] 51)
  generalize (w.alloc (.cells #[.int .i64 x0, .int .i64 x1, .int .i64 x2, .int .i64 v, .int .i64 x4] 78)).alloc (.cells #[.string ⟨#[]⟩, .int .i64 0, .int .i64 0, .int .i64 0, .string ⟨#[]⟩, .string ⟨#[]⟩, .int .i64 0, .string ⟨#[]⟩] 51) = W1 at *
  obtain ⟨hr, hbx, hb1, hz⟩ := hw1
  have d0 : W1.cell? ⟨w.heap.size, 0, none⟩ = some (.int .i64 x0) := by rw [cell_of_row W1 w.heap.size 0 _ _ _ hbx]; rfl
  have d3 : W1.cell? ⟨w.heap.size, 3, none⟩ = some (.int .i64 v) := by rw [cell_of_row W1 w.heap.size 3 _ _ _ hbx]; rfl
  go_quiet (fail)
  clear d0 d3
  have hr2 : (W1.drewN nq).heap[w.heap.size + 1]? = _ := hr
  have hbx2 : (W1.drewN nq).heap[w.heap.size]? = _ := hbx
  have hb2 : Below w.heap.size w (W1.drewN nq) := below_drewN hb1 nq
  have hz2 : (W1.drewN nq).heap.size = w.heap.size + 1 + 1 := hz
  generalize W1.drewN nq = W2 at *
  have HR := Lib.hid hr2
  have HBX := Lib.hid hbx2
  have HB := Lib.hid hb2
  have HZ := Lib.hid hz2
  clear hr hbx hb1 hz hr2 hbx2 hb2 hz2
  obtain ⟨at_, hat⟩ : ∃ at_, max (tick - 5 * p) 0 = at_ := ⟨_, rfl⟩
  have HAT : Hid (0 ≤ at_ ∧ at_ ≤ tick) := Lib.hid (by omega)
  go_upto_region 2 with fail
  go_cut [9] (fun s9 wx => s9 = .pointer (some ⟨W2.heap.size, 0, none⟩) ∧ wx = W2.drew.alloc (.cells #[.string (nm 115 s), .int .i64 num, .int .i64 at_, .int .i64 kd, .string ⟨#[]⟩, .string ⟨#[]⟩, .int .i64 0, .string ⟨#[]⟩] 51))
  case first =>
    have e1 : W2.drew.cell? ⟨0, j, none⟩ = some (.int .i64 kd) := (HB.out.cell (p := ⟨0, j, none⟩) HKL.out).trans HK.out
    have hjz : (0 : Int) ≤ (j : Int) ∧ (j : Int) < 13 := by have := HJ12.out; omega
    have hwq : IntKind.i64.wrap q = q := IntWalk.i64_in _ (by omega)
    have hwp : IntKind.i64.wrap p = p := IntWalk.i64_in _ (by omega)
    have hw5 : IntKind.i64.wrap (5 * p) = 5 * p := IntWalk.i64_in _ (by omega)
    have hwt : IntKind.i64.wrap (tick - 5 * p) = tick - 5 * p := IntWalk.i64_in _ (by omega)
    have hkz : 0 < W2.heap.size := by have := HKL.out; have := HZ.out; omega
    refine heldStart 17 (S := fun W => W.cell? ⟨0, j, none⟩ = some (.int .i64 kd)) (by kernel_rfl) ?_ (fun hHeld => ?_)
    · first | exact e1 | exact (World.cell?_alloc_lt W2 _ ⟨0, j, none⟩ hkz).trans e1 | exact (World.cell?_alloc_lt W2.drew _ ⟨0, j, none⟩ hkz).trans e1
    refine heldTake 0 (v := ?_) (by simp only [List.getElem?_toArray, List.getElem?_cons_succ, List.getElem?_cons_zero]; rfl) (by kernel_rfl) (by intro _ _ _ h; exact h) (by rfl) (by assumption) ?_ ?_
    rotate_left
    · intro W hSw; (try dsimp only at hSw); go_simp; try with_reducible rfl
    simp only [Act.put, List.setIfInBounds_toArray, List.set_cons_zero, List.set_cons_succ]
    refine heldTake 1 (v := ?_) (by simp only [List.getElem?_toArray, List.getElem?_cons_succ, List.getElem?_cons_zero]; rfl) (by kernel_rfl) (by intro _ _ _ h; exact h) (by rfl) (by assumption) ?_ ?_
    rotate_left
    · intro W hSw; (try dsimp only at hSw); go_simp; try with_reducible rfl
    simp only [Act.put, List.setIfInBounds_toArray, List.set_cons_zero, List.set_cons_succ]
    refine heldTake 2 (v := ?_) (by simp only [List.getElem?_toArray, List.getElem?_cons_succ, List.getElem?_cons_zero]; rfl) (by kernel_rfl) (by intro _ _ _ h; exact h) (by rfl) (by assumption) ?_ ?_
    rotate_left
    · intro W hSw; (try dsimp only at hSw); go_simp; try with_reducible rfl
    simp only [Act.put, List.setIfInBounds_toArray, List.set_cons_zero, List.set_cons_succ]
    refine heldTake 4 (v := ?_) (by simp only [List.getElem?_toArray, List.getElem?_cons_succ, List.getElem?_cons_zero]; rfl) (by kernel_rfl) (by intro _ _ _ h; exact h) (by rfl) (by assumption) ?_ ?_
    rotate_left
    · intro W hSw; (try dsimp only at hSw); go_simp; try with_reducible rfl
    simp only [Act.put, List.setIfInBounds_toArray, List.set_cons_zero, List.set_cons_succ]
    refine heldTake 5 (v := ?_) (by simp only [List.getElem?_toArray, List.getElem?_cons_succ, List.getElem?_cons_zero]; rfl) (by kernel_rfl) (by intro _ _ _ h; exact h) (by rfl) (by assumption) ?_ ?_
    rotate_left
    · intro W hSw; (try dsimp only at hSw); go_simp; try with_reducible rfl
    simp only [Act.put, List.setIfInBounds_toArray, List.set_cons_zero, List.set_cons_succ]
    refine heldTake 6 (v := ?_) (by simp only [List.getElem?_toArray, List.getElem?_cons_succ, List.getElem?_cons_zero]; rfl) (by kernel_rfl) (by intro _ _ _ h; exact h) (by rfl) (by assumption) ?_ ?_
    rotate_left
    · intro W hSw; (try dsimp only at hSw); go_simp; try with_reducible rfl
    simp only [Act.put, List.setIfInBounds_toArray, List.set_cons_zero, List.set_cons_succ]
    refine heldTake 7 (v := ?_) (by simp only [List.getElem?_toArray, List.getElem?_cons_succ, List.getElem?_cons_zero]; rfl) (by kernel_rfl) (by intro _ _ _ h; exact h) (by rfl) (by assumption) ?_ ?_
    rotate_left
    · intro W hSw; (try dsimp only at hSw); go_simp; try with_reducible rfl
    simp only [Act.put, List.setIfInBounds_toArray, List.set_cons_zero, List.set_cons_succ]
    refine heldTake 8 (v := ?_) (by simp only [List.getElem?_toArray, List.getElem?_cons_succ, List.getElem?_cons_zero]; rfl) (by kernel_rfl) (by intro _ _ _ h; exact h) (by rfl) (by assumption) ?_ ?_
    rotate_left
    · intro W hSw; (try dsimp only at hSw); go_simp; try with_reducible rfl
    simp only [Act.put, List.setIfInBounds_toArray, List.set_cons_zero, List.set_cons_succ]
    refine heldTake 9 (v := ?_) (by simp only [List.getElem?_toArray, List.getElem?_cons_succ, List.getElem?_cons_zero]; rfl) (by kernel_rfl) (by intro _ _ _ h; exact h) (by rfl) (by assumption) ?_ ?_
    rotate_left
    · intro W hSw; (try dsimp only at hSw); go_simp; try with_reducible rfl
    simp only [Act.put, List.setIfInBounds_toArray, List.set_cons_zero, List.set_cons_succ]
    refine heldTake 10 (v := ?_) (by simp only [List.getElem?_toArray, List.getElem?_cons_succ, List.getElem?_cons_zero]; rfl) (by kernel_rfl) (by intro _ _ _ h; exact h) (by rfl) (by assumption) ?_ ?_
    rotate_left
    · intro W hSw; (try dsimp only at hSw); go_simp; try with_reducible rfl
    simp only [Act.put, List.setIfInBounds_toArray, List.set_cons_zero, List.set_cons_succ]
    refine heldTake 11 (v := ?_) (by simp only [List.getElem?_toArray, List.getElem?_cons_succ, List.getElem?_cons_zero]; rfl) (by kernel_rfl) (by intro _ _ _ h; exact h) (by rfl) (by assumption) ?_ ?_
    rotate_left
    · intro W hSw; (try dsimp only at hSw); go_simp; try with_reducible rfl
    simp only [Act.put, List.setIfInBounds_toArray, List.set_cons_zero, List.set_cons_succ]
    refine heldTake 12 (v := ?_) (by simp only [List.getElem?_toArray, List.getElem?_cons_succ, List.getElem?_cons_zero]; rfl) (by kernel_rfl) (by intro _ _ _ h; exact h) (by rfl) (by assumption) ?_ ?_
    rotate_left
    · intro W hSw; (try dsimp only at hSw); go_simp; try with_reducible rfl
    simp only [Act.put, List.setIfInBounds_toArray, List.set_cons_zero, List.set_cons_succ]
    refine heldTake 13 (v := ?_) (by simp only [List.getElem?_toArray, List.getElem?_cons_succ, List.getElem?_cons_zero]; rfl) (by kernel_rfl) (by intro _ _ _ h; exact h) (by rfl) (by assumption) ?_ ?_
    rotate_left
    · intro W hSw; (try dsimp only at hSw); go_simp; try with_reducible rfl
    simp only [Act.put, List.setIfInBounds_toArray, List.set_cons_zero, List.set_cons_succ]
    refine heldTake 14 (v := ?_) (by simp only [List.getElem?_toArray, List.getElem?_cons_succ, List.getElem?_cons_zero]; rfl) (by kernel_rfl) (by intro _ _ _ h; exact h) (by rfl) (by assumption) ?_ ?_
    rotate_left
    · intro W hSw; (try dsimp only at hSw); go_simp; try with_reducible rfl
    simp only [Act.put, List.setIfInBounds_toArray, List.set_cons_zero, List.set_cons_succ]
    refine heldFork 3 16 (by kernel_rfl) ?_ ?_
    · refine heldOp 3 (by simp only [List.getElem?_toArray, List.getElem?_cons_succ, List.getElem?_cons_zero]; rfl) (fun K hK => ?_)
      go_simp
      refine (numbered_any 115 s _ hs0.1 (by omega)).mono ?_
      rintro e w6 ⟨rfl, rfl⟩
      go_wp2_with fail
      refine hK.out _ _ ?_ (fun hHeld => ?_)
      · first | exact e1 | exact (World.cell?_alloc_lt W2 _ ⟨0, j, none⟩ hkz).trans e1 | exact (World.cell?_alloc_lt W2.drew _ ⟨0, j, none⟩ hkz).trans e1
      clear hK K
      (try simp only [Act.put, List.setIfInBounds_toArray, List.set_cons_zero, List.set_cons_succ])
      refine heldTake 15 (v := ?_) (by simp only [List.getElem?_toArray, List.getElem?_cons_succ, List.getElem?_cons_zero]; rfl) (by kernel_rfl) (by intro _ _ _ h; exact h) (by rfl) (by assumption) ?_ ?_
      rotate_left
      · intro W hSw; (try dsimp only at hSw); go_simp; try with_reducible rfl
      simp only [Act.put, List.setIfInBounds_toArray, List.set_cons_zero, List.set_cons_succ]
      refine heldCall 16 (by simp only [List.getElem?_toArray, List.getElem?_cons_succ, List.getElem?_cons_zero]; rfl) (by kernel_rfl) (fun K hK => ?_)
      go_wp2_with fail
      refine hK.out _ _ ?_ (fun hHeld => ?_)
      · first | exact e1 | exact (World.cell?_alloc_lt W2 _ ⟨0, j, none⟩ hkz).trans e1 | exact (World.cell?_alloc_lt W2.drew _ ⟨0, j, none⟩ hkz).trans e1
      clear hK K
      (try simp only [Act.put, List.setIfInBounds_toArray, List.set_cons_zero, List.set_cons_succ])
      refine heldLast 17 (by simp only [List.getElem?_toArray, List.getElem?_cons_succ, List.getElem?_cons_zero]; rfl) (by kernel_rfl) rfl (fun K hK => ?_)
      go_wp2_with fail
      refine hK.out _ _ ?_
      clear hK K
      (try simp only [Act.put, List.setIfInBounds_toArray, List.set_cons_zero, List.set_cons_succ])
      refine heldDone (by kernel_rfl) ?_ _
      go_wp2_with fail
      go_meet
      case rel => exact ⟨rfl, rfl⟩
    · refine heldOp 16 (by simp only [List.getElem?_toArray, List.getElem?_cons_succ, List.getElem?_cons_zero]; rfl) (fun K hK => ?_)
      go_wp2_with fail
      refine hK.out _ _ ?_ (fun hHeld => ?_)
      · first | exact e1 | exact (World.cell?_alloc_lt W2 _ ⟨0, j, none⟩ hkz).trans e1 | exact (World.cell?_alloc_lt W2.drew _ ⟨0, j, none⟩ hkz).trans e1
      clear hK K
      (try simp only [Act.put, List.setIfInBounds_toArray, List.set_cons_zero, List.set_cons_succ])
      refine heldCall 3 (by simp only [List.getElem?_toArray, List.getElem?_cons_succ, List.getElem?_cons_zero]; rfl) (by kernel_rfl) (fun K hK => ?_)
      go_simp
      refine (numbered_any 115 s _ hs0.1 (by omega)).mono ?_
      rintro e w6 ⟨rfl, rfl⟩
      go_wp2_with fail
      refine hK.out _ _ ?_ (fun hHeld => ?_)
      · first | exact e1 | exact (World.cell?_alloc_lt W2 _ ⟨0, j, none⟩ hkz).trans e1 | exact (World.cell?_alloc_lt W2.drew _ ⟨0, j, none⟩ hkz).trans e1
      clear hK K
      (try simp only [Act.put, List.setIfInBounds_toArray, List.set_cons_zero, List.set_cons_succ])
      refine heldTake 15 (v := ?_) (by simp only [List.getElem?_toArray, List.getElem?_cons_succ, List.getElem?_cons_zero]; rfl) (by kernel_rfl) (by intro _ _ _ h; exact h) (by rfl) (by assumption) ?_ ?_
      rotate_left
      · intro W hSw; (try dsimp only at hSw); go_simp; try with_reducible rfl
      simp only [Act.put, List.setIfInBounds_toArray, List.set_cons_zero, List.set_cons_succ]
      refine heldLast 17 (by simp only [List.getElem?_toArray, List.getElem?_cons_succ, List.getElem?_cons_zero]; rfl) (by kernel_rfl) rfl (fun K hK => ?_)
      go_wp2_with fail
      refine hK.out _ _ ?_
      clear hK K
      (try simp only [Act.put, List.setIfInBounds_toArray, List.set_cons_zero, List.set_cons_succ])
      refine heldDone (by kernel_rfl) ?_ _
      go_wp2_with fail
      go_meet
      case rel => exact ⟨rfl, rfl⟩
  case rest =>
    obtain ⟨rfl, rfl⟩ := hcut
    have hE : Hid (EvBox w 0 (w.heap.size + 1) W2.heap.size (nm 115 s) num at_ kd (W2.drew.alloc (.cells #[.string (nm 115 s), .int .i64 num, .int .i64 at_, .int .i64 kd, .string ⟨#[]⟩, .string ⟨#[]⟩, .int .i64 0, .string ⟨#[]⟩] 51))) := Lib.hid (by
      have hz := HZ.out
      refine ⟨heap_alloc_new W2.drew _, ⟨[.string ⟨#[]⟩, .int .i64 0, .int .i64 0, .int .i64 0, .string ⟨#[]⟩, .string ⟨#[]⟩, .int .i64 0, .string ⟨#[]⟩], ?_, rfl⟩, by omega, by omega, by omega, ?_⟩
      · rw [Below.heap_alloc _ _ _ (by show _ < W2.heap.size; omega)]; exact HR.out
      · exact (HB.out.drew).alloc (by show _ ≤ W2.heap.size; omega) _)
    have hb3 : (W2.drew.alloc (.cells #[.string (nm 115 s), .int .i64 num, .int .i64 at_, .int .i64 kd, .string ⟨#[]⟩, .string ⟨#[]⟩, .int .i64 0, .string ⟨#[]⟩] 51)).heap[w.heap.size]? = some (.cells #[.int .i64 x0, .int .i64 x1, .int .i64 x2, .int .i64 v, .int .i64 x4] 78 (0, 0)) := by
      rw [Below.heap_alloc _ _ _ (by have := HZ.out; show _ < W2.heap.size; omega)]; exact HBX.out
    have HC := Lib.hid hb3
    clear hb3 HBX
    generalize (W2.drew.alloc (.cells #[.string (nm 115 s), .int .i64 num, .int .i64 at_, .int .i64 kd, .string ⟨#[]⟩, .string ⟨#[]⟩, .int .i64 0, .string ⟨#[]⟩] 51)) = W3 at *
    generalize W2.heap.size = eb at *
    have HA1 := Lib.hid ha0
    have HI1 := Lib.hid hi0
    have HM1 := Lib.hid hm0
    have d1 : W3.cell? ⟨w.heap.size, 1, none⟩ = some (.int .i64 x1) := by rw [cell_of_row W3 w.heap.size 1 _ _ _ HC.out]; rfl
    have d2 : W3.cell? ⟨w.heap.size, 2, none⟩ = some (.int .i64 x2) := by rw [cell_of_row W3 w.heap.size 2 _ _ _ HC.out]; rfl
    have ha := HA.out
    have hi := HI.out
    have hm := HM.out
    have QA := Lib.hid (numbered_q 112 a ha0.1 (by omega))
    have QI := Lib.hid (numbered_q 105 i hi0.1 (by omega))
    have QM := Lib.hid (numbered_q 109 m hm0.1 (by omega))
    clear ha0 hi0 hm0 hq hp hs hjn hq0 hp0 hs0 hat HC
    go_upto_region 3 with fail
    go_cut [10, 11, 12] (fun s10 s11 s12 wx => s10 = .string (nm 112 a) ∧ s11 = .string (nm 105 i) ∧ s12 = .string (nm 109 m) ∧ ∃ n, wx = W3.drewN n)
    case first =>
      refine heldStart 13 (S := fun W => W.cell? ⟨w.heap.size, 1, none⟩ = some (.int .i64 x1) ∧ W.cell? ⟨w.heap.size, 2, none⟩ = some (.int .i64 x2)) (by kernel_rfl) ?_ (fun hHeld => ?_)
      · exact ⟨d1, d2⟩
      refine heldTake 0 (v := ?_) (by simp only [List.getElem?_toArray, List.getElem?_cons_succ, List.getElem?_cons_zero]; rfl) (by kernel_rfl) (by intro _ _ _ h; exact h) (by rfl) (by assumption) ?_ ?_
      rotate_left
      · intro W hSw; (try dsimp only at hSw); go_simp; try with_reducible rfl
      simp only [Act.put, List.setIfInBounds_toArray, List.set_cons_zero, List.set_cons_succ]
      refine heldTake 1 (v := ?_) (by simp only [List.getElem?_toArray, List.getElem?_cons_succ, List.getElem?_cons_zero]; rfl) (by kernel_rfl) (by intro _ _ _ h; exact h) (by rfl) (by assumption) ?_ ?_
      rotate_left
      · intro W hSw; (try dsimp only at hSw); go_simp; try with_reducible rfl
      simp only [Act.put, List.setIfInBounds_toArray, List.set_cons_zero, List.set_cons_succ]
      refine heldTake 2 (v := ?_) (by simp only [List.getElem?_toArray, List.getElem?_cons_succ, List.getElem?_cons_zero]; rfl) (by kernel_rfl) (by intro _ _ _ h; exact h) (by rfl) (by assumption) ?_ ?_
      rotate_left
      · intro W hSw; (try dsimp only at hSw); go_simp; try with_reducible rfl
      simp only [Act.put, List.setIfInBounds_toArray, List.set_cons_zero, List.set_cons_succ]
      refine heldTake 4 (v := ?_) (by simp only [List.getElem?_toArray, List.getElem?_cons_succ, List.getElem?_cons_zero]; rfl) (by kernel_rfl) (by intro _ _ _ h; exact h) (by rfl) (by assumption) ?_ ?_
      rotate_left
      · intro W hSw; (try dsimp only at hSw); go_simp; try with_reducible rfl
      simp only [Act.put, List.setIfInBounds_toArray, List.set_cons_zero, List.set_cons_succ]
      refine heldTake 5 (v := ?_) (by simp only [List.getElem?_toArray, List.getElem?_cons_succ, List.getElem?_cons_zero]; rfl) (by kernel_rfl) (by intro _ _ _ h; exact h) (by rfl) (by assumption) ?_ ?_
      rotate_left
      · intro W hSw; (try dsimp only at hSw); go_simp; try with_reducible rfl
      simp only [Act.put, List.setIfInBounds_toArray, List.set_cons_zero, List.set_cons_succ]
      refine heldTake 6 (v := ?_) (by simp only [List.getElem?_toArray, List.getElem?_cons_succ, List.getElem?_cons_zero]; rfl) (by kernel_rfl) (by intro _ _ _ h; exact h) (by rfl) (by assumption) ?_ ?_
      rotate_left
      · intro W hSw; (try dsimp only at hSw); go_simp; try with_reducible rfl
      simp only [Act.put, List.setIfInBounds_toArray, List.set_cons_zero, List.set_cons_succ]
      refine heldTake 8 (v := ?_) (by simp only [List.getElem?_toArray, List.getElem?_cons_succ, List.getElem?_cons_zero]; rfl) (by kernel_rfl) (by intro _ _ _ h; exact h) (by rfl) (by assumption) ?_ ?_
      rotate_left
      · intro W hSw; (try dsimp only at hSw); go_simp; try with_reducible rfl
      simp only [Act.put, List.setIfInBounds_toArray, List.set_cons_zero, List.set_cons_succ]
      refine heldTake 9 (v := ?_) (by simp only [List.getElem?_toArray, List.getElem?_cons_succ, List.getElem?_cons_zero]; rfl) (by kernel_rfl) (by intro _ _ _ h; exact h) (by rfl) (by assumption) ?_ ?_
      rotate_left
      · intro W hSw; (try dsimp only at hSw); go_simp; try with_reducible rfl
      simp only [Act.put, List.setIfInBounds_toArray, List.set_cons_zero, List.set_cons_succ]
      refine heldCall 3 (by simp only [List.getElem?_toArray, List.getElem?_cons_succ, List.getElem?_cons_zero]; rfl) (by kernel_rfl) (fun K hK => ?_)
      go_simp
      refine (QA.out _).mono ?_
      rintro e w6 ⟨rfl, rfl⟩
      go_wp2_with fail
      refine hK.out _ _ ?_ (fun hHeld => ?_)
      · exact ⟨d1, d2⟩
      clear hK K
      (try simp only [Act.put, List.setIfInBounds_toArray, List.set_cons_zero, List.set_cons_succ])
      refine heldCall 7 (by simp only [List.getElem?_toArray, List.getElem?_cons_succ, List.getElem?_cons_zero]; rfl) (by kernel_rfl) (fun K hK => ?_)
      go_simp
      refine (QI.out _).mono ?_
      rintro e w6 ⟨rfl, rfl⟩
      go_wp2_with fail
      refine hK.out _ _ ?_ (fun hHeld => ?_)
      · exact ⟨d1, d2⟩
      clear hK K
      (try simp only [Act.put, List.setIfInBounds_toArray, List.set_cons_zero, List.set_cons_succ])
      refine heldCall 10 (by simp only [List.getElem?_toArray, List.getElem?_cons_succ, List.getElem?_cons_zero]; rfl) (by kernel_rfl) (fun K hK => ?_)
      go_simp
      refine (QM.out _).mono ?_
      rintro e w6 ⟨rfl, rfl⟩
      go_wp2_with fail
      refine hK.out _ _ ?_ (fun hHeld => ?_)
      · exact ⟨d1, d2⟩
      clear hK K
      (try simp only [Act.put, List.setIfInBounds_toArray, List.set_cons_zero, List.set_cons_succ])
      refine heldTake 11 (v := ?_) (by simp only [List.getElem?_toArray, List.getElem?_cons_succ, List.getElem?_cons_zero]; rfl) (by kernel_rfl) (by intro _ _ _ h; exact h) (by rfl) (by assumption) ?_ ?_
      rotate_left
      · intro W hSw; (try dsimp only at hSw); go_simp; try with_reducible rfl
      simp only [Act.put, List.setIfInBounds_toArray, List.set_cons_zero, List.set_cons_succ]
      refine heldTake 12 (v := ?_) (by simp only [List.getElem?_toArray, List.getElem?_cons_succ, List.getElem?_cons_zero]; rfl) (by kernel_rfl) (by intro _ _ _ h; exact h) (by rfl) (by assumption) ?_ ?_
      rotate_left
      · intro W hSw; (try dsimp only at hSw); go_simp; try with_reducible rfl
      simp only [Act.put, List.setIfInBounds_toArray, List.set_cons_zero, List.set_cons_succ]
      refine heldTake 13 (v := ?_) (by simp only [List.getElem?_toArray, List.getElem?_cons_succ, List.getElem?_cons_zero]; rfl) (by kernel_rfl) (by intro _ _ _ h; exact h) (by rfl) (by assumption) ?_ ?_
      rotate_left
      · intro W hSw; (try dsimp only at hSw); go_simp; try with_reducible rfl
      simp only [Act.put, List.setIfInBounds_toArray, List.set_cons_zero, List.set_cons_succ]
      refine heldDone (by kernel_rfl) ?_ _
      go_wp2_with fail
      go_meet
      case rel => exact ⟨rfl, rfl, rfl, 1, rfl⟩
    case rest =>
      obtain ⟨rfl, rfl, rfl, n3, hn3⟩ := hcut
      have HE3 : Hid (EvBox w 0 (w.heap.size + 1) eb (nm 115 s) num at_ kd wc) := Lib.hid (by
        rw [hn3]
        obtain ⟨y1, y2, y3, y4, y5, y6⟩ := hE.out
        exact ⟨y1, y2, y3, y4, y5, below_drewN y6 n3⟩)
      clear hE hn3 d1 d2 ha hi hm QA QI QM
      generalize wc = W4 at *
      have hkdc : kd = 0 ∨ kd = 1 ∨ kd = 2 ∨ kd = 3 ∨ kd = 4 ∨ kd = 5 ∨ kd = 6 ∨ kd = 7 ∨ kd = 9 ∨ kd = 11 ∨ kd = 12 ∨ kd = 13 := by
        have h : ∀ j : Nat, j < 13 → kdL.getD j 0 = 0 ∨ kdL.getD j 0 = 1 ∨ kdL.getD j 0 = 2 ∨ kdL.getD j 0 = 3 ∨ kdL.getD j 0 = 4 ∨ kdL.getD j 0 = 5 ∨ kdL.getD j 0 = 6 ∨ kdL.getD j 0 = 7 ∨ kdL.getD j 0 = 9 ∨ kdL.getD j 0 = 11 ∨ kdL.getD j 0 = 12 ∨ kdL.getD j 0 = 13 := by decide
        rw [HKD.out]
        exact h j HJ12.out
      clear HKD HK
      have c4 : W4.cell? ⟨eb, 4, none⟩ = some (.string ⟨#[]⟩) := by rw [cell_of_row W4 eb 4 _ _ _ HE3.out.1]; rfl
      have c5 : W4.cell? ⟨eb, 5, none⟩ = some (.string ⟨#[]⟩) := by rw [cell_of_row W4 eb 5 _ _ _ HE3.out.1]; rfl
      have c6 : W4.cell? ⟨eb, 6, none⟩ = some (.int .i64 0) := by rw [cell_of_row W4 eb 6 _ _ _ HE3.out.1]; rfl
      have c7 : W4.cell? ⟨eb, 7, none⟩ = some (.string ⟨#[]⟩) := by rw [cell_of_row W4 eb 7 _ _ _ HE3.out.1]; rfl
      have c3 : W4.cell? ⟨eb, 3, none⟩ = some (.int .i64 kd) := by rw [cell_of_row W4 eb 3 _ _ _ HE3.out.1]; rfl
      have f4 : W4.frozen? ⟨eb, 4, none⟩ = false := frozen_block HE3.out.1 _
      have f5 : W4.frozen? ⟨eb, 5, none⟩ = false := frozen_block HE3.out.1 _
      have f6 : W4.frozen? ⟨eb, 6, none⟩ = false := frozen_block HE3.out.1 _
      have f7 : W4.frozen? ⟨eb, 7, none⟩ = false := frozen_block HE3.out.1 _
      obtain ⟨hE1, ⟨z, hz1, hz2⟩, hne, hl1, hl2, hbl⟩ := HE3.out
      have HE1 := Lib.hid hE1
      have HZ1 := Lib.hid hz1
      have HZ2 := Lib.hid hz2
      have HNE := Lib.hid hne
      have HL := Lib.hid (And.intro hl1 hl2)
      have HBL := Lib.hid hbl
      clear hE1 hz1 hz2 hne hl1 hl2 hbl HE3
      have QL := Lib.hid (fun w => listing_any m v w HM1.out HV.out)
      obtain ⟨tp, htp⟩ : ∃ tp, tp = nm 112 a := ⟨_, rfl⟩
      obtain ⟨ti, hti⟩ : ∃ ti, ti = nm 105 i := ⟨_, rfl⟩
      obtain ⟨tm, htm⟩ : ∃ tm, tm = nm 109 m := ⟨_, rfl⟩
      obtain ⟨ts, hts⟩ : ∃ ts, ts = nm 115 s := ⟨_, rfl⟩
      have hlt : eb < W4.heap.size ∧ w.heap.size + 1 < W4.heap.size ∧ w.heap.size ≤ W4.heap.size := ⟨(Array.getElem?_eq_some_iff.1 HE1.out).1, (Array.getElem?_eq_some_iff.1 HZ1.out).1, HBL.out.size⟩
      have HLT := Lib.hid hlt
      obtain ⟨r, hr⟩ : ∃ r, v.tmod 5 = r := ⟨_, rfl⟩
      have hr0 : 0 ≤ r ∧ r ≤ 4 := by rw [← hr, Int.tmod_eq_emod_of_nonneg HV.out.1]; omega
      have HR5 := Lib.hid (And.intro hr hr0)
      have hm := HM.out
      rw [← htp, ← hti] 
      rw [← htm] at QL ⊢
      rw [← hts] at HE1
      have HTP := Lib.hid htp
      have HTI := Lib.hid hti
      have HTM := Lib.hid htm
      have HTS := Lib.hid hts
      clear htp hti htm hts hlt hr hr0
      rcases hkdc with rfl | rfl | rfl | rfl | rfl | rfl | rfl | rfl | rfl | rfl | rfl | rfl
      · obtain ⟨W6, hW6⟩ : ∃ W6, W6 = ((W4.setCell ⟨eb, 4, none⟩ (.string tp)).setCell ⟨eb, 5, none⟩ (.string ti)) := ⟨_, rfl⟩
        have hx1 : W6.heap[eb]? = some (.cells (evCells ⟨ts, num, at_, 0, tp, ti, 0, ⟨#[]⟩⟩).toArray 51 (0, 0)) := by
          rw [hW6]
          exact HE1.out |> fun h => setCell_blk h 4 (.string tp) |> fun h => setCell_blk h 5 (.string ti)
        have hx2 : W6.heap[w.heap.size + 1]? = some (.cells z.toArray 51 (0, 0)) := by
          rw [hW6]
          exact HZ1.out |> fun h => setCell_oth h HNE.out 4 (.string tp) |> fun h => setCell_oth h HNE.out 5 (.string ti)
        have hx3 : Below w.heap.size w W6 := by
          rw [hW6]
          exact HBL.out |> fun h => h.setCell (p := ⟨eb, 4, none⟩) HL.out.2 (.string tp) |> fun h => h.setCell (p := ⟨eb, 5, none⟩) HL.out.2 (.string ti)
        have HX := Lib.hid hx1
        have HY := Lib.hid hx2
        have HB6 := Lib.hid hx3
        clear hx1 hx2 hx3
        go_upto_region 17 with fail
        rw [← hW6]
        clear hW6
        go_wp2_with (first | (refine wpList_load_row rfl _ _ rfl _ (by rfl) _ _ _ _ HX.out Tryd.underlying51 (by rfl) (by kernel_rfl) ?_) | (refine wpList_store_row rfl 51 _ _ rfl (w.heap.size + 1) _ (by rfl) (by rfl) _ _ HY.out (by kernel_rfl) (by simp only [List.size_toArray, HZ2.out]; rfl) (by simp [evCells, Value.oneCell']) ?_))
        refine bodyPost_ret (results_cell_row rfl _ _ _ _ _ _ _ (by rfl) (setRow_heap W6 _ _ _ _ _ HY.out) Tryd.underlying51 (by rfl) (by kernel_rfl)) rfl ?_
        exact ⟨⟨ts, num, at_, 0, tp, ti, 0, ⟨#[]⟩⟩, rfl, by rw [HTS.out, HSRC.out], rfl, HAT.out.1, HAT.out.2, .inr (.inr (.inr (.inr (.inr ⟨by simp, ⟨a, HA1.out.1, HA1.out.2, HTP.out⟩, ⟨i, HI1.out.1, HI1.out.2, HTI.out⟩, rfl, rfl⟩)))), below_setRow HB6.out HL.out.1 _⟩
      · obtain ⟨W6, hW6⟩ : ∃ W6, W6 = ((W4.setCell ⟨eb, 4, none⟩ (.string tp)).setCell ⟨eb, 5, none⟩ (.string ti)) := ⟨_, rfl⟩
        have hx1 : W6.heap[eb]? = some (.cells (evCells ⟨ts, num, at_, 1, tp, ti, 0, ⟨#[]⟩⟩).toArray 51 (0, 0)) := by
          rw [hW6]
          exact HE1.out |> fun h => setCell_blk h 4 (.string tp) |> fun h => setCell_blk h 5 (.string ti)
        have hx2 : W6.heap[w.heap.size + 1]? = some (.cells z.toArray 51 (0, 0)) := by
          rw [hW6]
          exact HZ1.out |> fun h => setCell_oth h HNE.out 4 (.string tp) |> fun h => setCell_oth h HNE.out 5 (.string ti)
        have hx3 : Below w.heap.size w W6 := by
          rw [hW6]
          exact HBL.out |> fun h => h.setCell (p := ⟨eb, 4, none⟩) HL.out.2 (.string tp) |> fun h => h.setCell (p := ⟨eb, 5, none⟩) HL.out.2 (.string ti)
        have HX := Lib.hid hx1
        have HY := Lib.hid hx2
        have HB6 := Lib.hid hx3
        clear hx1 hx2 hx3
        go_upto_region 17 with fail
        rw [← hW6]
        clear hW6
        go_wp2_with (first | (refine wpList_load_row rfl _ _ rfl _ (by rfl) _ _ _ _ HX.out Tryd.underlying51 (by rfl) (by kernel_rfl) ?_) | (refine wpList_store_row rfl 51 _ _ rfl (w.heap.size + 1) _ (by rfl) (by rfl) _ _ HY.out (by kernel_rfl) (by simp only [List.size_toArray, HZ2.out]; rfl) (by simp [evCells, Value.oneCell']) ?_))
        refine bodyPost_ret (results_cell_row rfl _ _ _ _ _ _ _ (by rfl) (setRow_heap W6 _ _ _ _ _ HY.out) Tryd.underlying51 (by rfl) (by kernel_rfl)) rfl ?_
        exact ⟨⟨ts, num, at_, 1, tp, ti, 0, ⟨#[]⟩⟩, rfl, by rw [HTS.out, HSRC.out], rfl, HAT.out.1, HAT.out.2, .inr (.inr (.inr (.inr (.inr ⟨by simp, ⟨a, HA1.out.1, HA1.out.2, HTP.out⟩, ⟨i, HI1.out.1, HI1.out.2, HTI.out⟩, rfl, rfl⟩)))), below_setRow HB6.out HL.out.1 _⟩
      · obtain ⟨W6, hW6⟩ : ∃ W6, W6 = ((W4.setCell ⟨eb, 4, none⟩ (.string tp)).setCell ⟨eb, 5, none⟩ (.string ti)) := ⟨_, rfl⟩
        have hx1 : W6.heap[eb]? = some (.cells (evCells ⟨ts, num, at_, 2, tp, ti, 0, ⟨#[]⟩⟩).toArray 51 (0, 0)) := by
          rw [hW6]
          exact HE1.out |> fun h => setCell_blk h 4 (.string tp) |> fun h => setCell_blk h 5 (.string ti)
        have hx2 : W6.heap[w.heap.size + 1]? = some (.cells z.toArray 51 (0, 0)) := by
          rw [hW6]
          exact HZ1.out |> fun h => setCell_oth h HNE.out 4 (.string tp) |> fun h => setCell_oth h HNE.out 5 (.string ti)
        have hx3 : Below w.heap.size w W6 := by
          rw [hW6]
          exact HBL.out |> fun h => h.setCell (p := ⟨eb, 4, none⟩) HL.out.2 (.string tp) |> fun h => h.setCell (p := ⟨eb, 5, none⟩) HL.out.2 (.string ti)
        have HX := Lib.hid hx1
        have HY := Lib.hid hx2
        have HB6 := Lib.hid hx3
        clear hx1 hx2 hx3
        go_upto_region 17 with fail
        rw [← hW6]
        clear hW6
        go_wp2_with (first | (refine wpList_load_row rfl _ _ rfl _ (by rfl) _ _ _ _ HX.out Tryd.underlying51 (by rfl) (by kernel_rfl) ?_) | (refine wpList_store_row rfl 51 _ _ rfl (w.heap.size + 1) _ (by rfl) (by rfl) _ _ HY.out (by kernel_rfl) (by simp only [List.size_toArray, HZ2.out]; rfl) (by simp [evCells, Value.oneCell']) ?_))
        refine bodyPost_ret (results_cell_row rfl _ _ _ _ _ _ _ (by rfl) (setRow_heap W6 _ _ _ _ _ HY.out) Tryd.underlying51 (by rfl) (by kernel_rfl)) rfl ?_
        exact ⟨⟨ts, num, at_, 2, tp, ti, 0, ⟨#[]⟩⟩, rfl, by rw [HTS.out, HSRC.out], rfl, HAT.out.1, HAT.out.2, .inr (.inr (.inr (.inr (.inr ⟨by simp, ⟨a, HA1.out.1, HA1.out.2, HTP.out⟩, ⟨i, HI1.out.1, HI1.out.2, HTI.out⟩, rfl, rfl⟩)))), below_setRow HB6.out HL.out.1 _⟩
      · obtain ⟨W6, hW6⟩ : ∃ W6, W6 = ((W4.setCell ⟨eb, 4, none⟩ (.string tp)).setCell ⟨eb, 5, none⟩ (.string ti)) := ⟨_, rfl⟩
        have hx1 : W6.heap[eb]? = some (.cells (evCells ⟨ts, num, at_, 3, tp, ti, 0, ⟨#[]⟩⟩).toArray 51 (0, 0)) := by
          rw [hW6]
          exact HE1.out |> fun h => setCell_blk h 4 (.string tp) |> fun h => setCell_blk h 5 (.string ti)
        have hx2 : W6.heap[w.heap.size + 1]? = some (.cells z.toArray 51 (0, 0)) := by
          rw [hW6]
          exact HZ1.out |> fun h => setCell_oth h HNE.out 4 (.string tp) |> fun h => setCell_oth h HNE.out 5 (.string ti)
        have hx3 : Below w.heap.size w W6 := by
          rw [hW6]
          exact HBL.out |> fun h => h.setCell (p := ⟨eb, 4, none⟩) HL.out.2 (.string tp) |> fun h => h.setCell (p := ⟨eb, 5, none⟩) HL.out.2 (.string ti)
        have HX := Lib.hid hx1
        have HY := Lib.hid hx2
        have HB6 := Lib.hid hx3
        clear hx1 hx2 hx3
        go_upto_region 17 with fail
        rw [← hW6]
        clear hW6
        go_wp2_with (first | (refine wpList_load_row rfl _ _ rfl _ (by rfl) _ _ _ _ HX.out Tryd.underlying51 (by rfl) (by kernel_rfl) ?_) | (refine wpList_store_row rfl 51 _ _ rfl (w.heap.size + 1) _ (by rfl) (by rfl) _ _ HY.out (by kernel_rfl) (by simp only [List.size_toArray, HZ2.out]; rfl) (by simp [evCells, Value.oneCell']) ?_))
        refine bodyPost_ret (results_cell_row rfl _ _ _ _ _ _ _ (by rfl) (setRow_heap W6 _ _ _ _ _ HY.out) Tryd.underlying51 (by rfl) (by kernel_rfl)) rfl ?_
        exact ⟨⟨ts, num, at_, 3, tp, ti, 0, ⟨#[]⟩⟩, rfl, by rw [HTS.out, HSRC.out], rfl, HAT.out.1, HAT.out.2, .inr (.inr (.inr (.inr (.inr ⟨by simp, ⟨a, HA1.out.1, HA1.out.2, HTP.out⟩, ⟨i, HI1.out.1, HI1.out.2, HTI.out⟩, rfl, rfl⟩)))), below_setRow HB6.out HL.out.1 _⟩
      · have hr := HR5.out.1
        have hr2 := HR5.out.2
        have hwr : wrap64 (1 + r) = 1 + r := by unfold wrap64; omega
        obtain ⟨W6, hW6⟩ : ∃ W6, W6 = (((W4.setCell ⟨eb, 4, none⟩ (.string tp)).setCell ⟨eb, 5, none⟩ (.string ti)).setCell ⟨eb, 6, none⟩ (.int .i64 (1 + r))) := ⟨_, rfl⟩
        have hx1 : W6.heap[eb]? = some (.cells (evCells ⟨ts, num, at_, 4, tp, ti, (1 + r), ⟨#[]⟩⟩).toArray 51 (0, 0)) := by
          rw [hW6]
          exact HE1.out |> fun h => setCell_blk h 4 (.string tp) |> fun h => setCell_blk h 5 (.string ti) |> fun h => setCell_blk h 6 (.int .i64 (1 + r))
        have hx2 : W6.heap[w.heap.size + 1]? = some (.cells z.toArray 51 (0, 0)) := by
          rw [hW6]
          exact HZ1.out |> fun h => setCell_oth h HNE.out 4 (.string tp) |> fun h => setCell_oth h HNE.out 5 (.string ti) |> fun h => setCell_oth h HNE.out 6 (.int .i64 (1 + r))
        have hx3 : Below w.heap.size w W6 := by
          rw [hW6]
          exact HBL.out |> fun h => h.setCell (p := ⟨eb, 4, none⟩) HL.out.2 (.string tp) |> fun h => h.setCell (p := ⟨eb, 5, none⟩) HL.out.2 (.string ti) |> fun h => h.setCell (p := ⟨eb, 6, none⟩) HL.out.2 (.int .i64 (1 + r))
        have HX := Lib.hid hx1
        have HY := Lib.hid hx2
        have HB6 := Lib.hid hx3
        clear hx1 hx2 hx3
        go_upto_region 17 with fail
        rw [← hW6]
        clear hW6
        go_wp2_with (first | (refine wpList_load_row rfl _ _ rfl _ (by rfl) _ _ _ _ HX.out Tryd.underlying51 (by rfl) (by kernel_rfl) ?_) | (refine wpList_store_row rfl 51 _ _ rfl (w.heap.size + 1) _ (by rfl) (by rfl) _ _ HY.out (by kernel_rfl) (by simp only [List.size_toArray, HZ2.out]; rfl) (by simp [evCells, Value.oneCell']) ?_))
        refine bodyPost_ret (results_cell_row rfl _ _ _ _ _ _ _ (by rfl) (setRow_heap W6 _ _ _ _ _ HY.out) Tryd.underlying51 (by rfl) (by kernel_rfl)) rfl ?_
        exact ⟨⟨ts, num, at_, 4, tp, ti, (1 + r), ⟨#[]⟩⟩, rfl, by rw [HTS.out, HSRC.out], rfl, HAT.out.1, HAT.out.2, .inr (.inr (.inr (.inr (.inl ⟨rfl, ⟨a, HA1.out.1, HA1.out.2, HTP.out⟩, ⟨i, HI1.out.1, HI1.out.2, HTI.out⟩, by have := HR5.out.2; show 1 ≤ 1 + r ∧ 1 + r ≤ 5; omega, rfl⟩)))), below_setRow HB6.out HL.out.1 _⟩
      · obtain ⟨W6, hW6⟩ : ∃ W6, W6 = ((W4.setCell ⟨eb, 4, none⟩ (.string tp)).setCell ⟨eb, 5, none⟩ (.string ti)) := ⟨_, rfl⟩
        have hx1 : W6.heap[eb]? = some (.cells (evCells ⟨ts, num, at_, 5, tp, ti, 0, ⟨#[]⟩⟩).toArray 51 (0, 0)) := by
          rw [hW6]
          exact HE1.out |> fun h => setCell_blk h 4 (.string tp) |> fun h => setCell_blk h 5 (.string ti)
        have hx2 : W6.heap[w.heap.size + 1]? = some (.cells z.toArray 51 (0, 0)) := by
          rw [hW6]
          exact HZ1.out |> fun h => setCell_oth h HNE.out 4 (.string tp) |> fun h => setCell_oth h HNE.out 5 (.string ti)
        have hx3 : Below w.heap.size w W6 := by
          rw [hW6]
          exact HBL.out |> fun h => h.setCell (p := ⟨eb, 4, none⟩) HL.out.2 (.string tp) |> fun h => h.setCell (p := ⟨eb, 5, none⟩) HL.out.2 (.string ti)
        have HX := Lib.hid hx1
        have HY := Lib.hid hx2
        have HB6 := Lib.hid hx3
        clear hx1 hx2 hx3
        go_upto_region 17 with fail
        rw [← hW6]
        clear hW6
        go_wp2_with (first | (refine wpList_load_row rfl _ _ rfl _ (by rfl) _ _ _ _ HX.out Tryd.underlying51 (by rfl) (by kernel_rfl) ?_) | (refine wpList_store_row rfl 51 _ _ rfl (w.heap.size + 1) _ (by rfl) (by rfl) _ _ HY.out (by kernel_rfl) (by simp only [List.size_toArray, HZ2.out]; rfl) (by simp [evCells, Value.oneCell']) ?_))
        refine bodyPost_ret (results_cell_row rfl _ _ _ _ _ _ _ (by rfl) (setRow_heap W6 _ _ _ _ _ HY.out) Tryd.underlying51 (by rfl) (by kernel_rfl)) rfl ?_
        exact ⟨⟨ts, num, at_, 5, tp, ti, 0, ⟨#[]⟩⟩, rfl, by rw [HTS.out, HSRC.out], rfl, HAT.out.1, HAT.out.2, .inr (.inr (.inr (.inr (.inr ⟨by simp, ⟨a, HA1.out.1, HA1.out.2, HTP.out⟩, ⟨i, HI1.out.1, HI1.out.2, HTI.out⟩, rfl, rfl⟩)))), below_setRow HB6.out HL.out.1 _⟩
      · obtain ⟨W6, hW6⟩ : ∃ W6, W6 = ((W4.setCell ⟨eb, 4, none⟩ (.string tp)).setCell ⟨eb, 5, none⟩ (.string ti)) := ⟨_, rfl⟩
        have hx1 : W6.heap[eb]? = some (.cells (evCells ⟨ts, num, at_, 6, tp, ti, 0, ⟨#[]⟩⟩).toArray 51 (0, 0)) := by
          rw [hW6]
          exact HE1.out |> fun h => setCell_blk h 4 (.string tp) |> fun h => setCell_blk h 5 (.string ti)
        have hx2 : W6.heap[w.heap.size + 1]? = some (.cells z.toArray 51 (0, 0)) := by
          rw [hW6]
          exact HZ1.out |> fun h => setCell_oth h HNE.out 4 (.string tp) |> fun h => setCell_oth h HNE.out 5 (.string ti)
        have hx3 : Below w.heap.size w W6 := by
          rw [hW6]
          exact HBL.out |> fun h => h.setCell (p := ⟨eb, 4, none⟩) HL.out.2 (.string tp) |> fun h => h.setCell (p := ⟨eb, 5, none⟩) HL.out.2 (.string ti)
        have HX := Lib.hid hx1
        have HY := Lib.hid hx2
        have HB6 := Lib.hid hx3
        clear hx1 hx2 hx3
        go_upto_region 17 with fail
        rw [← hW6]
        clear hW6
        go_wp2_with (first | (refine wpList_load_row rfl _ _ rfl _ (by rfl) _ _ _ _ HX.out Tryd.underlying51 (by rfl) (by kernel_rfl) ?_) | (refine wpList_store_row rfl 51 _ _ rfl (w.heap.size + 1) _ (by rfl) (by rfl) _ _ HY.out (by kernel_rfl) (by simp only [List.size_toArray, HZ2.out]; rfl) (by simp [evCells, Value.oneCell']) ?_))
        refine bodyPost_ret (results_cell_row rfl _ _ _ _ _ _ _ (by rfl) (setRow_heap W6 _ _ _ _ _ HY.out) Tryd.underlying51 (by rfl) (by kernel_rfl)) rfl ?_
        exact ⟨⟨ts, num, at_, 6, tp, ti, 0, ⟨#[]⟩⟩, rfl, by rw [HTS.out, HSRC.out], rfl, HAT.out.1, HAT.out.2, .inr (.inr (.inr (.inr (.inr ⟨by simp, ⟨a, HA1.out.1, HA1.out.2, HTP.out⟩, ⟨i, HI1.out.1, HI1.out.2, HTI.out⟩, rfl, rfl⟩)))), below_setRow HB6.out HL.out.1 _⟩
      · obtain ⟨W6, hW6⟩ : ∃ W6, W6 = ((W4.setCell ⟨eb, 4, none⟩ (.string tp)).setCell ⟨eb, 7, none⟩ (.string tm)) := ⟨_, rfl⟩
        have hx1 : W6.heap[eb]? = some (.cells (evCells ⟨ts, num, at_, 7, tp, ⟨#[]⟩, 0, tm⟩).toArray 51 (0, 0)) := by
          rw [hW6]
          exact HE1.out |> fun h => setCell_blk h 4 (.string tp) |> fun h => setCell_blk h 7 (.string tm)
        have hx2 : W6.heap[w.heap.size + 1]? = some (.cells z.toArray 51 (0, 0)) := by
          rw [hW6]
          exact HZ1.out |> fun h => setCell_oth h HNE.out 4 (.string tp) |> fun h => setCell_oth h HNE.out 7 (.string tm)
        have hx3 : Below w.heap.size w W6 := by
          rw [hW6]
          exact HBL.out |> fun h => h.setCell (p := ⟨eb, 4, none⟩) HL.out.2 (.string tp) |> fun h => h.setCell (p := ⟨eb, 7, none⟩) HL.out.2 (.string tm)
        have HX := Lib.hid hx1
        have HY := Lib.hid hx2
        have HB6 := Lib.hid hx3
        clear hx1 hx2 hx3
        go_upto_region 17 with fail
        rw [← hW6]
        clear hW6
        go_wp2_with (first | (refine wpList_load_row rfl _ _ rfl _ (by rfl) _ _ _ _ HX.out Tryd.underlying51 (by rfl) (by kernel_rfl) ?_) | (refine wpList_store_row rfl 51 _ _ rfl (w.heap.size + 1) _ (by rfl) (by rfl) _ _ HY.out (by kernel_rfl) (by simp only [List.size_toArray, HZ2.out]; rfl) (by simp [evCells, Value.oneCell']) ?_))
        refine bodyPost_ret (results_cell_row rfl _ _ _ _ _ _ _ (by rfl) (setRow_heap W6 _ _ _ _ _ HY.out) Tryd.underlying51 (by rfl) (by kernel_rfl)) rfl ?_
        exact ⟨⟨ts, num, at_, 7, tp, ⟨#[]⟩, 0, tm⟩, rfl, by rw [HTS.out, HSRC.out], rfl, HAT.out.1, HAT.out.2, .inl ⟨.inl rfl, ⟨a, HA1.out.1, HA1.out.2, HTP.out⟩, rfl, rfl, m, HM1.out.1, HM1.out.2, HTM.out⟩, below_setRow HB6.out HL.out.1 _⟩
      · obtain ⟨W6, hW6⟩ : ∃ W6, W6 = ((W4.setCell ⟨eb, 4, none⟩ (.string tp)).setCell ⟨eb, 7, none⟩ (.string tm)) := ⟨_, rfl⟩
        have hx1 : W6.heap[eb]? = some (.cells (evCells ⟨ts, num, at_, 9, tp, ⟨#[]⟩, 0, tm⟩).toArray 51 (0, 0)) := by
          rw [hW6]
          exact HE1.out |> fun h => setCell_blk h 4 (.string tp) |> fun h => setCell_blk h 7 (.string tm)
        have hx2 : W6.heap[w.heap.size + 1]? = some (.cells z.toArray 51 (0, 0)) := by
          rw [hW6]
          exact HZ1.out |> fun h => setCell_oth h HNE.out 4 (.string tp) |> fun h => setCell_oth h HNE.out 7 (.string tm)
        have hx3 : Below w.heap.size w W6 := by
          rw [hW6]
          exact HBL.out |> fun h => h.setCell (p := ⟨eb, 4, none⟩) HL.out.2 (.string tp) |> fun h => h.setCell (p := ⟨eb, 7, none⟩) HL.out.2 (.string tm)
        have HX := Lib.hid hx1
        have HY := Lib.hid hx2
        have HB6 := Lib.hid hx3
        clear hx1 hx2 hx3
        go_upto_region 17 with fail
        rw [← hW6]
        clear hW6
        go_wp2_with (first | (refine wpList_load_row rfl _ _ rfl _ (by rfl) _ _ _ _ HX.out Tryd.underlying51 (by rfl) (by kernel_rfl) ?_) | (refine wpList_store_row rfl 51 _ _ rfl (w.heap.size + 1) _ (by rfl) (by rfl) _ _ HY.out (by kernel_rfl) (by simp only [List.size_toArray, HZ2.out]; rfl) (by simp [evCells, Value.oneCell']) ?_))
        refine bodyPost_ret (results_cell_row rfl _ _ _ _ _ _ _ (by rfl) (setRow_heap W6 _ _ _ _ _ HY.out) Tryd.underlying51 (by rfl) (by kernel_rfl)) rfl ?_
        exact ⟨⟨ts, num, at_, 9, tp, ⟨#[]⟩, 0, tm⟩, rfl, by rw [HTS.out, HSRC.out], rfl, HAT.out.1, HAT.out.2, .inl ⟨.inr rfl, ⟨a, HA1.out.1, HA1.out.2, HTP.out⟩, rfl, rfl, m, HM1.out.1, HM1.out.2, HTM.out⟩, below_setRow HB6.out HL.out.1 _⟩
      · go_wp2_with fail
        refine (QL.out _).mono ?_
        rintro e W5 ⟨x, y, zz, rfl, hb5⟩
        obtain ⟨tx, htx⟩ : ∃ tx, tx = lstT m x y zz := ⟨_, rfl⟩
        rw [← htx]
        obtain ⟨hk1, hk2, hk3⟩ := HLT.out
        have HE1 := Lib.hid ((hb5.block eb hk1).trans HE1.out)
        have HZ1 := Lib.hid ((hb5.block (w.heap.size + 1) hk2).trans HZ1.out)
        have HBL := Lib.hid (HBL.out.trans (hb5.mono hk3))
        have HTX := Lib.hid htx
        clear hb5 htx hk1 hk2 hk3
        have c5 : W5.cell? ⟨eb, 5, none⟩ = some (.string ⟨#[]⟩) := by rw [cell_of_row W5 eb 5 _ _ _ HE1.out]; rfl
        have c6 : W5.cell? ⟨eb, 6, none⟩ = some (.int .i64 0) := by rw [cell_of_row W5 eb 6 _ _ _ HE1.out]; rfl
        have c7 : W5.cell? ⟨eb, 7, none⟩ = some (.string ⟨#[]⟩) := by rw [cell_of_row W5 eb 7 _ _ _ HE1.out]; rfl
        have f5 : W5.frozen? ⟨eb, 5, none⟩ = false := frozen_block HE1.out _
        have f6 : W5.frozen? ⟨eb, 6, none⟩ = false := frozen_block HE1.out _
        have f7 : W5.frozen? ⟨eb, 7, none⟩ = false := frozen_block HE1.out _
        obtain ⟨W6, hW6⟩ : ∃ W6, W6 = (((W5.setCell ⟨eb, 5, none⟩ (.string ti)).setCell ⟨eb, 6, none⟩ (.int .i64 v)).setCell ⟨eb, 7, none⟩ (.string tx)) := ⟨_, rfl⟩
        have hx1 : W6.heap[eb]? = some (.cells (evCells ⟨ts, num, at_, 11, ⟨#[]⟩, ti, v, tx⟩).toArray 51 (0, 0)) := by
          rw [hW6]
          exact HE1.out |> fun h => setCell_blk h 5 (.string ti) |> fun h => setCell_blk h 6 (.int .i64 v) |> fun h => setCell_blk h 7 (.string tx)
        have hx2 : W6.heap[w.heap.size + 1]? = some (.cells z.toArray 51 (0, 0)) := by
          rw [hW6]
          exact HZ1.out |> fun h => setCell_oth h HNE.out 5 (.string ti) |> fun h => setCell_oth h HNE.out 6 (.int .i64 v) |> fun h => setCell_oth h HNE.out 7 (.string tx)
        have hx3 : Below w.heap.size w W6 := by
          rw [hW6]
          exact HBL.out |> fun h => h.setCell (p := ⟨eb, 5, none⟩) HL.out.2 (.string ti) |> fun h => h.setCell (p := ⟨eb, 6, none⟩) HL.out.2 (.int .i64 v) |> fun h => h.setCell (p := ⟨eb, 7, none⟩) HL.out.2 (.string tx)
        have HX := Lib.hid hx1
        have HY := Lib.hid hx2
        have HB6 := Lib.hid hx3
        clear hx1 hx2 hx3
        go_upto_region 17 with fail
        rw [← hW6]
        clear hW6
        go_wp2_with (first | (refine wpList_load_row rfl _ _ rfl _ (by rfl) _ _ _ _ HX.out Tryd.underlying51 (by rfl) (by kernel_rfl) ?_) | (refine wpList_store_row rfl 51 _ _ rfl (w.heap.size + 1) _ (by rfl) (by rfl) _ _ HY.out (by kernel_rfl) (by simp only [List.size_toArray, HZ2.out]; rfl) (by simp [evCells, Value.oneCell']) ?_))
        refine bodyPost_ret (results_cell_row rfl _ _ _ _ _ _ _ (by rfl) (setRow_heap W6 _ _ _ _ _ HY.out) Tryd.underlying51 (by rfl) (by kernel_rfl)) rfl ?_
        exact ⟨⟨ts, num, at_, 11, ⟨#[]⟩, ti, v, tx⟩, rfl, by rw [HTS.out, HSRC.out], rfl, HAT.out.1, HAT.out.2, .inr (.inl ⟨rfl, rfl, ⟨i, HI1.out.1, HI1.out.2, HTI.out⟩, HV.out, m, x, y, zz, HM1.out.1, HM1.out.2, HTX.out⟩), below_setRow HB6.out HL.out.1 _⟩
      · obtain ⟨W6, hW6⟩ : ∃ W6, W6 = ((W4.setCell ⟨eb, 5, none⟩ (.string ti)).setCell ⟨eb, 6, none⟩ (.int .i64 m)) := ⟨_, rfl⟩
        have hx1 : W6.heap[eb]? = some (.cells (evCells ⟨ts, num, at_, 12, ⟨#[]⟩, ti, m, ⟨#[]⟩⟩).toArray 51 (0, 0)) := by
          rw [hW6]
          exact HE1.out |> fun h => setCell_blk h 5 (.string ti) |> fun h => setCell_blk h 6 (.int .i64 m)
        have hx2 : W6.heap[w.heap.size + 1]? = some (.cells z.toArray 51 (0, 0)) := by
          rw [hW6]
          exact HZ1.out |> fun h => setCell_oth h HNE.out 5 (.string ti) |> fun h => setCell_oth h HNE.out 6 (.int .i64 m)
        have hx3 : Below w.heap.size w W6 := by
          rw [hW6]
          exact HBL.out |> fun h => h.setCell (p := ⟨eb, 5, none⟩) HL.out.2 (.string ti) |> fun h => h.setCell (p := ⟨eb, 6, none⟩) HL.out.2 (.int .i64 m)
        have HX := Lib.hid hx1
        have HY := Lib.hid hx2
        have HB6 := Lib.hid hx3
        clear hx1 hx2 hx3
        go_upto_region 17 with fail
        rw [← hW6]
        clear hW6
        go_wp2_with (first | (refine wpList_load_row rfl _ _ rfl _ (by rfl) _ _ _ _ HX.out Tryd.underlying51 (by rfl) (by kernel_rfl) ?_) | (refine wpList_store_row rfl 51 _ _ rfl (w.heap.size + 1) _ (by rfl) (by rfl) _ _ HY.out (by kernel_rfl) (by simp only [List.size_toArray, HZ2.out]; rfl) (by simp [evCells, Value.oneCell']) ?_))
        refine bodyPost_ret (results_cell_row rfl _ _ _ _ _ _ _ (by rfl) (setRow_heap W6 _ _ _ _ _ HY.out) Tryd.underlying51 (by rfl) (by kernel_rfl)) rfl ?_
        exact ⟨⟨ts, num, at_, 12, ⟨#[]⟩, ti, m, ⟨#[]⟩⟩, rfl, by rw [HTS.out, HSRC.out], rfl, HAT.out.1, HAT.out.2, .inr (.inr (.inl ⟨rfl, rfl, ⟨i, HI1.out.1, HI1.out.2, HTI.out⟩, HM1.out, rfl⟩)), below_setRow HB6.out HL.out.1 _⟩
      · obtain ⟨W6, hW6⟩ : ∃ W6, W6 = (W4.setCell ⟨eb, 5, none⟩ (.string ti)) := ⟨_, rfl⟩
        have hx1 : W6.heap[eb]? = some (.cells (evCells ⟨ts, num, at_, 13, ⟨#[]⟩, ti, 0, ⟨#[]⟩⟩).toArray 51 (0, 0)) := by
          rw [hW6]
          exact HE1.out |> fun h => setCell_blk h 5 (.string ti)
        have hx2 : W6.heap[w.heap.size + 1]? = some (.cells z.toArray 51 (0, 0)) := by
          rw [hW6]
          exact HZ1.out |> fun h => setCell_oth h HNE.out 5 (.string ti)
        have hx3 : Below w.heap.size w W6 := by
          rw [hW6]
          exact HBL.out |> fun h => h.setCell (p := ⟨eb, 5, none⟩) HL.out.2 (.string ti)
        have HX := Lib.hid hx1
        have HY := Lib.hid hx2
        have HB6 := Lib.hid hx3
        clear hx1 hx2 hx3
        go_upto_region 17 with fail
        rw [← hW6]
        clear hW6
        go_wp2_with (first | (refine wpList_load_row rfl _ _ rfl _ (by rfl) _ _ _ _ HX.out Tryd.underlying51 (by rfl) (by kernel_rfl) ?_) | (refine wpList_store_row rfl 51 _ _ rfl (w.heap.size + 1) _ (by rfl) (by rfl) _ _ HY.out (by kernel_rfl) (by simp only [List.size_toArray, HZ2.out]; rfl) (by simp [evCells, Value.oneCell']) ?_))
        refine bodyPost_ret (results_cell_row rfl _ _ _ _ _ _ _ (by rfl) (setRow_heap W6 _ _ _ _ _ HY.out) Tryd.underlying51 (by rfl) (by kernel_rfl)) rfl ?_
        exact ⟨⟨ts, num, at_, 13, ⟨#[]⟩, ti, 0, ⟨#[]⟩⟩, rfl, by rw [HTS.out, HSRC.out], rfl, HAT.out.1, HAT.out.2, .inr (.inr (.inr (.inl ⟨rfl, rfl, ⟨i, HI1.out.1, HI1.out.2, HTI.out⟩, rfl, rfl⟩))), below_setRow HB6.out HL.out.1 _⟩
end Go.Proofs.YtaollcpoibgblaaDoor
