/- Contracts of the intake: take. -/
import Derived.Test.YthbijemihaekiaaGreatDoorIkB
namespace Go.Proofs.YthbijemihaekiaaGreatDoor
open Go.ChangeShapes Go.WideShapes Go.ChangeAt Go.RowKit
set_option linter.unusedVariables false
set_option linter.unusedSimpArgs false

theorem enter_take1 (args : Array Value) (w : World) : (callFunc 32 args).run Tryz.prog w = .ok (.enter 32 args) w := enters_of (P := Tryz.prog) Tryz.func32 (by kernel_rfl) rfl args w
theorem ev_at {R : List EvV} {k : Nat} (h : k < R.length) (j : Nat) (hj : j < 8) : (evsCells R)[k * 8 + j]? = (evCells R[k])[j]? := by
  unfold evsCells
  exact flat_getE (e := evCells) (k := 8) (fun _ => rfl) R k j h hj
set_option maxRecDepth 20000 in
set_option maxHeartbeats 2000000 in
theorem take1_any (bi be ib b o n c k : Nat) (y e : EvV) (w : World) (h0 : w.cell? ⟨bi, 0, none⟩ = some (.pointer (some ⟨ib, 0, none⟩))) (h2 : w.cell? ⟨ib, 2, none⟩ = some (.slice (some ⟨b, o, none⟩) n c)) (hk : k < n) (hn : n ≤ 1000)
    (hr : w.rangeAt b (o + k * 8) (evCells y)) (he : w.heap[be]? = some (.cells (evCells e).toArray 41 (0, 0))) :
    Calls Tryz.prog 32 #[.int .i64 k, .pointer (some ⟨bi, 0, none⟩), .pointer (some ⟨be, 0, none⟩)] w fun r w' => (∃ t, r = .returned (.bool t)) ∧ Below w.heap.size w w' := by
  have hk2 : (k : Int) < (n : Int) := by omega
  have HR := Lib.hid hr
  have HE := Lib.hid he
  clear hr he
  go_enter Tryz.func32, Tryz.ntmps32
  go_upto_region 1 with fail
  refine heldStart 10 (S := fun W => W.cell? ⟨bi, 0, none⟩ = some (.pointer (some ⟨ib, 0, none⟩)) ∧ W.cell? ⟨ib, 2, none⟩ = some (.slice (some ⟨b, o, none⟩) n c)) (by kernel_rfl) ?_ (fun hHeld => ?_)
  · first | exact ⟨h0b, h2b⟩ | exact ⟨h0, h2⟩
  refine heldTake 0 (v := ?_) (by simp only [List.getElem?_toArray, List.getElem?_cons_succ, List.getElem?_cons_zero]; rfl) (by kernel_rfl) (by intro _ _ _ h; exact h) (by rfl) (by assumption) ?_ ?_
  rotate_left
  · intro W hSw; (try dsimp only at hSw); go_simp; try with_reducible rfl
  simp only [Act.put, List.setIfInBounds_toArray, List.set_cons_zero, List.set_cons_succ]
  refine heldTake 1 (v := ?_) (by simp only [List.getElem?_toArray, List.getElem?_cons_succ, List.getElem?_cons_zero]; rfl) (by kernel_rfl) (by intro _ _ _ h; exact h) (by rfl) (by assumption) ?_ ?_
  rotate_left
  · intro W hSw; (try dsimp only at hSw); go_simp; try with_reducible rfl
  simp only [Act.put, List.setIfInBounds_toArray, List.set_cons_zero, List.set_cons_succ]
  refine heldTake 2 (v := ?_) (by simp only [List.getElem?_toArray, List.getElem?_cons_succ, List.getElem?_cons_zero]; rfl) (by kernel_rfl) (by intro _ _ _ h; exact h) (by rfl) (by assumption) ?_ ?_
  rotate_left
  · intro W hSw; (try dsimp only at hSw); go_simp; try with_reducible rfl
  simp only [Act.put, List.setIfInBounds_toArray, List.set_cons_zero, List.set_cons_succ]
  refine heldTake 3 (v := ?_) (by simp only [List.getElem?_toArray, List.getElem?_cons_succ, List.getElem?_cons_zero]; rfl) (by kernel_rfl) (by intro _ _ _ h; exact h) (by rfl) (by assumption) ?_ ?_
  rotate_left
  · intro W hSw; (try dsimp only at hSw); go_simp; try with_reducible rfl
  simp only [Act.put, List.setIfInBounds_toArray, List.set_cons_zero, List.set_cons_succ]
  refine heldTake 4 (v := ?_) (by simp only [List.getElem?_toArray, List.getElem?_cons_succ, List.getElem?_cons_zero]; rfl) (by kernel_rfl) (by intro _ _ _ h; exact h) (by rfl) (by assumption) ?_ ?_
  rotate_left
  · intro W hSw; (try dsimp only at hSw); go_simp; try with_reducible rfl
  simp only [Act.put, List.setIfInBounds_toArray, List.set_cons_zero, List.set_cons_succ]
  refine heldTake 5 (v := ?_) (by simp only [List.getElem?_toArray, List.getElem?_cons_succ, List.getElem?_cons_zero]; rfl) (by kernel_rfl) (by intro _ _ _ h; exact h) (by rfl) (by assumption) ?_ ?_
  rotate_left
  · intro W hSw; (try dsimp only at hSw); go_simp; try with_reducible rfl
  simp only [Act.put, List.setIfInBounds_toArray, List.set_cons_zero, List.set_cons_succ]
  refine heldFork 6 7 (by kernel_rfl) ?_ ?_
  · refine heldOp 6 (by simp only [List.getElem?_toArray, List.getElem?_cons_succ, List.getElem?_cons_zero]; rfl) (fun K hK => ?_)
    refine wp_load_mid _ _ rfl b (o + k * 8) (by rfl) _ _ HR.out Tryz.underlying41 (by rfl) (by kernel_rfl) ?_
    refine hK.out _ _ ?_ (fun hHeld => ?_)
    · first | exact ⟨h0b, h2b⟩ | exact ⟨h0, h2⟩
    clear hK K
    (try simp only [Act.put, List.setIfInBounds_toArray, List.set_cons_zero, List.set_cons_succ])
    refine heldCall 7 (by simp only [List.getElem?_toArray, List.getElem?_cons_succ, List.getElem?_cons_zero]; rfl) (by kernel_rfl) (fun K hK => ?_)
    refine wp_load_row 41 _ rfl be (by rfl) _ _ _ _ HE.out Tryz.underlying41 (by rfl) (by kernel_rfl) ?_
    refine hK.out _ _ ?_ (fun hHeld => ?_)
    · first | exact ⟨h0b, h2b⟩ | exact ⟨h0, h2⟩
    clear hK K
    (try simp only [Act.put, List.setIfInBounds_toArray, List.set_cons_zero, List.set_cons_succ])
    refine heldCall 8 (by simp only [List.getElem?_toArray, List.getElem?_cons_succ, List.getElem?_cons_zero]; rfl) (by kernel_rfl) (fun K hK => ?_)
    go_simp
    refine (ecmp_any y e _).mono ?_
    rintro r w6 ⟨m, rfl, hb6⟩
    have HB6 := Lib.hid hb6
    have h0b := (hb6.cell (p := ⟨bi, 0, none⟩) (World.block_lt_of_cell? _ _ h0)).trans h0
    have h2b := (hb6.cell (p := ⟨ib, 2, none⟩) (World.block_lt_of_cell? _ _ h2)).trans h2
    go_wp2_with fail
    refine hK.out _ _ ?_ (fun hHeld => ?_)
    · first | exact ⟨h0b, h2b⟩ | exact ⟨h0, h2⟩
    clear hK K
    (try simp only [Act.put, List.setIfInBounds_toArray, List.set_cons_zero, List.set_cons_succ])
    refine heldTake 9 (v := ?_) (by simp only [List.getElem?_toArray, List.getElem?_cons_succ, List.getElem?_cons_zero]; rfl) (by kernel_rfl) (by intro _ _ _ h; exact h) (by rfl) (by assumption) ?_ ?_
    rotate_left
    · intro W hSw; (try dsimp only at hSw); go_simp; try with_reducible rfl
    simp only [Act.put, List.setIfInBounds_toArray, List.set_cons_zero, List.set_cons_succ]
    refine heldTake 10 (v := ?_) (by simp only [List.getElem?_toArray, List.getElem?_cons_succ, List.getElem?_cons_zero]; rfl) (by kernel_rfl) (by intro _ _ _ h; exact h) (by rfl) (by assumption) ?_ ?_
    rotate_left
    · intro W hSw; (try dsimp only at hSw); go_simp; try with_reducible rfl
    simp only [Act.put, List.setIfInBounds_toArray, List.set_cons_zero, List.set_cons_succ]
    refine heldDone (by kernel_rfl) ?_ _
    go_wp2_with fail
    go_ret
    exact ⟨⟨_, rfl⟩, ((Below.refl _ w).drew.trans HB6.out)⟩
  · refine heldOp 7 (by simp only [List.getElem?_toArray, List.getElem?_cons_succ, List.getElem?_cons_zero]; rfl) (fun K hK => ?_)
    refine wp_load_row 41 _ rfl be (by rfl) _ _ _ _ HE.out Tryz.underlying41 (by rfl) (by kernel_rfl) ?_
    refine hK.out _ _ ?_ (fun hHeld => ?_)
    · first | exact ⟨h0b, h2b⟩ | exact ⟨h0, h2⟩
    clear hK K
    (try simp only [Act.put, List.setIfInBounds_toArray, List.set_cons_zero, List.set_cons_succ])
    refine heldCall 6 (by simp only [List.getElem?_toArray, List.getElem?_cons_succ, List.getElem?_cons_zero]; rfl) (by kernel_rfl) (fun K hK => ?_)
    refine wp_load_mid _ _ rfl b (o + k * 8) (by rfl) _ _ HR.out Tryz.underlying41 (by rfl) (by kernel_rfl) ?_
    refine hK.out _ _ ?_ (fun hHeld => ?_)
    · first | exact ⟨h0b, h2b⟩ | exact ⟨h0, h2⟩
    clear hK K
    (try simp only [Act.put, List.setIfInBounds_toArray, List.set_cons_zero, List.set_cons_succ])
    refine heldCall 8 (by simp only [List.getElem?_toArray, List.getElem?_cons_succ, List.getElem?_cons_zero]; rfl) (by kernel_rfl) (fun K hK => ?_)
    go_simp
    refine (ecmp_any y e _).mono ?_
    rintro r w6 ⟨m, rfl, hb6⟩
    have HB6 := Lib.hid hb6
    have h0b := (hb6.cell (p := ⟨bi, 0, none⟩) (World.block_lt_of_cell? _ _ h0)).trans h0
    have h2b := (hb6.cell (p := ⟨ib, 2, none⟩) (World.block_lt_of_cell? _ _ h2)).trans h2
    go_wp2_with fail
    refine hK.out _ _ ?_ (fun hHeld => ?_)
    · first | exact ⟨h0b, h2b⟩ | exact ⟨h0, h2⟩
    clear hK K
    (try simp only [Act.put, List.setIfInBounds_toArray, List.set_cons_zero, List.set_cons_succ])
    refine heldTake 9 (v := ?_) (by simp only [List.getElem?_toArray, List.getElem?_cons_succ, List.getElem?_cons_zero]; rfl) (by kernel_rfl) (by intro _ _ _ h; exact h) (by rfl) (by assumption) ?_ ?_
    rotate_left
    · intro W hSw; (try dsimp only at hSw); go_simp; try with_reducible rfl
    simp only [Act.put, List.setIfInBounds_toArray, List.set_cons_zero, List.set_cons_succ]
    refine heldTake 10 (v := ?_) (by simp only [List.getElem?_toArray, List.getElem?_cons_succ, List.getElem?_cons_zero]; rfl) (by kernel_rfl) (by intro _ _ _ h; exact h) (by rfl) (by assumption) ?_ ?_
    rotate_left
    · intro W hSw; (try dsimp only at hSw); go_simp; try with_reducible rfl
    simp only [Act.put, List.setIfInBounds_toArray, List.set_cons_zero, List.set_cons_succ]
    refine heldDone (by kernel_rfl) ?_ _
    go_wp2_with fail
    go_ret
    exact ⟨⟨_, rfl⟩, ((Below.refl _ w).drew.trans HB6.out)⟩

theorem in_blk {w0 w : World} {B : Nat} {x : InV} {F : Nat → Nat → Prop} (h : Objs w0 w B (inObs x) F) : w.heap[x.ib]? = some (inBlk x) := (h.get (i := 4) rfl).2
def TkeNew (p : Ob1) (w0 : World) (B : Nat) (x : InV) (e : EvV) (w : World) (r : Ending) (w' : World) : Prop :=
  ∃ x' G T' A' c', r = .returned (.tuple #[]) ∧ Objs w0 w' B (inObs x' ++ [p]) G ∧ x' = { x with F := putF x.F e.src e.num, T := T', TA := A', Tc := c' } ∧ T'.length = x.T.length + 1 ∧ (∀ y ∈ T', y ∈ x.T ∨ y = e) ∧ (∃ k, T' = x.T.take k ++ e :: x.T.drop k)
theorem Objs.pre {w0 w : World} {B : Nat} {os l : List Ob1} {F : Nat → Nat → Prop} (h : Objs w0 w B (os ++ l) F) : Objs w0 w B os F :=
  ⟨h.hB, fun i o hi => h.ob i o (by rw [List.getElem?_append_left (List.getElem?_eq_some_iff.1 hi).1]; exact hi), fun i j hij hi hj => h.ap i j hij (by rw [List.length_append]; omega) (by rw [List.length_append]; omega), fun i hi => h.lo i (by rw [List.length_append]; omega), h.bl⟩
def bxI (ib : Nat) : Obj := .cells #[.pointer (some ⟨ib, 0, none⟩)] 36
def bxE (e : EvV) : Obj := .cells #[.string e.src, .int .i64 e.num, .int .i64 e.at_, .int .i64 e.kind, .string e.person, .string e.item, .int .i64 e.value, .string e.text] 41
def inOb2 (p : Ob1) (x : InV) (b : Nat) (e : EvV) : List Ob1 := inObs x ++ [p] ++ [kOb b (bxI x.ib)] ++ [kOb (b + 1) (bxE e)]
theorem in2_cells {p : Ob1} {w0 w : World} {B b : Nat} {x : InV} {e : EvV} {F : Nat → Nat → Prop} (h : Objs w0 w B (inOb2 p x b e) F) : w.cell? ⟨b, 0, none⟩ = some (.pointer (some ⟨x.ib, 0, none⟩)) ∧ w.cell? ⟨b + 1, 0, none⟩ = some (.string e.src) ∧ w.cell? ⟨b + 1, 1, none⟩ = some (.int .i64 e.num) ∧ w.cell? ⟨b + 1, 3, none⟩ = some (.int .i64 e.kind) ∧ w.cell? ⟨x.ib, 1, none⟩ = some (.pointer (some ⟨x.sb, 0, none⟩)) ∧ w.cell? ⟨x.ib, 2, none⟩ = some (.slice x.TA x.T.length x.Tc) ∧
    w.heap[b + 1]? = some (.cells (evCells e).toArray 41 (0, 0)) := by
  have hb : w.heap[b]? = some (bxI x.ib) := (h.get (i := 8) rfl).2
  have he : w.heap[b + 1]? = some (bxE e) := (h.get (i := 9) rfl).2
  unfold bxI at hb
  unfold bxE at he
  have hc := in_cells (h.pre.pre.pre)
  refine ⟨?_, ?_, ?_, ?_, hc.2.1, hc.2.2.1, he⟩
  · rw [cell_of_row w b _ _ _ _ hb]; rfl
  · rw [cell_of_row w (b + 1) _ _ _ _ he]; rfl
  · rw [cell_of_row w (b + 1) _ _ _ _ he]; rfl
  · rw [cell_of_row w (b + 1) _ _ _ _ he]; rfl
def setF (x : InV) (F : RowsF) : InV := { x with F := F }
def setT (x : InV) (A : Option Addr) (c : Nat) (T : List EvV) : InV := { x with TA := A, Tc := c, T := T }
set_option maxRecDepth 20000 in
set_option maxHeartbeats 4000000 in
theorem take_any {p : Ob1} {w0 w : World} {B : Nat} {x : InV} {F : Nat → Nat → Prop} (h : Objs w0 w B (inObs x ++ [p]) F) (e : EvV) (he : e.src.size ≤ maxLen) (hn : 1 ≤ e.num ∧ e.num ≤ 1000) (hT : x.T.length ≤ 60) (hF : (x.F e.src).length ≤ 60) (hkd : e.kind ≠ 14) :
    Calls Tryz.prog 19 #[.pointer (some ⟨x.ib, 0, none⟩), evVal e] w (TkeNew p w0 B x e w) := by
  change Calls Tryz.prog 19 #[.pointer (some ⟨x.ib, 0, none⟩), .agg #[.string e.src, .int .i64 e.num, .int .i64 e.at_, .int .i64 e.kind, .string e.person, .string e.item, .int .i64 e.value, .string e.text]] w (TkeNew p w0 B x e w)
  obtain ⟨W1, hW1⟩ : ∃ W1, W1 = (w.alloc (bxI x.ib)).alloc (bxE e) := ⟨_, rfl⟩
  have ho : ∃ G, Objs w0 W1 B (inOb2 p x w.heap.size e) G := by
    obtain ⟨G1, o1⟩ := h.new (kOb w.heap.size (bxI x.ib)) ((Below.refl _ w).alloc (Nat.le_refl _) (bxI x.ib)) ⟨rfl, heap_alloc_new w _⟩ (by rintro k rfl; exact Nat.le_refl _)
    obtain ⟨G2, o2⟩ := o1.new (kOb (w.heap.size + 1) (bxE e)) ((Below.refl _ (w.alloc (bxI x.ib))).alloc (Nat.le_refl _) (bxE e)) ⟨rfl, by have := heap_alloc_new (w.alloc (bxI x.ib)) (bxE e); simpa using this⟩ (by rintro k rfl; simp)
    exact ⟨G2, by rw [hW1]; exact o2⟩
  obtain ⟨G, o⟩ := ho
  unfold bxI bxE at hW1
  have hput := fun n => put_any x.sb (G 1) x.F e.src e.num (W1.drewN n) ((SetObj.own x.sb x.F).below (o.get (i := 1) rfl) (below_drewN (Below.refl _ _) n)) he (by omega) (by omega) (by omega)
  have HPUT := Lib.hid hput
  have HO := Lib.hid o
  obtain ⟨b0, e0, e1, -, i1, -, -⟩ := in2_cells o
  have HHN := Lib.hid hn
  clear h o hput hn
  go_enter Tryz.func19, Tryz.ntmps19
  go_upto_region 1 with fail
  rw [← hW1]
  clear hW1
  go_cut [13] (fun s13 wx => ∃ G', Objs w0 wx B (inOb2 p (setF x (putF x.F e.src e.num)) w.heap.size e) G')
  case first =>
    refine heldStart 9 (S := fun W => W.cell? ⟨w.heap.size, 0, none⟩ = some (.pointer (some ⟨x.ib, 0, none⟩)) ∧ W.cell? ⟨x.ib, 1, none⟩ = some (.pointer (some ⟨x.sb, 0, none⟩)) ∧ W.cell? ⟨w.heap.size + 1, 0, none⟩ = some (.string e.src) ∧ W.cell? ⟨w.heap.size + 1, 1, none⟩ = some (.int .i64 e.num)) (by kernel_rfl) ?_ (fun hHeld => ?_)
    · first | exact ⟨b0b, i1b, e0b, e1b⟩ | exact ⟨b0, i1, e0, e1⟩
    refine heldTake 0 (v := ?_) (by simp only [List.getElem?_toArray, List.getElem?_cons_succ, List.getElem?_cons_zero]; rfl) (by kernel_rfl) (by intro _ _ _ h; exact h) (by rfl) (by assumption) ?_ ?_
    rotate_left
    · intro W hSw; (try dsimp only at hSw); go_simp; try with_reducible rfl
    simp only [Act.put, List.setIfInBounds_toArray, List.set_cons_zero, List.set_cons_succ]
    refine heldTake 1 (v := ?_) (by simp only [List.getElem?_toArray, List.getElem?_cons_succ, List.getElem?_cons_zero]; rfl) (by kernel_rfl) (by intro _ _ _ h; exact h) (by rfl) (by assumption) ?_ ?_
    rotate_left
    · intro W hSw; (try dsimp only at hSw); go_simp; try with_reducible rfl
    simp only [Act.put, List.setIfInBounds_toArray, List.set_cons_zero, List.set_cons_succ]
    refine heldTake 2 (v := ?_) (by simp only [List.getElem?_toArray, List.getElem?_cons_succ, List.getElem?_cons_zero]; rfl) (by kernel_rfl) (by intro _ _ _ h; exact h) (by rfl) (by assumption) ?_ ?_
    rotate_left
    · intro W hSw; (try dsimp only at hSw); go_simp; try with_reducible rfl
    simp only [Act.put, List.setIfInBounds_toArray, List.set_cons_zero, List.set_cons_succ]
    refine heldTake 3 (v := ?_) (by simp only [List.getElem?_toArray, List.getElem?_cons_succ, List.getElem?_cons_zero]; rfl) (by kernel_rfl) (by intro _ _ _ h; exact h) (by rfl) (by assumption) ?_ ?_
    rotate_left
    · intro W hSw; (try dsimp only at hSw); go_simp; try with_reducible rfl
    simp only [Act.put, List.setIfInBounds_toArray, List.set_cons_zero, List.set_cons_succ]
    refine heldTake 4 (v := ?_) (by simp only [List.getElem?_toArray, List.getElem?_cons_succ, List.getElem?_cons_zero]; rfl) (by kernel_rfl) (by intro _ _ _ h; exact h) (by rfl) (by assumption) ?_ ?_
    rotate_left
    · intro W hSw; (try dsimp only at hSw); go_simp; try with_reducible rfl
    simp only [Act.put, List.setIfInBounds_toArray, List.set_cons_zero, List.set_cons_succ]
    refine heldTake 5 (v := ?_) (by simp only [List.getElem?_toArray, List.getElem?_cons_succ, List.getElem?_cons_zero]; rfl) (by kernel_rfl) (by intro _ _ _ h; exact h) (by rfl) (by assumption) ?_ ?_
    rotate_left
    · intro W hSw; (try dsimp only at hSw); go_simp; try with_reducible rfl
    simp only [Act.put, List.setIfInBounds_toArray, List.set_cons_zero, List.set_cons_succ]
    refine heldTake 6 (v := ?_) (by simp only [List.getElem?_toArray, List.getElem?_cons_succ, List.getElem?_cons_zero]; rfl) (by kernel_rfl) (by intro _ _ _ h; exact h) (by rfl) (by assumption) ?_ ?_
    rotate_left
    · intro W hSw; (try dsimp only at hSw); go_simp; try with_reducible rfl
    simp only [Act.put, List.setIfInBounds_toArray, List.set_cons_zero, List.set_cons_succ]
    refine heldTake 7 (v := ?_) (by simp only [List.getElem?_toArray, List.getElem?_cons_succ, List.getElem?_cons_zero]; rfl) (by kernel_rfl) (by intro _ _ _ h; exact h) (by rfl) (by assumption) ?_ ?_
    rotate_left
    · intro W hSw; (try dsimp only at hSw); go_simp; try with_reducible rfl
    simp only [Act.put, List.setIfInBounds_toArray, List.set_cons_zero, List.set_cons_succ]
    refine heldCall 8 (by simp only [List.getElem?_toArray, List.getElem?_cons_succ, List.getElem?_cons_zero]; rfl) (by kernel_rfl) (fun K hK => ?_)
    go_simp
    refine (HPUT.out 1).mono ?_
    rintro r w6 ⟨G', rfl, hset, hupd⟩
    obtain ⟨G6, o6⟩ := (HO.out.below (below_drewN (Below.refl _ W1) 1)).upd (setOb x.sb (putF x.F e.src e.num)) (i := 1) rfl hupd hset
    have o6 : Objs w0 w6 B (inOb2 p (setF x (putF x.F e.src e.num)) w.heap.size e) G6 := o6
    obtain ⟨b0b, e0b, e1b, -, i1b, -, -⟩ := in2_cells o6
    simp only [setF] at b0b i1b
    have HO6 := Lib.hid o6
    clear o6 hset hupd
    go_wp2_with fail
    refine hK.out _ _ ?_ (fun hHeld => ?_)
    · first | exact ⟨b0b, i1b, e0b, e1b⟩ | exact ⟨b0, i1, e0, e1⟩
    clear hK K
    (try simp only [Act.put, List.setIfInBounds_toArray, List.set_cons_zero, List.set_cons_succ])
    refine heldDone (by kernel_rfl) ?_ _
    go_wp2_with fail
    go_meet
    case rel => exact ⟨G6, HO6.out⟩
  case rest =>
    obtain ⟨G2, o2⟩ := hcut
    clear HPUT HO b0 e0 e1 i1
    generalize wc = W2 at *
    generalize hx2 : setF x (putF x.F e.src e.num) = x2 at *
    have hxT : x2.T = x.T ∧ x2.ib = x.ib ∧ x2.TA = x.TA ∧ x2.Tc = x.Tc := by rw [← hx2]; exact ⟨rfl, rfl, rfl, rfl⟩
    obtain ⟨b0, -, -, -, -, i2, he2⟩ := in2_cells o2
    rw [hxT.2.1] at b0 i2
    have HXT := Lib.hid hxT
    have hrow := (o2.get (i := 5) rfl).2
    have hrd := Reads.of_own hrow
    have hTn : x2.T.length ≤ 60 := by rw [hxT.1]; exact hT
    have hse := search_weak 32 #[.pointer (some ⟨w.heap.size, 0, none⟩), .pointer (some ⟨w.heap.size + 1, 0, none⟩)] x2.T.length W2 enter_take1 (by omega) (fun W hb k hk => by
      obtain ⟨g, oo, hA, hg, hcc⟩ := hrd.2 (by omega)
      rw [hA] at i2
      refine take1_any w.heap.size (w.heap.size + 1) x.ib g oo x2.T.length x2.Tc k x2.T[k] e W ((hb.cell (p := ⟨w.heap.size, 0, none⟩) (World.block_lt_of_cell? _ _ b0)).trans b0) ((hb.cell (p := ⟨x.ib, 2, none⟩) (World.block_lt_of_cell? _ _ i2)).trans i2) hk (by omega) (fun j v hv => ?_) ((hb.block (w.heap.size + 1) (Array.getElem?_eq_some_iff.1 he2).1).trans he2)
      have hj : j < 8 := (List.getElem?_eq_some_iff.1 hv).1
      have h2 := hcc (k * 8 + j) v ((ev_at hk j hj).trans hv)
      rw [← Nat.add_assoc] at h2
      exact (hb.cell (p := ⟨g, oo + k * 8 + j, none⟩) hg).trans h2)
    have HSE := Lib.hid hse
    have HO2 := Lib.hid o2
    clear hse hrd hrow he2 o2
    have HTN := Lib.hid hTn
    clear hxT hT hF
    go_wp2_with fail
    refine HSE.out.mono ?_
    rintro r w3 ⟨⟨k, hk, rfl⟩, hb3⟩
    have o3 := HO2.out.below hb3
    have HK := Lib.hid hk
    have hx3b : w.heap.size + 1 < w3.heap.size := (Array.getElem?_eq_some_iff.1 (in2_cells o3).2.2.2.2.2.2).1
    clear HSE hb3 b0 i2 HO2
    obtain ⟨b0, -, -, k3, -, i2, he3⟩ := in2_cells o3
    rw [HXT.out.2.1] at b0 i2
    obtain ⟨W4, hW4⟩ : ∃ W4, W4 = (w3.alloc (.cells #[.string e.src, .int .i64 e.num, .int .i64 e.at_, .int .i64 e.kind, .string e.person, .string e.item, .int .i64 e.value, .string e.text] 41)).drew := ⟨_, rfl⟩
    have hb4 : Below w3.heap.size w3 W4 := by rw [hW4]; exact ((Below.refl _ w3).alloc (Nat.le_refl _) _).drew
    have hv4 : W4.heap[w3.heap.size]? = some (.cells (evCells e).toArray 41 (0, 0)) := by rw [hW4]; exact heap_alloc_new w3 _
    have o4 := o3.below hb4
    obtain ⟨b04, -, -, -, -, i24, -⟩ := in2_cells o4
    rw [HXT.out.2.1] at b04 i24
    have hrow4 := (o4.get (i := 5) rfl).2
    have hins := fun vc => insE_any 0 x2.TA x2.Tc k x2.T e w3.heap.size vc 41 W4 hrow4 hv4 (fun g hg => by
      have h3 := (o3.get (i := 5) rfl).2.lt g.block (by
        rcases hrow4.2 with ⟨q, -⟩ | ⟨g2, cap, cur, q, -⟩
        · injection q with q; rw [hg] at q; cases q
        · injection q with q; rw [hg] at q; injection q with q; subst q; rw [hg]; rfl)
      omega) hk (by omega) (Nat.zero_le _)
    obtain ⟨T2, hT2⟩ : ∃ T2, T2 = x2.T.take k ++ e :: x2.T.drop k := ⟨_, rfl⟩
    rw [← hT2] at hins
    have HT2 := Lib.hid hT2
    clear hT2
    have HINS := Lib.hid hins
    have HO4 := Lib.hid o4
    have HE3 := Lib.hid (show w3.heap[w.heap.size + 1]? = some (.cells #[.string e.src, .int .i64 e.num, .int .i64 e.at_, .int .i64 e.kind, .string e.person, .string e.item, .int .i64 e.value, .string e.text] 41 (0, 0)) from he3)
    have HW4 := Lib.hid hW4
    clear hins hrow4 hv4 hb4 o4 o3 hk he3 hW4 hx3b
    go_upto_region 3 with fail
    go_cut [21] (fun s21 wx => ∃ A' c' G', Objs w0 wx B (inOb2 p (setT x2 A' c' T2) w.heap.size e) G')
    case first =>
      have b0d : w3.drew.cell? ⟨w.heap.size, 0, none⟩ = some (.pointer (some ⟨x.ib, 0, none⟩)) := b0
      have i2d : w3.drew.cell? ⟨x.ib, 2, none⟩ = some (.slice x2.TA x2.T.length x2.Tc) := i2
      refine heldStart 11 (S := fun W => W.cell? ⟨w.heap.size, 0, none⟩ = some (.pointer (some ⟨x.ib, 0, none⟩)) ∧ W.cell? ⟨x.ib, 2, none⟩ = some (.slice x2.TA x2.T.length x2.Tc)) (by kernel_rfl) ?_ (fun hHeld => ?_)
      · first | exact ⟨b05, i25⟩ | with_reducible exact ⟨b04, i24⟩ | exact ⟨by rw [← HW4.out]; exact b04, by rw [← HW4.out]; exact i24⟩ | exact ⟨b0d, i2d⟩
      refine heldTake 0 (v := ?_) (by simp only [List.getElem?_toArray, List.getElem?_cons_succ, List.getElem?_cons_zero]; rfl) (by kernel_rfl) (by intro _ _ _ h; exact h) (by rfl) (by assumption) ?_ ?_
      rotate_left
      · intro W hSw; (try dsimp only at hSw); go_simp; try with_reducible rfl
      simp only [Act.put, List.setIfInBounds_toArray, List.set_cons_zero, List.set_cons_succ]
      refine heldTake 1 (v := ?_) (by simp only [List.getElem?_toArray, List.getElem?_cons_succ, List.getElem?_cons_zero]; rfl) (by kernel_rfl) (by intro _ _ _ h; exact h) (by rfl) (by assumption) ?_ ?_
      rotate_left
      · intro W hSw; (try dsimp only at hSw); go_simp; try with_reducible rfl
      simp only [Act.put, List.setIfInBounds_toArray, List.set_cons_zero, List.set_cons_succ]
      refine heldTake 2 (v := ?_) (by simp only [List.getElem?_toArray, List.getElem?_cons_succ, List.getElem?_cons_zero]; rfl) (by kernel_rfl) (by intro _ _ _ h; exact h) (by rfl) (by assumption) ?_ ?_
      rotate_left
      · intro W hSw; (try dsimp only at hSw); go_simp; try with_reducible rfl
      simp only [Act.put, List.setIfInBounds_toArray, List.set_cons_zero, List.set_cons_succ]
      refine heldTake 3 (v := ?_) (by simp only [List.getElem?_toArray, List.getElem?_cons_succ, List.getElem?_cons_zero]; rfl) (by kernel_rfl) (by intro _ _ _ h; exact h) (by rfl) (by assumption) ?_ ?_
      rotate_left
      · intro W hSw; (try dsimp only at hSw); go_simp; try with_reducible rfl
      simp only [Act.put, List.setIfInBounds_toArray, List.set_cons_zero, List.set_cons_succ]
      refine heldTake 4 (v := ?_) (by simp only [List.getElem?_toArray, List.getElem?_cons_succ, List.getElem?_cons_zero]; rfl) (by kernel_rfl) (by intro _ _ _ h; exact h) (by rfl) (by assumption) ?_ ?_
      rotate_left
      · intro W hSw; (try dsimp only at hSw); go_simp; try with_reducible rfl
      simp only [Act.put, List.setIfInBounds_toArray, List.set_cons_zero, List.set_cons_succ]
      refine heldTake 5 (v := ?_) (by simp only [List.getElem?_toArray, List.getElem?_cons_succ, List.getElem?_cons_zero]; rfl) (by kernel_rfl) (by intro _ _ _ h; exact h) (by rfl) (by assumption) ?_ ?_
      rotate_left
      · intro W hSw; (try dsimp only at hSw); go_simp; try with_reducible rfl
      simp only [Act.put, List.setIfInBounds_toArray, List.set_cons_zero, List.set_cons_succ]
      refine heldCall 6 (by simp only [List.getElem?_toArray, List.getElem?_cons_succ, List.getElem?_cons_zero]; rfl) (by kernel_rfl) (fun K hK => ?_)
      refine wp_load_row 41 _ rfl (w.heap.size + 1) (by rfl) _ _ _ _ HE3.out Tryz.underlying41 (by rfl) (by kernel_rfl) ?_
      refine hK.out _ _ ?_ (fun hHeld => ?_)
      · first | exact ⟨b05, i25⟩ | with_reducible exact ⟨b04, i24⟩ | exact ⟨by rw [← HW4.out]; exact b04, by rw [← HW4.out]; exact i24⟩ | exact ⟨b0d, i2d⟩
      clear hK K
      (try simp only [Act.put, List.setIfInBounds_toArray, List.set_cons_zero, List.set_cons_succ])
      refine heldCall 7 (by simp only [List.getElem?_toArray, List.getElem?_cons_succ, List.getElem?_cons_zero]; rfl) (by kernel_rfl) (fun K hK => ?_)
      go_wp2_with fail
      refine hK.out _ _ ?_ (fun hHeld => ?_)
      · first | exact ⟨b05, i25⟩ | with_reducible exact ⟨b04, i24⟩ | exact ⟨by rw [← HW4.out]; exact b04, by rw [← HW4.out]; exact i24⟩ | exact ⟨b0d, i2d⟩
      clear hK K
      (try simp only [Act.put, List.setIfInBounds_toArray, List.set_cons_zero, List.set_cons_succ])
      refine heldCall 8 (by simp only [List.getElem?_toArray, List.getElem?_cons_succ, List.getElem?_cons_zero]; rfl) (by kernel_rfl) (fun K hK => ?_)
      go_simp
      rw [← HW4.out]
      refine (HINS.out _).mono ?_
      rintro r w5 ⟨g, c', rfl, hrow5, hgr, hgg⟩
      obtain ⟨G5, o5⟩ := HO4.out.upd (rowOb (some ⟨g, 0, none⟩) c' T2) (i := 5) (F' := fun q => (Value.slice (some ⟨g, 0, none⟩) T2.length c').ownBlock = some q) rfl (by
        have e5 := (HO4.out.get (i := 5) rfl).1
        refine ⟨(Keeps.ofGrown hgr).mono (fun q _ hq => by rw [e5]; exact hq.symm), fun q hq => ?_⟩
        have hqg : g = q := by injection hq
        subst hqg
        rcases hgg with hgg | hgg
        · left; rw [e5]; exact hgg.symm
        · exact .inr hgg) ⟨rfl, hrow5.2⟩
      have hbi5 : w5.heap[w.heap.size]? = some (bxI x2.ib) := (o5.get (i := 8) rfl).2
      have hib5 : w5.heap[x2.ib]? = some (inBlk x2) := (o5.get (i := 4) rfl).2
      unfold bxI at hbi5
      unfold inBlk at hib5
      rw [HXT.out.2.1] at hbi5 hib5
      have b05 : w5.cell? ⟨w.heap.size, 0, none⟩ = some (.pointer (some ⟨x.ib, 0, none⟩)) := by rw [cell_of_row w5 w.heap.size 0 _ _ _ hbi5]; rfl
      have i25 : w5.cell? ⟨x.ib, 2, none⟩ = some (.slice x2.TA x2.T.length x2.Tc) := by rw [cell_of_row w5 x.ib 2 _ _ _ hib5]; rfl
      have fr5 : w5.frozen? ⟨x.ib, 2, none⟩ = false := frozen_block hib5 _
      have HO5 := Lib.hid o5
      have HIB5 := Lib.hid hib5
      clear o5 hbi5 hib5 hrow5 hgr hgg
      go_wp2_with fail
      refine hK.out _ _ ?_ (fun hHeld => ?_)
      · first | exact ⟨b05, i25⟩ | with_reducible exact ⟨b04, i24⟩ | exact ⟨by rw [← HW4.out]; exact b04, by rw [← HW4.out]; exact i24⟩ | exact ⟨b0d, i2d⟩
      clear hK K
      (try simp only [Act.put, List.setIfInBounds_toArray, List.set_cons_zero, List.set_cons_succ])
      refine heldTake 9 (v := ?_) (by simp only [List.getElem?_toArray, List.getElem?_cons_succ, List.getElem?_cons_zero]; rfl) (by kernel_rfl) (by intro _ _ _ h; exact h) (by rfl) (by assumption) ?_ ?_
      rotate_left
      · intro W hSw; (try dsimp only at hSw); go_simp; try with_reducible rfl
      simp only [Act.put, List.setIfInBounds_toArray, List.set_cons_zero, List.set_cons_succ]
      refine heldTake 10 (v := ?_) (by simp only [List.getElem?_toArray, List.getElem?_cons_succ, List.getElem?_cons_zero]; rfl) (by kernel_rfl) (by intro _ _ _ h; exact h) (by rfl) (by assumption) ?_ ?_
      rotate_left
      · intro W hSw; (try dsimp only at hSw); go_simp; try with_reducible rfl
      simp only [Act.put, List.setIfInBounds_toArray, List.set_cons_zero, List.set_cons_succ]
      refine heldLast 11 (by simp only [List.getElem?_toArray, List.getElem?_cons_succ, List.getElem?_cons_zero]; rfl) (by kernel_rfl) rfl (fun K hK => ?_)
      go_simp
      refine hK.out _ _ ?_
      clear hK K
      (try simp only [Act.put, List.setIfInBounds_toArray, List.set_cons_zero, List.set_cons_succ])
      refine heldDone (by kernel_rfl) ?_ _
      go_wp2_with fail
      go_meet
      case rel =>
        have e4 := (HO5.out.get (i := 4) rfl).1
        obtain ⟨G6, o6⟩ := HO5.out.upd (kOb x2.ib (inBlk (setT x2 (some ⟨g, 0, none⟩) c' T2))) (i := 4) (F' := fun q => q = x2.ib) (w' := w5.setCell ⟨x.ib, 2, none⟩ (.slice (some ⟨g, 0, none⟩) T2.length c')) rfl (by
          refine ⟨?_, fun q hq => .inl (by rw [e4]; exact hq)⟩
          rw [e4]
          exact (Keeps.refl (fun q => q = x2.ib) w5).setCell (p := ⟨x.ib, 2, none⟩) (.inr HXT.out.2.1.symm) _) ⟨rfl, by
          have h1 := setCell_blkC HIB5.out 2 (.slice (some ⟨g, 0, none⟩) T2.length c')
          rw [HXT.out.2.1]
          exact h1⟩
        exact ⟨some ⟨g, 0, none⟩, c', G6, o6⟩
    case rest =>
      obtain ⟨A7, c7, G7, o7⟩ := hcut
      obtain ⟨-, -, -, k7, -, -, -⟩ := in2_cells o7
      have HO7 := Lib.hid o7
      have hkf : (e.kind == 14) = false := by simpa using hkd
      have hl : T2.length = x2.T.length + 1 := by rw [HT2.out, List.length_append, List.length_cons, List.length_take, List.length_drop]; have := HK.out; omega
      have hfin : TkeNew p w0 B x e w (.returned (.tuple #[])) wc := by
        refine ⟨setT x2 A7 c7 T2, G7, T2, A7, c7, rfl, o7.pre.pre, ?_, ?_, ?_, k, ?_⟩
        · rw [← hx2]; rfl
        · rw [hl, HXT.out.1]
        · intro y hy
          rw [HT2.out] at hy
          rcases List.mem_append.1 hy with hy | hy
          · left; rw [← HXT.out.1]; exact List.mem_of_mem_take hy
          · rcases List.mem_cons.1 hy with rfl | hy
            · exact .inr rfl
            · left; rw [← HXT.out.1]; exact List.mem_of_mem_drop hy
        · rw [HT2.out, HXT.out.1]
      have HF := Lib.hid hfin
      clear hfin o7 hl HINS HO4 HE3 HW4 b0 i2 b04 i24 k3
      go_wp2_with fail
      go_end0
      exact HF.out
end Go.Proofs.YthbijemihaekiaaGreatDoor
