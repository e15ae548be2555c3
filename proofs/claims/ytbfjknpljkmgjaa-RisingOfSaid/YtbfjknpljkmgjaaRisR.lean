/- Contract of the reference's Less. -/
import Derived.Test.YtbfjknpljkmgjaaRisQ
namespace Go.Proofs.Ytbfjknpljkmgjaa
open Go.ChangeShapes Go.WideShapes Go.ChangeAt Go.RowKit Go.Shelf Go.Lib Go.Sort Go.Proofs
set_option linter.unusedVariables false
set_option linter.unusedSimpArgs false

theorem neq_wide (a b c d : Int) (w : World) : (binOp .neq 92 (.agg #[.int .u64 a, .int .u64 b]) (.agg #[.int .u64 c, .int .u64 d])).run Try.prog w = .ok (.bool (!(a == c && b == d))) w := by
  have hS : Try.prog.underlying 92 = some (.struct (Try.prog.fieldsOf 92)) := by kernel_rfl
  have hp : Try.prog.stoodInHeld 92 = false := by kernel_rfl
  have p0 := fun (v : Value) (xs : Array Value) (h : xs[0]? = some v) => run_part_plain (P := Try.prog) (w := w) (e := 73) (by kernel_rfl) h
  have p1 := fun (v : Value) (xs : Array Value) (h : xs[1]? = some v) => run_part_plain (P := Try.prog) (w := w) (e := 73) (by kernel_rfl) h
  have i := fun (d : Nat) (a b : Int) => run_equalIn_int (P := Try.prog) w d 73 .u64 .u64 a b Try.underlying73
  rw [run_neq_struct, run_equalIn_agg w 9999 _ _ _ hS hp]
  simp only [Program.fieldsOf, Try.underlying92, Op.eqFields]
  cases h1 : a == c <;> cases h2 : b == d <;> simp [Op.eqFields, p0, p1, i, h1, h2, Result.andThen]

theorem riseLt_is (a b : RiseV) : riseLt a b = if a.new * (b.old + 1) = b.new * (a.old + 1) then (if a.new = b.new then sLt a.key b.key else decide (b.new < a.new)) else decide (b.new * (a.old + 1) < a.new * (b.old + 1)) := by
  have h := riseLt_iff a b
  by_cases h1 : a.new * (b.old + 1) = b.new * (a.old + 1)
  · rw [if_pos h1]
    by_cases h2 : a.new = b.new
    · rw [if_pos h2]
      cases hs : sLt a.key b.key with
      | true => exact h.2 (.inr ⟨h1.symm, .inr ⟨h2.symm, hs⟩⟩)
      | false =>
        cases hr : riseLt a b with
        | false => rfl
        | true =>
          rcases h.1 hr with h3 | ⟨_, h3 | ⟨_, h3⟩⟩
          · omega
          · omega
          · rw [hs] at h3; cases h3
    · rw [if_neg h2]
      by_cases h3 : b.new < a.new
      · rw [decide_eq_true h3]; exact h.2 (.inr ⟨h1.symm, .inl h3⟩)
      · rw [decide_eq_false h3]
        cases hr : riseLt a b with
        | false => rfl
        | true => rcases h.1 hr with h4 | ⟨_, h4 | ⟨h4, _⟩⟩ <;> omega
  · rw [if_neg h1]
    by_cases h3 : b.new * (a.old + 1) < a.new * (b.old + 1)
    · rw [decide_eq_true h3]; exact h.2 (.inl h3)
    · rw [decide_eq_false h3]
      cases hr : riseLt a b with
      | false => rfl
      | true => rcases h.1 hr with h4 | ⟨h4, _⟩ <;> omega

/-- The boxes of Less: those of its arguments stand ahead of W0's end; 5 and 6 come behind it. -/
structure LessAt (W0 W : World) (a5 : Option Nat) (N5 : Int) (a6 : Option Nat) (N6 : Int) : Prop where
  below : Below W0.heap.size W0 W
  b5 : ∀ p, a5 = some p → W0.heap.size ≤ p ∧ W.heap[p]? = some (.cells (wideC N5) 92 (0, 0))
  b6 : ∀ p, a6 = some p → W0.heap.size ≤ p ∧ W.heap[p]? = some (.cells (wideC N6) 92 (0, 0))
  ne : ∀ p q, a5 = some p → a6 = some q → p ≠ q
theorem LessAt.start (W0 : World) : LessAt W0 W0.drew none 0 none 0 := ⟨(Below.refl _ _).drew, (fun p h => by cases h), (fun p h => by cases h), (fun p q h => by cases h)⟩
theorem LessAt.call {W0 W W' : World} {a5 a6 : Option Nat} {N5 N6 : Int} (h : LessAt W0 W a5 N5 a6 N6) (hb : Below W.heap.size W W') : LessAt W0 W' a5 N5 a6 N6 :=
  ⟨h.below.trans (hb.mono h.below.size), fun p e => ⟨(h.b5 p e).1, (hb.block _ (lt_of_blk (h.b5 p e).2)).trans (h.b5 p e).2⟩, fun p e => ⟨(h.b6 p e).1, (hb.block _ (lt_of_blk (h.b6 p e).2)).trans (h.b6 p e).2⟩, h.ne⟩
theorem LessAt.alloc5 {W0 W : World} {a6 : Option Nat} {N5 N6 : Int} (h : LessAt W0 W none N5 a6 N6) : LessAt W0 (W.alloc (.cells #[.int .u64 0, .int .u64 0] 92)) (some W.heap.size) 0 a6 N6 :=
  ⟨h.below.alloc h.below.size _, fun p e => by injection e with e; subst e; exact ⟨h.below.size, heap_alloc_new W _⟩, fun p e => ⟨(h.b6 p e).1, (Below.heap_alloc W _ _ (lt_of_blk (h.b6 p e).2)).trans (h.b6 p e).2⟩, fun p q e e' => by injection e with e; have := lt_of_blk (h.b6 q e').2; omega⟩
theorem LessAt.alloc6 {W0 W : World} {a5 : Option Nat} {N5 N6 : Int} (h : LessAt W0 W a5 N5 none N6) : LessAt W0 (W.alloc (.cells #[.int .u64 0, .int .u64 0] 92)) a5 N5 (some W.heap.size) 0 :=
  ⟨h.below.alloc h.below.size _, fun p e => ⟨(h.b5 p e).1, (Below.heap_alloc W _ _ (lt_of_blk (h.b5 p e).2)).trans (h.b5 p e).2⟩, fun p e => by injection e with e; subst e; exact ⟨h.below.size, heap_alloc_new W _⟩, fun p q e e' => by injection e' with e'; have := lt_of_blk (h.b5 p e).2; omega⟩
theorem LessAt.set5 {W0 W : World} {p : Nat} {a6 : Option Nat} {N5 N6 : Int} (h : LessAt W0 W (some p) N5 a6 N6) (M : Int) : LessAt W0 ((W.setCell ⟨p, 0, none⟩ (.int .u64 (M / 18446744073709551616))).setCell ⟨p, 1, none⟩ (.int .u64 (M % 18446744073709551616))) (some p) M a6 N6 :=
  ⟨(h.below.setCell (h.b5 p rfl).1 _).setCell (h.b5 p rfl).1 _, fun q e => by injection e with e; subst e; exact ⟨(h.b5 p rfl).1, wide_set (h.b5 p rfl).2⟩, fun q e => ⟨(h.b6 q e).1, (wide_other (fun e' => h.ne p q rfl e e'.symm)).trans (h.b6 q e).2⟩, h.ne⟩
theorem LessAt.set6 {W0 W : World} {q : Nat} {a5 : Option Nat} {N5 N6 : Int} (h : LessAt W0 W a5 N5 (some q) N6) (M : Int) : LessAt W0 ((W.setCell ⟨q, 0, none⟩ (.int .u64 (M / 18446744073709551616))).setCell ⟨q, 1, none⟩ (.int .u64 (M % 18446744073709551616))) a5 N5 (some q) M :=
  ⟨(h.below.setCell (h.b6 q rfl).1 _).setCell (h.b6 q rfl).1 _, fun p e => ⟨(h.b5 p e).1, (wide_other (fun e' => h.ne p q e rfl e')).trans (h.b5 p e).2⟩, fun p e => by injection e with e; subst e; exact ⟨(h.b6 q rfl).1, wide_set (h.b6 q rfl).2⟩, h.ne⟩

/-- The cells of the arguments' boxes. -/
def ArgsAt (z : Nat) (a b : RiseV) (W : World) : Prop :=
  W.cell? ⟨z, 0, none⟩ = some (.string a.key) ∧ W.cell? ⟨z, 1, none⟩ = some (.int .i64 a.new) ∧ W.cell? ⟨z, 2, none⟩ = some (.int .i64 a.old) ∧
  W.cell? ⟨z + 1, 0, none⟩ = some (.string b.key) ∧ W.cell? ⟨z + 1, 1, none⟩ = some (.int .i64 b.new) ∧ W.cell? ⟨z + 1, 2, none⟩ = some (.int .i64 b.old)
theorem ArgsAt.below {z : Nat} {a b : RiseV} {W W' : World} (h : ArgsAt z a b W) (hb : Below W.heap.size W W') (hz : z + 1 < W.heap.size) : ArgsAt z a b W' :=
  ⟨(hb.cell (p := ⟨z, 0, none⟩) (by show z < _; omega)).trans h.1, (hb.cell (p := ⟨z, 1, none⟩) (by show z < _; omega)).trans h.2.1, (hb.cell (p := ⟨z, 2, none⟩) (by show z < _; omega)).trans h.2.2.1,
    (hb.cell (p := ⟨z + 1, 0, none⟩) hz).trans h.2.2.2.1, (hb.cell (p := ⟨z + 1, 1, none⟩) hz).trans h.2.2.2.2.1, (hb.cell (p := ⟨z + 1, 2, none⟩) hz).trans h.2.2.2.2.2⟩

set_option maxRecDepth 20000 in
set_option maxHeartbeats 4000000 in
theorem rless_any (a b : RiseV) (ha : RiseOk a) (hb : RiseOk b) (w : World) :
    Calls Try.prog 35 #[.agg #[.string a.key, .int .i64 a.new, .int .i64 a.old], .agg #[.string b.key, .int .i64 b.new, .int .i64 b.old]] w fun e w' => e = .returned (.bool (riseLt a b)) ∧ Below w.heap.size w w' := by
  obtain ⟨a1, a2, a3, a4⟩ := ha
  obtain ⟨b1, b2, b3, b4⟩ := hb
  have HR := Lib.hid (riseLt_is a b)
  have q1 := fun W => times_any a.new (b.old + 1) (by omega) (by omega) (by omega) (by omega) W
  have q2 := fun W => times_any b.new (a.old + 1) (by omega) (by omega) (by omega) (by omega) W
  unfold wideV at q1 q2
  have v1 : IntKind.u64.wrap a.new = a.new := by show a.new % 18446744073709551616 = _; omega
  have v2 : IntKind.u64.wrap b.new = b.new := by show b.new % 18446744073709551616 = _; omega
  have v3 : IntKind.u64.wrap (a.old + 1) = a.old + 1 := by show (a.old + 1) % 18446744073709551616 = _; omega
  have v4 : IntKind.u64.wrap (b.old + 1) = b.old + 1 := by show (b.old + 1) % 18446744073709551616 = _; omega
  have v5 : IntKind.i64.wrap (a.old + 1) = a.old + 1 := IntWalk.i64_in _ (by omega)
  have v6 : IntKind.i64.wrap (b.old + 1) = b.old + 1 := IntWalk.i64_in _ (by omega)
  have hW0 : ∃ W0, W0 = ((w.alloc (Obj.cells #[Value.string a.key, Value.int .i64 a.new, Value.int .i64 a.old] 34)).alloc (Obj.cells #[Value.string b.key, Value.int .i64 b.new, Value.int .i64 b.old] 34)) := ⟨_, rfl⟩
  obtain ⟨W0, hW0⟩ := hW0
  have hA : ArgsAt w.heap.size a b W0 := by
    rw [hW0]
    refine ⟨?_, ?_, ?_, ?_, ?_, ?_⟩ <;> simp
  have hz : w.heap.size + 1 < W0.heap.size := by rw [hW0]; simp
  have HB0 : Hid (Below w.heap.size w W0) := Lib.hid (by rw [hW0]; exact ((Below.refl _ _).alloc (Nat.le_refl _) _).alloc (by simp) _)
  have hSt := LessAt.start W0
  generalize hX : a.new * (b.old + 1) = X at *
  generalize hY : b.new * (a.old + 1) = Y at *
  have hn := neq_wide (X / 18446744073709551616) (X % 18446744073709551616) (Y / 18446744073709551616) (Y % 18446744073709551616)
  have hne : X = Y → ∀ w, (binOp .neq 92 (.agg #[.int .u64 (X / 18446744073709551616), .int .u64 (X % 18446744073709551616)]) (.agg #[.int .u64 (Y / 18446744073709551616), .int .u64 (Y % 18446744073709551616)])).run Try.prog w = .ok (.bool false) w := by
    intro e w
    rw [hn, e]
    simp
  have hnn : ¬ X = Y → ∀ w, (binOp .neq 92 (.agg #[.int .u64 (X / 18446744073709551616), .int .u64 (X % 18446744073709551616)]) (.agg #[.int .u64 (Y / 18446744073709551616), .int .u64 (Y % 18446744073709551616)])).run Try.prog w = .ok (.bool true) w := by
    intro e w
    have : (X / 18446744073709551616 == Y / 18446744073709551616 && X % 18446744073709551616 == Y % 18446744073709551616) = false := by
      rw [Bool.and_eq_false_iff, beq_eq_false_iff_ne, beq_eq_false_iff_ne]
      omega
    rw [hn, this]
    rfl
  have HNE := Lib.hid hne
  have HNN := Lib.hid hnn
  have HL := Lib.hid (fun W => wless_any Y X W)
  unfold wideV at HL
  have Q1 := Lib.hid q1
  have Q2 := Lib.hid q2
  have HA := Lib.hid hA
  clear q1 q2 hn hX hY hA hne hnn
  go_enter Try.func35, Try.ntmps35
  go_wp2_with fail
  rw [← hW0]
  clear hW0
  refine heldStart 19 (S := fun W => W.cell? ⟨w.heap.size, 0, none⟩ = some (.string a.key) ∧ W.cell? ⟨w.heap.size, 1, none⟩ = some (.int .i64 a.new) ∧ W.cell? ⟨w.heap.size, 2, none⟩ = some (.int .i64 a.old) ∧ W.cell? ⟨w.heap.size + 1, 0, none⟩ = some (.string b.key) ∧ W.cell? ⟨w.heap.size + 1, 1, none⟩ = some (.int .i64 b.new) ∧ W.cell? ⟨w.heap.size + 1, 2, none⟩ = some (.int .i64 b.old)) (by kernel_rfl) ?_ (fun hHeld => ?_)
  · exact HA.out.below hSt.below hz
  refine heldTake 0 (v := ?_) (by simp only [List.getElem?_toArray, List.getElem?_cons_succ, List.getElem?_cons_zero]; rfl) (by kernel_rfl) (by intro _ _ _ h; exact h) (by rfl) (by assumption) ?_ ?_
  rotate_left
  · intro W hSw; (try dsimp only at hSw); go_simp; try with_reducible rfl
  simp only [Act.put, List.setIfInBounds_toArray, List.set_cons_zero, List.set_cons_succ]
  refine heldTake 1 (v := ?_) (by simp only [List.getElem?_toArray, List.getElem?_cons_succ, List.getElem?_cons_zero]; rfl) (by kernel_rfl) (by intro _ _ _ h; exact h) (by rfl) (by assumption) ?_ ?_
  rotate_left
  · intro W hSw; (try dsimp only at hSw); go_simp; try with_reducible rfl
  simp only [Act.put, List.setIfInBounds_toArray, List.set_cons_zero, List.set_cons_succ]
  refine heldTake 2 (v := ?_) (by simp only [List.getElem?_toArray, List.getElem?_cons_succ, List.getElem?_cons_zero]; rfl) (by kernel_rfl) (by intro _ _ _ h; exact h) (by rfl) (by assumption) ?_ ?_
  rotate_left
  · intro W hSw; (try dsimp only at hSw); go_simp; try with_reducible rfl
  simp only [Act.put, List.setIfInBounds_toArray, List.set_cons_zero, List.set_cons_succ]
  refine heldTake 3 (v := ?_) (by simp only [List.getElem?_toArray, List.getElem?_cons_succ, List.getElem?_cons_zero]; rfl) (by kernel_rfl) (by intro _ _ _ h; exact h) (by rfl) (by assumption) ?_ ?_
  rotate_left
  · intro W hSw; (try dsimp only at hSw); go_simp; try with_reducible rfl
  simp only [Act.put, List.setIfInBounds_toArray, List.set_cons_zero, List.set_cons_succ]
  refine heldTake 4 (v := ?_) (by simp only [List.getElem?_toArray, List.getElem?_cons_succ, List.getElem?_cons_zero]; rfl) (by kernel_rfl) (by intro _ _ _ h; exact h) (by rfl) (by assumption) ?_ ?_
  rotate_left
  · intro W hSw; (try dsimp only at hSw); go_simp; try with_reducible rfl
  simp only [Act.put, List.setIfInBounds_toArray, List.set_cons_zero, List.set_cons_succ]
  refine heldTake 5 (v := ?_) (by simp only [List.getElem?_toArray, List.getElem?_cons_succ, List.getElem?_cons_zero]; rfl) (by kernel_rfl) (by intro _ _ _ h; exact h) (by rfl) (by assumption) ?_ ?_
  rotate_left
  · intro W hSw; (try dsimp only at hSw); go_simp; try with_reducible rfl
  simp only [Act.put, List.setIfInBounds_toArray, List.set_cons_zero, List.set_cons_succ]
  refine heldTake 6 (v := ?_) (by simp only [List.getElem?_toArray, List.getElem?_cons_succ, List.getElem?_cons_zero]; rfl) (by kernel_rfl) (by intro _ _ _ h; exact h) (by rfl) (by assumption) ?_ ?_
  rotate_left
  · intro W hSw; (try dsimp only at hSw); go_simp; try with_reducible rfl
  simp only [Act.put, List.setIfInBounds_toArray, List.set_cons_zero, List.set_cons_succ]
  refine heldTake 8 (v := ?_) (by simp only [List.getElem?_toArray, List.getElem?_cons_succ, List.getElem?_cons_zero]; rfl) (by kernel_rfl) (by intro _ _ _ h; exact h) (by rfl) (by assumption) ?_ ?_
  rotate_left
  · intro W hSw; (try dsimp only at hSw); go_simp; try with_reducible rfl
  simp only [Act.put, List.setIfInBounds_toArray, List.set_cons_zero, List.set_cons_succ]
  refine heldTake 9 (v := ?_) (by simp only [List.getElem?_toArray, List.getElem?_cons_succ, List.getElem?_cons_zero]; rfl) (by kernel_rfl) (by intro _ _ _ h; exact h) (by rfl) (by assumption) ?_ ?_
  rotate_left
  · intro W hSw; (try dsimp only at hSw); go_simp; try with_reducible rfl
  simp only [Act.put, List.setIfInBounds_toArray, List.set_cons_zero, List.set_cons_succ]
  refine heldTake 10 (v := ?_) (by simp only [List.getElem?_toArray, List.getElem?_cons_succ, List.getElem?_cons_zero]; rfl) (by kernel_rfl) (by intro _ _ _ h; exact h) (by rfl) (by assumption) ?_ ?_
  rotate_left
  · intro W hSw; (try dsimp only at hSw); go_simp; try with_reducible rfl
  simp only [Act.put, List.setIfInBounds_toArray, List.set_cons_zero, List.set_cons_succ]
  refine heldTake 11 (v := ?_) (by simp only [List.getElem?_toArray, List.getElem?_cons_succ, List.getElem?_cons_zero]; rfl) (by kernel_rfl) (by intro _ _ _ h; exact h) (by rfl) (by assumption) ?_ ?_
  rotate_left
  · intro W hSw; (try dsimp only at hSw); go_simp; try with_reducible rfl
  simp only [Act.put, List.setIfInBounds_toArray, List.set_cons_zero, List.set_cons_succ]
  refine heldTake 12 (v := ?_) (by simp only [List.getElem?_toArray, List.getElem?_cons_succ, List.getElem?_cons_zero]; rfl) (by kernel_rfl) (by intro _ _ _ h; exact h) (by rfl) (by assumption) ?_ ?_
  rotate_left
  · intro W hSw; (try dsimp only at hSw); go_simp; try with_reducible rfl
  simp only [Act.put, List.setIfInBounds_toArray, List.set_cons_zero, List.set_cons_succ]
  refine heldTake 13 (v := ?_) (by simp only [List.getElem?_toArray, List.getElem?_cons_succ, List.getElem?_cons_zero]; rfl) (by kernel_rfl) (by intro _ _ _ h; exact h) (by rfl) (by assumption) ?_ ?_
  rotate_left
  · intro W hSw; (try dsimp only at hSw); go_simp; try with_reducible rfl
  simp only [Act.put, List.setIfInBounds_toArray, List.set_cons_zero, List.set_cons_succ]
  refine heldTake 14 (v := ?_) (by simp only [List.getElem?_toArray, List.getElem?_cons_succ, List.getElem?_cons_zero]; rfl) (by kernel_rfl) (by intro _ _ _ h; exact h) (by rfl) (by assumption) ?_ ?_
  rotate_left
  · intro W hSw; (try dsimp only at hSw); go_simp; try with_reducible rfl
  simp only [Act.put, List.setIfInBounds_toArray, List.set_cons_zero, List.set_cons_succ]
  refine heldFork3 7 16 17 (by kernel_rfl) ?_ ?_ ?_
  · refine heldOp 7 (by simp only [List.getElem?_toArray, List.getElem?_cons_succ, List.getElem?_cons_zero]; rfl) (fun K hK => ?_)
    go_simp
    refine (Q1.out _).mono ?_
    rintro e w1 ⟨rfl, hb1⟩
    have hS0 := hSt.call hb1
    clear hSt hb1
    have hSt := hS0
    clear hS0
    go_wp2_with fail
    refine hK.out _ _ ?_ (fun hHeld => ?_)
    · exact HA.out.below hSt.below hz
    clear hK K
    (try simp only [Act.put, List.setIfInBounds_toArray, List.set_cons_zero, List.set_cons_succ])
    refine heldFork3 15 16 17 (by kernel_rfl) ?_ ?_ ?_
    · refine heldOp 15 (by simp only [List.getElem?_toArray, List.getElem?_cons_succ, List.getElem?_cons_zero]; rfl) (fun K hK => ?_)
      go_simp
      refine (Q2.out _).mono ?_
      rintro e w2 ⟨rfl, hb2⟩
      have hS0 := hSt.call hb2
      clear hSt hb2
      have hSt := hS0
      clear hS0
      go_wp2_with fail
      refine hK.out _ _ ?_ (fun hHeld => ?_)
      · exact HA.out.below hSt.below hz
      clear hK K
      (try simp only [Act.put, List.setIfInBounds_toArray, List.set_cons_zero, List.set_cons_succ])
      refine heldFork 16 17 (by kernel_rfl) ?_ ?_
      · refine heldOp 16 (by simp only [List.getElem?_toArray, List.getElem?_cons_succ, List.getElem?_cons_zero]; rfl) (fun K hK => ?_)
        (try generalize W0.drew = Wd at hSt ⊢)
        go_simp
        have hS0 := hSt.alloc5
        clear hSt
        have hSt := hS0
        clear hS0
        generalize (World.alloc _ _) = Wa at hSt ⊢
        refine hK.out _ _ ?_ (fun hHeld => ?_)
        · exact HA.out.below hSt.below hz
        clear hK K
        (try simp only [Act.put, List.setIfInBounds_toArray, List.set_cons_zero, List.set_cons_succ])
        refine heldCall 17 (by simp only [List.getElem?_toArray, List.getElem?_cons_succ, List.getElem?_cons_zero]; rfl) (by kernel_rfl) (fun K hK => ?_)
        (try generalize W0.drew = Wd at hSt ⊢)
        go_simp
        have hS0 := hSt.alloc6
        clear hSt
        have hSt := hS0
        clear hS0
        generalize (World.alloc _ _) = Wb at hSt ⊢
        refine hK.out _ _ ?_ (fun hHeld => ?_)
        · exact HA.out.below hSt.below hz
        clear hK K
        (try simp only [Act.put, List.setIfInBounds_toArray, List.set_cons_zero, List.set_cons_succ])
        refine heldCall 18 (by simp only [List.getElem?_toArray, List.getElem?_cons_succ, List.getElem?_cons_zero]; rfl) (by kernel_rfl) (fun K hK => ?_)
        obtain ⟨g0, g1, g2, g3⟩ := wide_cells (hSt.b5 _ rfl).2
        go_simp
        have hS0 := hSt.set5 X
        clear hSt g0 g1 g2 g3
        have hSt := hS0
        clear hS0
        refine hK.out _ _ ?_ (fun hHeld => ?_)
        · exact HA.out.below hSt.below hz
        clear hK K
        (try simp only [Act.put, List.setIfInBounds_toArray, List.set_cons_zero, List.set_cons_succ])
        refine heldLast 19 (by simp only [List.getElem?_toArray, List.getElem?_cons_succ, List.getElem?_cons_zero]; rfl) (by kernel_rfl) rfl (fun K hK => ?_)
        obtain ⟨g0, g1, g2, g3⟩ := wide_cells (hSt.b6 _ rfl).2
        go_simp
        have hS0 := hSt.set6 Y
        clear hSt g0 g1 g2 g3
        have hSt := hS0
        clear hS0
        generalize (World.setCell (World.setCell _ _ _) _ _) = W9 at hSt ⊢
        refine hK.out _ _ ?_
        clear hK K
        (try simp only [Act.put, List.setIfInBounds_toArray, List.set_cons_zero, List.set_cons_succ])
        refine heldDone (by kernel_rfl) ?_ _
        obtain ⟨g0, g1, g2, g3⟩ := wide_cells (hSt.b5 _ rfl).2
        obtain ⟨k0, k1, k2, k3⟩ := wide_cells (hSt.b6 _ rfl).2
        obtain ⟨m0, m1, m2, m3, m4, m5⟩ := HA.out.below hSt.below hz
        have HBE : Hid (Below w.heap.size w W9) := Lib.hid (HB0.out.trans (hSt.below.mono HB0.out.size))
        clear hSt hHeld Q1 Q2 g2 g3 k2 k3
        by_cases hxy : X = Y
        · have hn := HNE.out hxy
          have HXY := Lib.hid hxy
          clear hxy HNE HNN
          by_cases hnn : a.new = b.new
          · have h2 : (a.new == b.new) = true := by simpa using hnn
            have HNQ := Lib.hid hnn
            clear hnn
            go_wp2
            go_ret
            exact ⟨ret_bool (by rw [HR.out, if_pos HXY.out, if_pos HNQ.out]; rfl), HBE.out⟩
          · have h2 : (a.new == b.new) = false := by simpa using hnn
            have HNQ := Lib.hid hnn
            clear hnn
            go_wp2
            go_ret
            exact ⟨ret_bool (by rw [HR.out, if_pos HXY.out, if_neg HNQ.out]), HBE.out⟩
        · have hn := HNN.out hxy
          have HXY := Lib.hid hxy
          clear hxy HNE HNN
          go_wp2_with fail
          refine (HL.out _).mono ?_
          rintro e w9 ⟨rfl, hb9⟩
          go_wp2
          go_ret
          exact ⟨ret_bool (by rw [HR.out, if_neg HXY.out]), HBE.out.trans (hb9.mono HBE.out.size)⟩
      · refine heldOp 17 (by simp only [List.getElem?_toArray, List.getElem?_cons_succ, List.getElem?_cons_zero]; rfl) (fun K hK => ?_)
        (try generalize W0.drew = Wd at hSt ⊢)
        go_simp
        have hS0 := hSt.alloc6
        clear hSt
        have hSt := hS0
        clear hS0
        generalize (World.alloc _ _) = Wb at hSt ⊢
        refine hK.out _ _ ?_ (fun hHeld => ?_)
        · exact HA.out.below hSt.below hz
        clear hK K
        (try simp only [Act.put, List.setIfInBounds_toArray, List.set_cons_zero, List.set_cons_succ])
        refine heldCall 16 (by simp only [List.getElem?_toArray, List.getElem?_cons_succ, List.getElem?_cons_zero]; rfl) (by kernel_rfl) (fun K hK => ?_)
        (try generalize W0.drew = Wd at hSt ⊢)
        go_simp
        have hS0 := hSt.alloc5
        clear hSt
        have hSt := hS0
        clear hS0
        generalize (World.alloc _ _) = Wa at hSt ⊢
        refine hK.out _ _ ?_ (fun hHeld => ?_)
        · exact HA.out.below hSt.below hz
        clear hK K
        (try simp only [Act.put, List.setIfInBounds_toArray, List.set_cons_zero, List.set_cons_succ])
        refine heldCall 18 (by simp only [List.getElem?_toArray, List.getElem?_cons_succ, List.getElem?_cons_zero]; rfl) (by kernel_rfl) (fun K hK => ?_)
        obtain ⟨g0, g1, g2, g3⟩ := wide_cells (hSt.b5 _ rfl).2
        go_simp
        have hS0 := hSt.set5 X
        clear hSt g0 g1 g2 g3
        have hSt := hS0
        clear hS0
        refine hK.out _ _ ?_ (fun hHeld => ?_)
        · exact HA.out.below hSt.below hz
        clear hK K
        (try simp only [Act.put, List.setIfInBounds_toArray, List.set_cons_zero, List.set_cons_succ])
        refine heldLast 19 (by simp only [List.getElem?_toArray, List.getElem?_cons_succ, List.getElem?_cons_zero]; rfl) (by kernel_rfl) rfl (fun K hK => ?_)
        obtain ⟨g0, g1, g2, g3⟩ := wide_cells (hSt.b6 _ rfl).2
        go_simp
        have hS0 := hSt.set6 Y
        clear hSt g0 g1 g2 g3
        have hSt := hS0
        clear hS0
        generalize (World.setCell (World.setCell _ _ _) _ _) = W9 at hSt ⊢
        refine hK.out _ _ ?_
        clear hK K
        (try simp only [Act.put, List.setIfInBounds_toArray, List.set_cons_zero, List.set_cons_succ])
        refine heldDone (by kernel_rfl) ?_ _
        obtain ⟨g0, g1, g2, g3⟩ := wide_cells (hSt.b5 _ rfl).2
        obtain ⟨k0, k1, k2, k3⟩ := wide_cells (hSt.b6 _ rfl).2
        obtain ⟨m0, m1, m2, m3, m4, m5⟩ := HA.out.below hSt.below hz
        have HBE : Hid (Below w.heap.size w W9) := Lib.hid (HB0.out.trans (hSt.below.mono HB0.out.size))
        clear hSt hHeld Q1 Q2 g2 g3 k2 k3
        by_cases hxy : X = Y
        · have hn := HNE.out hxy
          have HXY := Lib.hid hxy
          clear hxy HNE HNN
          by_cases hnn : a.new = b.new
          · have h2 : (a.new == b.new) = true := by simpa using hnn
            have HNQ := Lib.hid hnn
            clear hnn
            go_wp2
            go_ret
            exact ⟨ret_bool (by rw [HR.out, if_pos HXY.out, if_pos HNQ.out]; rfl), HBE.out⟩
          · have h2 : (a.new == b.new) = false := by simpa using hnn
            have HNQ := Lib.hid hnn
            clear hnn
            go_wp2
            go_ret
            exact ⟨ret_bool (by rw [HR.out, if_pos HXY.out, if_neg HNQ.out]), HBE.out⟩
        · have hn := HNN.out hxy
          have HXY := Lib.hid hxy
          clear hxy HNE HNN
          go_wp2_with fail
          refine (HL.out _).mono ?_
          rintro e w9 ⟨rfl, hb9⟩
          go_wp2
          go_ret
          exact ⟨ret_bool (by rw [HR.out, if_neg HXY.out]), HBE.out.trans (hb9.mono HBE.out.size)⟩
    · refine heldOp 16 (by simp only [List.getElem?_toArray, List.getElem?_cons_succ, List.getElem?_cons_zero]; rfl) (fun K hK => ?_)
      (try generalize W0.drew = Wd at hSt ⊢)
      go_simp
      have hS0 := hSt.alloc5
      clear hSt
      have hSt := hS0
      clear hS0
      generalize (World.alloc _ _) = Wa at hSt ⊢
      refine hK.out _ _ ?_ (fun hHeld => ?_)
      · exact HA.out.below hSt.below hz
      clear hK K
      (try simp only [Act.put, List.setIfInBounds_toArray, List.set_cons_zero, List.set_cons_succ])
      refine heldFork 15 17 (by kernel_rfl) ?_ ?_
      · refine heldOp 15 (by simp only [List.getElem?_toArray, List.getElem?_cons_succ, List.getElem?_cons_zero]; rfl) (fun K hK => ?_)
        go_simp
        refine (Q2.out _).mono ?_
        rintro e w2 ⟨rfl, hb2⟩
        have hS0 := hSt.call hb2
        clear hSt hb2
        have hSt := hS0
        clear hS0
        go_wp2_with fail
        refine hK.out _ _ ?_ (fun hHeld => ?_)
        · exact HA.out.below hSt.below hz
        clear hK K
        (try simp only [Act.put, List.setIfInBounds_toArray, List.set_cons_zero, List.set_cons_succ])
        refine heldCall 17 (by simp only [List.getElem?_toArray, List.getElem?_cons_succ, List.getElem?_cons_zero]; rfl) (by kernel_rfl) (fun K hK => ?_)
        (try generalize W0.drew = Wd at hSt ⊢)
        go_simp
        have hS0 := hSt.alloc6
        clear hSt
        have hSt := hS0
        clear hS0
        generalize (World.alloc _ _) = Wb at hSt ⊢
        refine hK.out _ _ ?_ (fun hHeld => ?_)
        · exact HA.out.below hSt.below hz
        clear hK K
        (try simp only [Act.put, List.setIfInBounds_toArray, List.set_cons_zero, List.set_cons_succ])
        refine heldCall 18 (by simp only [List.getElem?_toArray, List.getElem?_cons_succ, List.getElem?_cons_zero]; rfl) (by kernel_rfl) (fun K hK => ?_)
        obtain ⟨g0, g1, g2, g3⟩ := wide_cells (hSt.b5 _ rfl).2
        go_simp
        have hS0 := hSt.set5 X
        clear hSt g0 g1 g2 g3
        have hSt := hS0
        clear hS0
        refine hK.out _ _ ?_ (fun hHeld => ?_)
        · exact HA.out.below hSt.below hz
        clear hK K
        (try simp only [Act.put, List.setIfInBounds_toArray, List.set_cons_zero, List.set_cons_succ])
        refine heldLast 19 (by simp only [List.getElem?_toArray, List.getElem?_cons_succ, List.getElem?_cons_zero]; rfl) (by kernel_rfl) rfl (fun K hK => ?_)
        obtain ⟨g0, g1, g2, g3⟩ := wide_cells (hSt.b6 _ rfl).2
        go_simp
        have hS0 := hSt.set6 Y
        clear hSt g0 g1 g2 g3
        have hSt := hS0
        clear hS0
        generalize (World.setCell (World.setCell _ _ _) _ _) = W9 at hSt ⊢
        refine hK.out _ _ ?_
        clear hK K
        (try simp only [Act.put, List.setIfInBounds_toArray, List.set_cons_zero, List.set_cons_succ])
        refine heldDone (by kernel_rfl) ?_ _
        obtain ⟨g0, g1, g2, g3⟩ := wide_cells (hSt.b5 _ rfl).2
        obtain ⟨k0, k1, k2, k3⟩ := wide_cells (hSt.b6 _ rfl).2
        obtain ⟨m0, m1, m2, m3, m4, m5⟩ := HA.out.below hSt.below hz
        have HBE : Hid (Below w.heap.size w W9) := Lib.hid (HB0.out.trans (hSt.below.mono HB0.out.size))
        clear hSt hHeld Q1 Q2 g2 g3 k2 k3
        by_cases hxy : X = Y
        · have hn := HNE.out hxy
          have HXY := Lib.hid hxy
          clear hxy HNE HNN
          by_cases hnn : a.new = b.new
          · have h2 : (a.new == b.new) = true := by simpa using hnn
            have HNQ := Lib.hid hnn
            clear hnn
            go_wp2
            go_ret
            exact ⟨ret_bool (by rw [HR.out, if_pos HXY.out, if_pos HNQ.out]; rfl), HBE.out⟩
          · have h2 : (a.new == b.new) = false := by simpa using hnn
            have HNQ := Lib.hid hnn
            clear hnn
            go_wp2
            go_ret
            exact ⟨ret_bool (by rw [HR.out, if_pos HXY.out, if_neg HNQ.out]), HBE.out⟩
        · have hn := HNN.out hxy
          have HXY := Lib.hid hxy
          clear hxy HNE HNN
          go_wp2_with fail
          refine (HL.out _).mono ?_
          rintro e w9 ⟨rfl, hb9⟩
          go_wp2
          go_ret
          exact ⟨ret_bool (by rw [HR.out, if_neg HXY.out]), HBE.out.trans (hb9.mono HBE.out.size)⟩
      · refine heldOp 17 (by simp only [List.getElem?_toArray, List.getElem?_cons_succ, List.getElem?_cons_zero]; rfl) (fun K hK => ?_)
        (try generalize W0.drew = Wd at hSt ⊢)
        go_simp
        have hS0 := hSt.alloc6
        clear hSt
        have hSt := hS0
        clear hS0
        generalize (World.alloc _ _) = Wb at hSt ⊢
        refine hK.out _ _ ?_ (fun hHeld => ?_)
        · exact HA.out.below hSt.below hz
        clear hK K
        (try simp only [Act.put, List.setIfInBounds_toArray, List.set_cons_zero, List.set_cons_succ])
        refine heldCall 15 (by simp only [List.getElem?_toArray, List.getElem?_cons_succ, List.getElem?_cons_zero]; rfl) (by kernel_rfl) (fun K hK => ?_)
        go_simp
        refine (Q2.out _).mono ?_
        rintro e w2 ⟨rfl, hb2⟩
        have hS0 := hSt.call hb2
        clear hSt hb2
        have hSt := hS0
        clear hS0
        go_wp2_with fail
        refine hK.out _ _ ?_ (fun hHeld => ?_)
        · exact HA.out.below hSt.below hz
        clear hK K
        (try simp only [Act.put, List.setIfInBounds_toArray, List.set_cons_zero, List.set_cons_succ])
        refine heldCall 18 (by simp only [List.getElem?_toArray, List.getElem?_cons_succ, List.getElem?_cons_zero]; rfl) (by kernel_rfl) (fun K hK => ?_)
        obtain ⟨g0, g1, g2, g3⟩ := wide_cells (hSt.b5 _ rfl).2
        go_simp
        have hS0 := hSt.set5 X
        clear hSt g0 g1 g2 g3
        have hSt := hS0
        clear hS0
        refine hK.out _ _ ?_ (fun hHeld => ?_)
        · exact HA.out.below hSt.below hz
        clear hK K
        (try simp only [Act.put, List.setIfInBounds_toArray, List.set_cons_zero, List.set_cons_succ])
        refine heldLast 19 (by simp only [List.getElem?_toArray, List.getElem?_cons_succ, List.getElem?_cons_zero]; rfl) (by kernel_rfl) rfl (fun K hK => ?_)
        obtain ⟨g0, g1, g2, g3⟩ := wide_cells (hSt.b6 _ rfl).2
        go_simp
        have hS0 := hSt.set6 Y
        clear hSt g0 g1 g2 g3
        have hSt := hS0
        clear hS0
        generalize (World.setCell (World.setCell _ _ _) _ _) = W9 at hSt ⊢
        refine hK.out _ _ ?_
        clear hK K
        (try simp only [Act.put, List.setIfInBounds_toArray, List.set_cons_zero, List.set_cons_succ])
        refine heldDone (by kernel_rfl) ?_ _
        obtain ⟨g0, g1, g2, g3⟩ := wide_cells (hSt.b5 _ rfl).2
        obtain ⟨k0, k1, k2, k3⟩ := wide_cells (hSt.b6 _ rfl).2
        obtain ⟨m0, m1, m2, m3, m4, m5⟩ := HA.out.below hSt.below hz
        have HBE : Hid (Below w.heap.size w W9) := Lib.hid (HB0.out.trans (hSt.below.mono HB0.out.size))
        clear hSt hHeld Q1 Q2 g2 g3 k2 k3
        by_cases hxy : X = Y
        · have hn := HNE.out hxy
          have HXY := Lib.hid hxy
          clear hxy HNE HNN
          by_cases hnn : a.new = b.new
          · have h2 : (a.new == b.new) = true := by simpa using hnn
            have HNQ := Lib.hid hnn
            clear hnn
            go_wp2
            go_ret
            exact ⟨ret_bool (by rw [HR.out, if_pos HXY.out, if_pos HNQ.out]; rfl), HBE.out⟩
          · have h2 : (a.new == b.new) = false := by simpa using hnn
            have HNQ := Lib.hid hnn
            clear hnn
            go_wp2
            go_ret
            exact ⟨ret_bool (by rw [HR.out, if_pos HXY.out, if_neg HNQ.out]), HBE.out⟩
        · have hn := HNN.out hxy
          have HXY := Lib.hid hxy
          clear hxy HNE HNN
          go_wp2_with fail
          refine (HL.out _).mono ?_
          rintro e w9 ⟨rfl, hb9⟩
          go_wp2
          go_ret
          exact ⟨ret_bool (by rw [HR.out, if_neg HXY.out]), HBE.out.trans (hb9.mono HBE.out.size)⟩
    · refine heldOp 17 (by simp only [List.getElem?_toArray, List.getElem?_cons_succ, List.getElem?_cons_zero]; rfl) (fun K hK => ?_)
      (try generalize W0.drew = Wd at hSt ⊢)
      go_simp
      have hS0 := hSt.alloc6
      clear hSt
      have hSt := hS0
      clear hS0
      generalize (World.alloc _ _) = Wb at hSt ⊢
      refine hK.out _ _ ?_ (fun hHeld => ?_)
      · exact HA.out.below hSt.below hz
      clear hK K
      (try simp only [Act.put, List.setIfInBounds_toArray, List.set_cons_zero, List.set_cons_succ])
      refine heldFork 15 16 (by kernel_rfl) ?_ ?_
      · refine heldOp 15 (by simp only [List.getElem?_toArray, List.getElem?_cons_succ, List.getElem?_cons_zero]; rfl) (fun K hK => ?_)
        go_simp
        refine (Q2.out _).mono ?_
        rintro e w2 ⟨rfl, hb2⟩
        have hS0 := hSt.call hb2
        clear hSt hb2
        have hSt := hS0
        clear hS0
        go_wp2_with fail
        refine hK.out _ _ ?_ (fun hHeld => ?_)
        · exact HA.out.below hSt.below hz
        clear hK K
        (try simp only [Act.put, List.setIfInBounds_toArray, List.set_cons_zero, List.set_cons_succ])
        refine heldCall 16 (by simp only [List.getElem?_toArray, List.getElem?_cons_succ, List.getElem?_cons_zero]; rfl) (by kernel_rfl) (fun K hK => ?_)
        (try generalize W0.drew = Wd at hSt ⊢)
        go_simp
        have hS0 := hSt.alloc5
        clear hSt
        have hSt := hS0
        clear hS0
        generalize (World.alloc _ _) = Wa at hSt ⊢
        refine hK.out _ _ ?_ (fun hHeld => ?_)
        · exact HA.out.below hSt.below hz
        clear hK K
        (try simp only [Act.put, List.setIfInBounds_toArray, List.set_cons_zero, List.set_cons_succ])
        refine heldCall 18 (by simp only [List.getElem?_toArray, List.getElem?_cons_succ, List.getElem?_cons_zero]; rfl) (by kernel_rfl) (fun K hK => ?_)
        obtain ⟨g0, g1, g2, g3⟩ := wide_cells (hSt.b5 _ rfl).2
        go_simp
        have hS0 := hSt.set5 X
        clear hSt g0 g1 g2 g3
        have hSt := hS0
        clear hS0
        refine hK.out _ _ ?_ (fun hHeld => ?_)
        · exact HA.out.below hSt.below hz
        clear hK K
        (try simp only [Act.put, List.setIfInBounds_toArray, List.set_cons_zero, List.set_cons_succ])
        refine heldLast 19 (by simp only [List.getElem?_toArray, List.getElem?_cons_succ, List.getElem?_cons_zero]; rfl) (by kernel_rfl) rfl (fun K hK => ?_)
        obtain ⟨g0, g1, g2, g3⟩ := wide_cells (hSt.b6 _ rfl).2
        go_simp
        have hS0 := hSt.set6 Y
        clear hSt g0 g1 g2 g3
        have hSt := hS0
        clear hS0
        generalize (World.setCell (World.setCell _ _ _) _ _) = W9 at hSt ⊢
        refine hK.out _ _ ?_
        clear hK K
        (try simp only [Act.put, List.setIfInBounds_toArray, List.set_cons_zero, List.set_cons_succ])
        refine heldDone (by kernel_rfl) ?_ _
        obtain ⟨g0, g1, g2, g3⟩ := wide_cells (hSt.b5 _ rfl).2
        obtain ⟨k0, k1, k2, k3⟩ := wide_cells (hSt.b6 _ rfl).2
        obtain ⟨m0, m1, m2, m3, m4, m5⟩ := HA.out.below hSt.below hz
        have HBE : Hid (Below w.heap.size w W9) := Lib.hid (HB0.out.trans (hSt.below.mono HB0.out.size))
        clear hSt hHeld Q1 Q2 g2 g3 k2 k3
        by_cases hxy : X = Y
        · have hn := HNE.out hxy
          have HXY := Lib.hid hxy
          clear hxy HNE HNN
          by_cases hnn : a.new = b.new
          · have h2 : (a.new == b.new) = true := by simpa using hnn
            have HNQ := Lib.hid hnn
            clear hnn
            go_wp2
            go_ret
            exact ⟨ret_bool (by rw [HR.out, if_pos HXY.out, if_pos HNQ.out]; rfl), HBE.out⟩
          · have h2 : (a.new == b.new) = false := by simpa using hnn
            have HNQ := Lib.hid hnn
            clear hnn
            go_wp2
            go_ret
            exact ⟨ret_bool (by rw [HR.out, if_pos HXY.out, if_neg HNQ.out]), HBE.out⟩
        · have hn := HNN.out hxy
          have HXY := Lib.hid hxy
          clear hxy HNE HNN
          go_wp2_with fail
          refine (HL.out _).mono ?_
          rintro e w9 ⟨rfl, hb9⟩
          go_wp2
          go_ret
          exact ⟨ret_bool (by rw [HR.out, if_neg HXY.out]), HBE.out.trans (hb9.mono HBE.out.size)⟩
      · refine heldOp 16 (by simp only [List.getElem?_toArray, List.getElem?_cons_succ, List.getElem?_cons_zero]; rfl) (fun K hK => ?_)
        (try generalize W0.drew = Wd at hSt ⊢)
        go_simp
        have hS0 := hSt.alloc5
        clear hSt
        have hSt := hS0
        clear hS0
        generalize (World.alloc _ _) = Wa at hSt ⊢
        refine hK.out _ _ ?_ (fun hHeld => ?_)
        · exact HA.out.below hSt.below hz
        clear hK K
        (try simp only [Act.put, List.setIfInBounds_toArray, List.set_cons_zero, List.set_cons_succ])
        refine heldCall 15 (by simp only [List.getElem?_toArray, List.getElem?_cons_succ, List.getElem?_cons_zero]; rfl) (by kernel_rfl) (fun K hK => ?_)
        go_simp
        refine (Q2.out _).mono ?_
        rintro e w2 ⟨rfl, hb2⟩
        have hS0 := hSt.call hb2
        clear hSt hb2
        have hSt := hS0
        clear hS0
        go_wp2_with fail
        refine hK.out _ _ ?_ (fun hHeld => ?_)
        · exact HA.out.below hSt.below hz
        clear hK K
        (try simp only [Act.put, List.setIfInBounds_toArray, List.set_cons_zero, List.set_cons_succ])
        refine heldCall 18 (by simp only [List.getElem?_toArray, List.getElem?_cons_succ, List.getElem?_cons_zero]; rfl) (by kernel_rfl) (fun K hK => ?_)
        obtain ⟨g0, g1, g2, g3⟩ := wide_cells (hSt.b5 _ rfl).2
        go_simp
        have hS0 := hSt.set5 X
        clear hSt g0 g1 g2 g3
        have hSt := hS0
        clear hS0
        refine hK.out _ _ ?_ (fun hHeld => ?_)
        · exact HA.out.below hSt.below hz
        clear hK K
        (try simp only [Act.put, List.setIfInBounds_toArray, List.set_cons_zero, List.set_cons_succ])
        refine heldLast 19 (by simp only [List.getElem?_toArray, List.getElem?_cons_succ, List.getElem?_cons_zero]; rfl) (by kernel_rfl) rfl (fun K hK => ?_)
        obtain ⟨g0, g1, g2, g3⟩ := wide_cells (hSt.b6 _ rfl).2
        go_simp
        have hS0 := hSt.set6 Y
        clear hSt g0 g1 g2 g3
        have hSt := hS0
        clear hS0
        generalize (World.setCell (World.setCell _ _ _) _ _) = W9 at hSt ⊢
        refine hK.out _ _ ?_
        clear hK K
        (try simp only [Act.put, List.setIfInBounds_toArray, List.set_cons_zero, List.set_cons_succ])
        refine heldDone (by kernel_rfl) ?_ _
        obtain ⟨g0, g1, g2, g3⟩ := wide_cells (hSt.b5 _ rfl).2
        obtain ⟨k0, k1, k2, k3⟩ := wide_cells (hSt.b6 _ rfl).2
        obtain ⟨m0, m1, m2, m3, m4, m5⟩ := HA.out.below hSt.below hz
        have HBE : Hid (Below w.heap.size w W9) := Lib.hid (HB0.out.trans (hSt.below.mono HB0.out.size))
        clear hSt hHeld Q1 Q2 g2 g3 k2 k3
        by_cases hxy : X = Y
        · have hn := HNE.out hxy
          have HXY := Lib.hid hxy
          clear hxy HNE HNN
          by_cases hnn : a.new = b.new
          · have h2 : (a.new == b.new) = true := by simpa using hnn
            have HNQ := Lib.hid hnn
            clear hnn
            go_wp2
            go_ret
            exact ⟨ret_bool (by rw [HR.out, if_pos HXY.out, if_pos HNQ.out]; rfl), HBE.out⟩
          · have h2 : (a.new == b.new) = false := by simpa using hnn
            have HNQ := Lib.hid hnn
            clear hnn
            go_wp2
            go_ret
            exact ⟨ret_bool (by rw [HR.out, if_pos HXY.out, if_neg HNQ.out]), HBE.out⟩
        · have hn := HNN.out hxy
          have HXY := Lib.hid hxy
          clear hxy HNE HNN
          go_wp2_with fail
          refine (HL.out _).mono ?_
          rintro e w9 ⟨rfl, hb9⟩
          go_wp2
          go_ret
          exact ⟨ret_bool (by rw [HR.out, if_neg HXY.out]), HBE.out.trans (hb9.mono HBE.out.size)⟩
  · refine heldOp 16 (by simp only [List.getElem?_toArray, List.getElem?_cons_succ, List.getElem?_cons_zero]; rfl) (fun K hK => ?_)
    (try generalize W0.drew = Wd at hSt ⊢)
    go_simp
    have hS0 := hSt.alloc5
    clear hSt
    have hSt := hS0
    clear hS0
    generalize (World.alloc _ _) = Wa at hSt ⊢
    refine hK.out _ _ ?_ (fun hHeld => ?_)
    · exact HA.out.below hSt.below hz
    clear hK K
    (try simp only [Act.put, List.setIfInBounds_toArray, List.set_cons_zero, List.set_cons_succ])
    refine heldFork 7 17 (by kernel_rfl) ?_ ?_
    · refine heldOp 7 (by simp only [List.getElem?_toArray, List.getElem?_cons_succ, List.getElem?_cons_zero]; rfl) (fun K hK => ?_)
      go_simp
      refine (Q1.out _).mono ?_
      rintro e w1 ⟨rfl, hb1⟩
      have hS0 := hSt.call hb1
      clear hSt hb1
      have hSt := hS0
      clear hS0
      go_wp2_with fail
      refine hK.out _ _ ?_ (fun hHeld => ?_)
      · exact HA.out.below hSt.below hz
      clear hK K
      (try simp only [Act.put, List.setIfInBounds_toArray, List.set_cons_zero, List.set_cons_succ])
      refine heldFork 15 17 (by kernel_rfl) ?_ ?_
      · refine heldOp 15 (by simp only [List.getElem?_toArray, List.getElem?_cons_succ, List.getElem?_cons_zero]; rfl) (fun K hK => ?_)
        go_simp
        refine (Q2.out _).mono ?_
        rintro e w2 ⟨rfl, hb2⟩
        have hS0 := hSt.call hb2
        clear hSt hb2
        have hSt := hS0
        clear hS0
        go_wp2_with fail
        refine hK.out _ _ ?_ (fun hHeld => ?_)
        · exact HA.out.below hSt.below hz
        clear hK K
        (try simp only [Act.put, List.setIfInBounds_toArray, List.set_cons_zero, List.set_cons_succ])
        refine heldCall 17 (by simp only [List.getElem?_toArray, List.getElem?_cons_succ, List.getElem?_cons_zero]; rfl) (by kernel_rfl) (fun K hK => ?_)
        (try generalize W0.drew = Wd at hSt ⊢)
        go_simp
        have hS0 := hSt.alloc6
        clear hSt
        have hSt := hS0
        clear hS0
        generalize (World.alloc _ _) = Wb at hSt ⊢
        refine hK.out _ _ ?_ (fun hHeld => ?_)
        · exact HA.out.below hSt.below hz
        clear hK K
        (try simp only [Act.put, List.setIfInBounds_toArray, List.set_cons_zero, List.set_cons_succ])
        refine heldCall 18 (by simp only [List.getElem?_toArray, List.getElem?_cons_succ, List.getElem?_cons_zero]; rfl) (by kernel_rfl) (fun K hK => ?_)
        obtain ⟨g0, g1, g2, g3⟩ := wide_cells (hSt.b5 _ rfl).2
        go_simp
        have hS0 := hSt.set5 X
        clear hSt g0 g1 g2 g3
        have hSt := hS0
        clear hS0
        refine hK.out _ _ ?_ (fun hHeld => ?_)
        · exact HA.out.below hSt.below hz
        clear hK K
        (try simp only [Act.put, List.setIfInBounds_toArray, List.set_cons_zero, List.set_cons_succ])
        refine heldLast 19 (by simp only [List.getElem?_toArray, List.getElem?_cons_succ, List.getElem?_cons_zero]; rfl) (by kernel_rfl) rfl (fun K hK => ?_)
        obtain ⟨g0, g1, g2, g3⟩ := wide_cells (hSt.b6 _ rfl).2
        go_simp
        have hS0 := hSt.set6 Y
        clear hSt g0 g1 g2 g3
        have hSt := hS0
        clear hS0
        generalize (World.setCell (World.setCell _ _ _) _ _) = W9 at hSt ⊢
        refine hK.out _ _ ?_
        clear hK K
        (try simp only [Act.put, List.setIfInBounds_toArray, List.set_cons_zero, List.set_cons_succ])
        refine heldDone (by kernel_rfl) ?_ _
        obtain ⟨g0, g1, g2, g3⟩ := wide_cells (hSt.b5 _ rfl).2
        obtain ⟨k0, k1, k2, k3⟩ := wide_cells (hSt.b6 _ rfl).2
        obtain ⟨m0, m1, m2, m3, m4, m5⟩ := HA.out.below hSt.below hz
        have HBE : Hid (Below w.heap.size w W9) := Lib.hid (HB0.out.trans (hSt.below.mono HB0.out.size))
        clear hSt hHeld Q1 Q2 g2 g3 k2 k3
        by_cases hxy : X = Y
        · have hn := HNE.out hxy
          have HXY := Lib.hid hxy
          clear hxy HNE HNN
          by_cases hnn : a.new = b.new
          · have h2 : (a.new == b.new) = true := by simpa using hnn
            have HNQ := Lib.hid hnn
            clear hnn
            go_wp2
            go_ret
            exact ⟨ret_bool (by rw [HR.out, if_pos HXY.out, if_pos HNQ.out]; rfl), HBE.out⟩
          · have h2 : (a.new == b.new) = false := by simpa using hnn
            have HNQ := Lib.hid hnn
            clear hnn
            go_wp2
            go_ret
            exact ⟨ret_bool (by rw [HR.out, if_pos HXY.out, if_neg HNQ.out]), HBE.out⟩
        · have hn := HNN.out hxy
          have HXY := Lib.hid hxy
          clear hxy HNE HNN
          go_wp2_with fail
          refine (HL.out _).mono ?_
          rintro e w9 ⟨rfl, hb9⟩
          go_wp2
          go_ret
          exact ⟨ret_bool (by rw [HR.out, if_neg HXY.out]), HBE.out.trans (hb9.mono HBE.out.size)⟩
      · refine heldOp 17 (by simp only [List.getElem?_toArray, List.getElem?_cons_succ, List.getElem?_cons_zero]; rfl) (fun K hK => ?_)
        (try generalize W0.drew = Wd at hSt ⊢)
        go_simp
        have hS0 := hSt.alloc6
        clear hSt
        have hSt := hS0
        clear hS0
        generalize (World.alloc _ _) = Wb at hSt ⊢
        refine hK.out _ _ ?_ (fun hHeld => ?_)
        · exact HA.out.below hSt.below hz
        clear hK K
        (try simp only [Act.put, List.setIfInBounds_toArray, List.set_cons_zero, List.set_cons_succ])
        refine heldCall 15 (by simp only [List.getElem?_toArray, List.getElem?_cons_succ, List.getElem?_cons_zero]; rfl) (by kernel_rfl) (fun K hK => ?_)
        go_simp
        refine (Q2.out _).mono ?_
        rintro e w2 ⟨rfl, hb2⟩
        have hS0 := hSt.call hb2
        clear hSt hb2
        have hSt := hS0
        clear hS0
        go_wp2_with fail
        refine hK.out _ _ ?_ (fun hHeld => ?_)
        · exact HA.out.below hSt.below hz
        clear hK K
        (try simp only [Act.put, List.setIfInBounds_toArray, List.set_cons_zero, List.set_cons_succ])
        refine heldCall 18 (by simp only [List.getElem?_toArray, List.getElem?_cons_succ, List.getElem?_cons_zero]; rfl) (by kernel_rfl) (fun K hK => ?_)
        obtain ⟨g0, g1, g2, g3⟩ := wide_cells (hSt.b5 _ rfl).2
        go_simp
        have hS0 := hSt.set5 X
        clear hSt g0 g1 g2 g3
        have hSt := hS0
        clear hS0
        refine hK.out _ _ ?_ (fun hHeld => ?_)
        · exact HA.out.below hSt.below hz
        clear hK K
        (try simp only [Act.put, List.setIfInBounds_toArray, List.set_cons_zero, List.set_cons_succ])
        refine heldLast 19 (by simp only [List.getElem?_toArray, List.getElem?_cons_succ, List.getElem?_cons_zero]; rfl) (by kernel_rfl) rfl (fun K hK => ?_)
        obtain ⟨g0, g1, g2, g3⟩ := wide_cells (hSt.b6 _ rfl).2
        go_simp
        have hS0 := hSt.set6 Y
        clear hSt g0 g1 g2 g3
        have hSt := hS0
        clear hS0
        generalize (World.setCell (World.setCell _ _ _) _ _) = W9 at hSt ⊢
        refine hK.out _ _ ?_
        clear hK K
        (try simp only [Act.put, List.setIfInBounds_toArray, List.set_cons_zero, List.set_cons_succ])
        refine heldDone (by kernel_rfl) ?_ _
        obtain ⟨g0, g1, g2, g3⟩ := wide_cells (hSt.b5 _ rfl).2
        obtain ⟨k0, k1, k2, k3⟩ := wide_cells (hSt.b6 _ rfl).2
        obtain ⟨m0, m1, m2, m3, m4, m5⟩ := HA.out.below hSt.below hz
        have HBE : Hid (Below w.heap.size w W9) := Lib.hid (HB0.out.trans (hSt.below.mono HB0.out.size))
        clear hSt hHeld Q1 Q2 g2 g3 k2 k3
        by_cases hxy : X = Y
        · have hn := HNE.out hxy
          have HXY := Lib.hid hxy
          clear hxy HNE HNN
          by_cases hnn : a.new = b.new
          · have h2 : (a.new == b.new) = true := by simpa using hnn
            have HNQ := Lib.hid hnn
            clear hnn
            go_wp2
            go_ret
            exact ⟨ret_bool (by rw [HR.out, if_pos HXY.out, if_pos HNQ.out]; rfl), HBE.out⟩
          · have h2 : (a.new == b.new) = false := by simpa using hnn
            have HNQ := Lib.hid hnn
            clear hnn
            go_wp2
            go_ret
            exact ⟨ret_bool (by rw [HR.out, if_pos HXY.out, if_neg HNQ.out]), HBE.out⟩
        · have hn := HNN.out hxy
          have HXY := Lib.hid hxy
          clear hxy HNE HNN
          go_wp2_with fail
          refine (HL.out _).mono ?_
          rintro e w9 ⟨rfl, hb9⟩
          go_wp2
          go_ret
          exact ⟨ret_bool (by rw [HR.out, if_neg HXY.out]), HBE.out.trans (hb9.mono HBE.out.size)⟩
    · refine heldOp 17 (by simp only [List.getElem?_toArray, List.getElem?_cons_succ, List.getElem?_cons_zero]; rfl) (fun K hK => ?_)
      (try generalize W0.drew = Wd at hSt ⊢)
      go_simp
      have hS0 := hSt.alloc6
      clear hSt
      have hSt := hS0
      clear hS0
      generalize (World.alloc _ _) = Wb at hSt ⊢
      refine hK.out _ _ ?_ (fun hHeld => ?_)
      · exact HA.out.below hSt.below hz
      clear hK K
      (try simp only [Act.put, List.setIfInBounds_toArray, List.set_cons_zero, List.set_cons_succ])
      refine heldCall 7 (by simp only [List.getElem?_toArray, List.getElem?_cons_succ, List.getElem?_cons_zero]; rfl) (by kernel_rfl) (fun K hK => ?_)
      go_simp
      refine (Q1.out _).mono ?_
      rintro e w1 ⟨rfl, hb1⟩
      have hS0 := hSt.call hb1
      clear hSt hb1
      have hSt := hS0
      clear hS0
      go_wp2_with fail
      refine hK.out _ _ ?_ (fun hHeld => ?_)
      · exact HA.out.below hSt.below hz
      clear hK K
      (try simp only [Act.put, List.setIfInBounds_toArray, List.set_cons_zero, List.set_cons_succ])
      refine heldCall 15 (by simp only [List.getElem?_toArray, List.getElem?_cons_succ, List.getElem?_cons_zero]; rfl) (by kernel_rfl) (fun K hK => ?_)
      go_simp
      refine (Q2.out _).mono ?_
      rintro e w2 ⟨rfl, hb2⟩
      have hS0 := hSt.call hb2
      clear hSt hb2
      have hSt := hS0
      clear hS0
      go_wp2_with fail
      refine hK.out _ _ ?_ (fun hHeld => ?_)
      · exact HA.out.below hSt.below hz
      clear hK K
      (try simp only [Act.put, List.setIfInBounds_toArray, List.set_cons_zero, List.set_cons_succ])
      refine heldCall 18 (by simp only [List.getElem?_toArray, List.getElem?_cons_succ, List.getElem?_cons_zero]; rfl) (by kernel_rfl) (fun K hK => ?_)
      obtain ⟨g0, g1, g2, g3⟩ := wide_cells (hSt.b5 _ rfl).2
      go_simp
      have hS0 := hSt.set5 X
      clear hSt g0 g1 g2 g3
      have hSt := hS0
      clear hS0
      refine hK.out _ _ ?_ (fun hHeld => ?_)
      · exact HA.out.below hSt.below hz
      clear hK K
      (try simp only [Act.put, List.setIfInBounds_toArray, List.set_cons_zero, List.set_cons_succ])
      refine heldLast 19 (by simp only [List.getElem?_toArray, List.getElem?_cons_succ, List.getElem?_cons_zero]; rfl) (by kernel_rfl) rfl (fun K hK => ?_)
      obtain ⟨g0, g1, g2, g3⟩ := wide_cells (hSt.b6 _ rfl).2
      go_simp
      have hS0 := hSt.set6 Y
      clear hSt g0 g1 g2 g3
      have hSt := hS0
      clear hS0
      generalize (World.setCell (World.setCell _ _ _) _ _) = W9 at hSt ⊢
      refine hK.out _ _ ?_
      clear hK K
      (try simp only [Act.put, List.setIfInBounds_toArray, List.set_cons_zero, List.set_cons_succ])
      refine heldDone (by kernel_rfl) ?_ _
      obtain ⟨g0, g1, g2, g3⟩ := wide_cells (hSt.b5 _ rfl).2
      obtain ⟨k0, k1, k2, k3⟩ := wide_cells (hSt.b6 _ rfl).2
      obtain ⟨m0, m1, m2, m3, m4, m5⟩ := HA.out.below hSt.below hz
      have HBE : Hid (Below w.heap.size w W9) := Lib.hid (HB0.out.trans (hSt.below.mono HB0.out.size))
      clear hSt hHeld Q1 Q2 g2 g3 k2 k3
      by_cases hxy : X = Y
      · have hn := HNE.out hxy
        have HXY := Lib.hid hxy
        clear hxy HNE HNN
        by_cases hnn : a.new = b.new
        · have h2 : (a.new == b.new) = true := by simpa using hnn
          have HNQ := Lib.hid hnn
          clear hnn
          go_wp2
          go_ret
          exact ⟨ret_bool (by rw [HR.out, if_pos HXY.out, if_pos HNQ.out]; rfl), HBE.out⟩
        · have h2 : (a.new == b.new) = false := by simpa using hnn
          have HNQ := Lib.hid hnn
          clear hnn
          go_wp2
          go_ret
          exact ⟨ret_bool (by rw [HR.out, if_pos HXY.out, if_neg HNQ.out]), HBE.out⟩
      · have hn := HNN.out hxy
        have HXY := Lib.hid hxy
        clear hxy HNE HNN
        go_wp2_with fail
        refine (HL.out _).mono ?_
        rintro e w9 ⟨rfl, hb9⟩
        go_wp2
        go_ret
        exact ⟨ret_bool (by rw [HR.out, if_neg HXY.out]), HBE.out.trans (hb9.mono HBE.out.size)⟩
  · refine heldOp 17 (by simp only [List.getElem?_toArray, List.getElem?_cons_succ, List.getElem?_cons_zero]; rfl) (fun K hK => ?_)
    (try generalize W0.drew = Wd at hSt ⊢)
    go_simp
    have hS0 := hSt.alloc6
    clear hSt
    have hSt := hS0
    clear hS0
    generalize (World.alloc _ _) = Wb at hSt ⊢
    refine hK.out _ _ ?_ (fun hHeld => ?_)
    · exact HA.out.below hSt.below hz
    clear hK K
    (try simp only [Act.put, List.setIfInBounds_toArray, List.set_cons_zero, List.set_cons_succ])
    refine heldFork 7 16 (by kernel_rfl) ?_ ?_
    · refine heldOp 7 (by simp only [List.getElem?_toArray, List.getElem?_cons_succ, List.getElem?_cons_zero]; rfl) (fun K hK => ?_)
      go_simp
      refine (Q1.out _).mono ?_
      rintro e w1 ⟨rfl, hb1⟩
      have hS0 := hSt.call hb1
      clear hSt hb1
      have hSt := hS0
      clear hS0
      go_wp2_with fail
      refine hK.out _ _ ?_ (fun hHeld => ?_)
      · exact HA.out.below hSt.below hz
      clear hK K
      (try simp only [Act.put, List.setIfInBounds_toArray, List.set_cons_zero, List.set_cons_succ])
      refine heldFork 15 16 (by kernel_rfl) ?_ ?_
      · refine heldOp 15 (by simp only [List.getElem?_toArray, List.getElem?_cons_succ, List.getElem?_cons_zero]; rfl) (fun K hK => ?_)
        go_simp
        refine (Q2.out _).mono ?_
        rintro e w2 ⟨rfl, hb2⟩
        have hS0 := hSt.call hb2
        clear hSt hb2
        have hSt := hS0
        clear hS0
        go_wp2_with fail
        refine hK.out _ _ ?_ (fun hHeld => ?_)
        · exact HA.out.below hSt.below hz
        clear hK K
        (try simp only [Act.put, List.setIfInBounds_toArray, List.set_cons_zero, List.set_cons_succ])
        refine heldCall 16 (by simp only [List.getElem?_toArray, List.getElem?_cons_succ, List.getElem?_cons_zero]; rfl) (by kernel_rfl) (fun K hK => ?_)
        (try generalize W0.drew = Wd at hSt ⊢)
        go_simp
        have hS0 := hSt.alloc5
        clear hSt
        have hSt := hS0
        clear hS0
        generalize (World.alloc _ _) = Wa at hSt ⊢
        refine hK.out _ _ ?_ (fun hHeld => ?_)
        · exact HA.out.below hSt.below hz
        clear hK K
        (try simp only [Act.put, List.setIfInBounds_toArray, List.set_cons_zero, List.set_cons_succ])
        refine heldCall 18 (by simp only [List.getElem?_toArray, List.getElem?_cons_succ, List.getElem?_cons_zero]; rfl) (by kernel_rfl) (fun K hK => ?_)
        obtain ⟨g0, g1, g2, g3⟩ := wide_cells (hSt.b5 _ rfl).2
        go_simp
        have hS0 := hSt.set5 X
        clear hSt g0 g1 g2 g3
        have hSt := hS0
        clear hS0
        refine hK.out _ _ ?_ (fun hHeld => ?_)
        · exact HA.out.below hSt.below hz
        clear hK K
        (try simp only [Act.put, List.setIfInBounds_toArray, List.set_cons_zero, List.set_cons_succ])
        refine heldLast 19 (by simp only [List.getElem?_toArray, List.getElem?_cons_succ, List.getElem?_cons_zero]; rfl) (by kernel_rfl) rfl (fun K hK => ?_)
        obtain ⟨g0, g1, g2, g3⟩ := wide_cells (hSt.b6 _ rfl).2
        go_simp
        have hS0 := hSt.set6 Y
        clear hSt g0 g1 g2 g3
        have hSt := hS0
        clear hS0
        generalize (World.setCell (World.setCell _ _ _) _ _) = W9 at hSt ⊢
        refine hK.out _ _ ?_
        clear hK K
        (try simp only [Act.put, List.setIfInBounds_toArray, List.set_cons_zero, List.set_cons_succ])
        refine heldDone (by kernel_rfl) ?_ _
        obtain ⟨g0, g1, g2, g3⟩ := wide_cells (hSt.b5 _ rfl).2
        obtain ⟨k0, k1, k2, k3⟩ := wide_cells (hSt.b6 _ rfl).2
        obtain ⟨m0, m1, m2, m3, m4, m5⟩ := HA.out.below hSt.below hz
        have HBE : Hid (Below w.heap.size w W9) := Lib.hid (HB0.out.trans (hSt.below.mono HB0.out.size))
        clear hSt hHeld Q1 Q2 g2 g3 k2 k3
        by_cases hxy : X = Y
        · have hn := HNE.out hxy
          have HXY := Lib.hid hxy
          clear hxy HNE HNN
          by_cases hnn : a.new = b.new
          · have h2 : (a.new == b.new) = true := by simpa using hnn
            have HNQ := Lib.hid hnn
            clear hnn
            go_wp2
            go_ret
            exact ⟨ret_bool (by rw [HR.out, if_pos HXY.out, if_pos HNQ.out]; rfl), HBE.out⟩
          · have h2 : (a.new == b.new) = false := by simpa using hnn
            have HNQ := Lib.hid hnn
            clear hnn
            go_wp2
            go_ret
            exact ⟨ret_bool (by rw [HR.out, if_pos HXY.out, if_neg HNQ.out]), HBE.out⟩
        · have hn := HNN.out hxy
          have HXY := Lib.hid hxy
          clear hxy HNE HNN
          go_wp2_with fail
          refine (HL.out _).mono ?_
          rintro e w9 ⟨rfl, hb9⟩
          go_wp2
          go_ret
          exact ⟨ret_bool (by rw [HR.out, if_neg HXY.out]), HBE.out.trans (hb9.mono HBE.out.size)⟩
      · refine heldOp 16 (by simp only [List.getElem?_toArray, List.getElem?_cons_succ, List.getElem?_cons_zero]; rfl) (fun K hK => ?_)
        (try generalize W0.drew = Wd at hSt ⊢)
        go_simp
        have hS0 := hSt.alloc5
        clear hSt
        have hSt := hS0
        clear hS0
        generalize (World.alloc _ _) = Wa at hSt ⊢
        refine hK.out _ _ ?_ (fun hHeld => ?_)
        · exact HA.out.below hSt.below hz
        clear hK K
        (try simp only [Act.put, List.setIfInBounds_toArray, List.set_cons_zero, List.set_cons_succ])
        refine heldCall 15 (by simp only [List.getElem?_toArray, List.getElem?_cons_succ, List.getElem?_cons_zero]; rfl) (by kernel_rfl) (fun K hK => ?_)
        go_simp
        refine (Q2.out _).mono ?_
        rintro e w2 ⟨rfl, hb2⟩
        have hS0 := hSt.call hb2
        clear hSt hb2
        have hSt := hS0
        clear hS0
        go_wp2_with fail
        refine hK.out _ _ ?_ (fun hHeld => ?_)
        · exact HA.out.below hSt.below hz
        clear hK K
        (try simp only [Act.put, List.setIfInBounds_toArray, List.set_cons_zero, List.set_cons_succ])
        refine heldCall 18 (by simp only [List.getElem?_toArray, List.getElem?_cons_succ, List.getElem?_cons_zero]; rfl) (by kernel_rfl) (fun K hK => ?_)
        obtain ⟨g0, g1, g2, g3⟩ := wide_cells (hSt.b5 _ rfl).2
        go_simp
        have hS0 := hSt.set5 X
        clear hSt g0 g1 g2 g3
        have hSt := hS0
        clear hS0
        refine hK.out _ _ ?_ (fun hHeld => ?_)
        · exact HA.out.below hSt.below hz
        clear hK K
        (try simp only [Act.put, List.setIfInBounds_toArray, List.set_cons_zero, List.set_cons_succ])
        refine heldLast 19 (by simp only [List.getElem?_toArray, List.getElem?_cons_succ, List.getElem?_cons_zero]; rfl) (by kernel_rfl) rfl (fun K hK => ?_)
        obtain ⟨g0, g1, g2, g3⟩ := wide_cells (hSt.b6 _ rfl).2
        go_simp
        have hS0 := hSt.set6 Y
        clear hSt g0 g1 g2 g3
        have hSt := hS0
        clear hS0
        generalize (World.setCell (World.setCell _ _ _) _ _) = W9 at hSt ⊢
        refine hK.out _ _ ?_
        clear hK K
        (try simp only [Act.put, List.setIfInBounds_toArray, List.set_cons_zero, List.set_cons_succ])
        refine heldDone (by kernel_rfl) ?_ _
        obtain ⟨g0, g1, g2, g3⟩ := wide_cells (hSt.b5 _ rfl).2
        obtain ⟨k0, k1, k2, k3⟩ := wide_cells (hSt.b6 _ rfl).2
        obtain ⟨m0, m1, m2, m3, m4, m5⟩ := HA.out.below hSt.below hz
        have HBE : Hid (Below w.heap.size w W9) := Lib.hid (HB0.out.trans (hSt.below.mono HB0.out.size))
        clear hSt hHeld Q1 Q2 g2 g3 k2 k3
        by_cases hxy : X = Y
        · have hn := HNE.out hxy
          have HXY := Lib.hid hxy
          clear hxy HNE HNN
          by_cases hnn : a.new = b.new
          · have h2 : (a.new == b.new) = true := by simpa using hnn
            have HNQ := Lib.hid hnn
            clear hnn
            go_wp2
            go_ret
            exact ⟨ret_bool (by rw [HR.out, if_pos HXY.out, if_pos HNQ.out]; rfl), HBE.out⟩
          · have h2 : (a.new == b.new) = false := by simpa using hnn
            have HNQ := Lib.hid hnn
            clear hnn
            go_wp2
            go_ret
            exact ⟨ret_bool (by rw [HR.out, if_pos HXY.out, if_neg HNQ.out]), HBE.out⟩
        · have hn := HNN.out hxy
          have HXY := Lib.hid hxy
          clear hxy HNE HNN
          go_wp2_with fail
          refine (HL.out _).mono ?_
          rintro e w9 ⟨rfl, hb9⟩
          go_wp2
          go_ret
          exact ⟨ret_bool (by rw [HR.out, if_neg HXY.out]), HBE.out.trans (hb9.mono HBE.out.size)⟩
    · refine heldOp 16 (by simp only [List.getElem?_toArray, List.getElem?_cons_succ, List.getElem?_cons_zero]; rfl) (fun K hK => ?_)
      (try generalize W0.drew = Wd at hSt ⊢)
      go_simp
      have hS0 := hSt.alloc5
      clear hSt
      have hSt := hS0
      clear hS0
      generalize (World.alloc _ _) = Wa at hSt ⊢
      refine hK.out _ _ ?_ (fun hHeld => ?_)
      · exact HA.out.below hSt.below hz
      clear hK K
      (try simp only [Act.put, List.setIfInBounds_toArray, List.set_cons_zero, List.set_cons_succ])
      refine heldCall 7 (by simp only [List.getElem?_toArray, List.getElem?_cons_succ, List.getElem?_cons_zero]; rfl) (by kernel_rfl) (fun K hK => ?_)
      go_simp
      refine (Q1.out _).mono ?_
      rintro e w1 ⟨rfl, hb1⟩
      have hS0 := hSt.call hb1
      clear hSt hb1
      have hSt := hS0
      clear hS0
      go_wp2_with fail
      refine hK.out _ _ ?_ (fun hHeld => ?_)
      · exact HA.out.below hSt.below hz
      clear hK K
      (try simp only [Act.put, List.setIfInBounds_toArray, List.set_cons_zero, List.set_cons_succ])
      refine heldCall 15 (by simp only [List.getElem?_toArray, List.getElem?_cons_succ, List.getElem?_cons_zero]; rfl) (by kernel_rfl) (fun K hK => ?_)
      go_simp
      refine (Q2.out _).mono ?_
      rintro e w2 ⟨rfl, hb2⟩
      have hS0 := hSt.call hb2
      clear hSt hb2
      have hSt := hS0
      clear hS0
      go_wp2_with fail
      refine hK.out _ _ ?_ (fun hHeld => ?_)
      · exact HA.out.below hSt.below hz
      clear hK K
      (try simp only [Act.put, List.setIfInBounds_toArray, List.set_cons_zero, List.set_cons_succ])
      refine heldCall 18 (by simp only [List.getElem?_toArray, List.getElem?_cons_succ, List.getElem?_cons_zero]; rfl) (by kernel_rfl) (fun K hK => ?_)
      obtain ⟨g0, g1, g2, g3⟩ := wide_cells (hSt.b5 _ rfl).2
      go_simp
      have hS0 := hSt.set5 X
      clear hSt g0 g1 g2 g3
      have hSt := hS0
      clear hS0
      refine hK.out _ _ ?_ (fun hHeld => ?_)
      · exact HA.out.below hSt.below hz
      clear hK K
      (try simp only [Act.put, List.setIfInBounds_toArray, List.set_cons_zero, List.set_cons_succ])
      refine heldLast 19 (by simp only [List.getElem?_toArray, List.getElem?_cons_succ, List.getElem?_cons_zero]; rfl) (by kernel_rfl) rfl (fun K hK => ?_)
      obtain ⟨g0, g1, g2, g3⟩ := wide_cells (hSt.b6 _ rfl).2
      go_simp
      have hS0 := hSt.set6 Y
      clear hSt g0 g1 g2 g3
      have hSt := hS0
      clear hS0
      generalize (World.setCell (World.setCell _ _ _) _ _) = W9 at hSt ⊢
      refine hK.out _ _ ?_
      clear hK K
      (try simp only [Act.put, List.setIfInBounds_toArray, List.set_cons_zero, List.set_cons_succ])
      refine heldDone (by kernel_rfl) ?_ _
      obtain ⟨g0, g1, g2, g3⟩ := wide_cells (hSt.b5 _ rfl).2
      obtain ⟨k0, k1, k2, k3⟩ := wide_cells (hSt.b6 _ rfl).2
      obtain ⟨m0, m1, m2, m3, m4, m5⟩ := HA.out.below hSt.below hz
      have HBE : Hid (Below w.heap.size w W9) := Lib.hid (HB0.out.trans (hSt.below.mono HB0.out.size))
      clear hSt hHeld Q1 Q2 g2 g3 k2 k3
      by_cases hxy : X = Y
      · have hn := HNE.out hxy
        have HXY := Lib.hid hxy
        clear hxy HNE HNN
        by_cases hnn : a.new = b.new
        · have h2 : (a.new == b.new) = true := by simpa using hnn
          have HNQ := Lib.hid hnn
          clear hnn
          go_wp2
          go_ret
          exact ⟨ret_bool (by rw [HR.out, if_pos HXY.out, if_pos HNQ.out]; rfl), HBE.out⟩
        · have h2 : (a.new == b.new) = false := by simpa using hnn
          have HNQ := Lib.hid hnn
          clear hnn
          go_wp2
          go_ret
          exact ⟨ret_bool (by rw [HR.out, if_pos HXY.out, if_neg HNQ.out]), HBE.out⟩
      · have hn := HNN.out hxy
        have HXY := Lib.hid hxy
        clear hxy HNE HNN
        go_wp2_with fail
        refine (HL.out _).mono ?_
        rintro e w9 ⟨rfl, hb9⟩
        go_wp2
        go_ret
        exact ⟨ret_bool (by rw [HR.out, if_neg HXY.out]), HBE.out.trans (hb9.mono HBE.out.size)⟩
end Go.Proofs.Ytbfjknpljkmgjaa
