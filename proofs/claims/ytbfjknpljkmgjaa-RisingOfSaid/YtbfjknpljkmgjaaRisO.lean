/- Numbers of 128 bits of the reference: Plus, Times, Less. -/
import Derived.Test.YtbfjknpljkmgjaaKitA
import Derived.Test.YtbfjknpljkmgjaaKitM
import Derived.Test.YtbfjknpljkmgjaaProg
namespace Go.Proofs.Ytbfjknpljkmgjaa
open Go.ChangeShapes Go.WideShapes Go.ChangeAt Go.RowKit
set_option linter.unusedVariables false
set_option linter.unusedSimpArgs false

def wideV (N : Int) : Value := .agg #[.int .u64 (N / 18446744073709551616), .int .u64 (N % 18446744073709551616)]

theorem heapW2 (w : World) (a b : Obj) : ((w.alloc a).alloc b).heap[w.heap.size + 1]? = some b := by
  have := heap_alloc_new (w.alloc a) b
  rwa [World.size_alloc] at this
theorem heapW3 (w : World) (a b c : Obj) : (((w.alloc a).alloc b).alloc c).heap[w.heap.size + 1 + 1]? = some c := by
  have := heap_alloc_new ((w.alloc a).alloc b) c
  rwa [World.size_alloc, World.size_alloc] at this

set_option maxRecDepth 20000 in
set_option maxHeartbeats 1000000 in
theorem plus_raw (aH aL bH bL : Int) (h1 : 0 ≤ aH) (h2 : 0 ≤ aL) (h3 : 0 ≤ bH) (h4 : 0 ≤ bL) (k2 : aL < 18446744073709551616) (k4 : bL < 18446744073709551616) (k : aH + bH + 1 < 18446744073709551616) (w : World) :
    Calls Try.prog 65 #[.agg #[.int .u64 aH, .int .u64 aL], .agg #[.int .u64 bH, .int .u64 bL]] w fun e w' => e = .returned (.agg #[.int .u64 (aH + bH + (if aL + bL < 18446744073709551616 then 0 else 1)), .int .u64 (if aL + bL < 18446744073709551616 then aL + bL else aL + bL - 18446744073709551616)]) ∧ Below w.heap.size w w' := by
  by_cases hc : aL + bL < 18446744073709551616
  · rw [if_pos hc, if_pos hc, Int.add_zero]
    have hx : ¬ aL + bL < aL := by omega
    go_enter Try.func65, Try.ntmps65
    go_wp2
    refine bodyPost_ret (results_cell_row rfl _ _ _ _ _ _ _ rfl (heapW3 _ _ _ _) Try.underlying92 rfl (by kernel_rfl)) rfl ?_
    exact ⟨rfl, (((Below.refl _ _).alloc (Nat.le_refl _) _).alloc (by simp) _).alloc (by simp; omega) _⟩
  · rw [if_neg hc, if_neg hc]
    have hw : IntKind.u64.wrap (aL + bL) = aL + bL - 18446744073709551616 := by
      show (aL + bL) % 18446744073709551616 = _
      omega
    have hx : aL + bL - 18446744073709551616 < aL := by omega
    go_enter Try.func65, Try.ntmps65
    go_wp2
    refine bodyPost_ret (results_cell_row rfl _ _ _ _ _ _ _ rfl (heapW3 _ _ _ _) Try.underlying92 rfl (by kernel_rfl)) rfl ?_
    exact ⟨rfl, (((Below.refl _ _).alloc (Nat.le_refl _) _).alloc (by simp) _).alloc (by simp; omega) _⟩

theorem plus_any (N M : Int) (h1 : 0 ≤ N) (h2 : 0 ≤ M) (h3 : N + M < 340282366920938463444927863358058659840) (w : World) :
    Calls Try.prog 65 #[wideV N, wideV M] w fun e w' => e = .returned (wideV (N + M)) ∧ Below w.heap.size w w' := by
  refine (plus_raw (N / 18446744073709551616) (N % 18446744073709551616) (M / 18446744073709551616) (M % 18446744073709551616) (by omega) (by omega) (by omega) (by omega) (by omega) (by omega) (by omega) w).mono ?_
  rintro e w' ⟨rfl, hb⟩
  refine ⟨?_, hb⟩
  unfold wideV
  by_cases hc : N % 18446744073709551616 + M % 18446744073709551616 < 18446744073709551616
  · rw [if_pos hc, if_pos hc, show (N + M) / 18446744073709551616 = N / 18446744073709551616 + M / 18446744073709551616 + 0 by omega, show (N + M) % 18446744073709551616 = N % 18446744073709551616 + M % 18446744073709551616 by omega]
  · rw [if_neg hc, if_neg hc, show (N + M) / 18446744073709551616 = N / 18446744073709551616 + M / 18446744073709551616 + 1 by omega, show (N + M) % 18446744073709551616 = N % 18446744073709551616 + M % 18446744073709551616 - 18446744073709551616 by omega]

set_option maxRecDepth 20000 in
set_option maxHeartbeats 1000000 in
theorem wless_any (N M : Int) (w : World) :
    Calls Try.prog 51 #[wideV N, wideV M] w fun e w' => e = .returned (.bool (decide (N < M))) ∧ Below w.heap.size w w' := by
  have hb : ∀ o1 o2 : Obj, Below w.heap.size w ((w.alloc o1).alloc o2) := fun o1 o2 => ((Below.refl _ _).alloc (Nat.le_refl _) _).alloc (by simp) _
  have HB := Lib.hid hb
  have hl : (N < M) ↔ (N / 18446744073709551616 < M / 18446744073709551616 ∨ (N / 18446744073709551616 = M / 18446744073709551616 ∧ N % 18446744073709551616 < M % 18446744073709551616)) := by omega
  have HL := Lib.hid hl
  clear hl hb
  unfold wideV
  generalize N / 18446744073709551616 = a at *
  generalize N % 18446744073709551616 = b at *
  generalize M / 18446744073709551616 = c at *
  generalize M % 18446744073709551616 = d at *
  by_cases h1 : a < c
  · go_enter Try.func51, Try.ntmps51
    go_wp2
    go_ret
    exact ⟨ret_bool (decide_eq_true (HL.out.2 (.inl h1))).symm, HB.out _ _⟩
  · by_cases h2 : a = c
    · have h2' : (a == c) = true := by simpa using h2
      have HE : Hid (decide (b < d) = decide (N < M)) := Lib.hid (by
        by_cases h3 : b < d
        · rw [decide_eq_true h3, decide_eq_true (HL.out.2 (.inr ⟨h2, h3⟩))]
        · rw [decide_eq_false h3, decide_eq_false (fun h => by rcases HL.out.1 h with h | h; exact absurd h h1; exact h3 h.2)])
      go_enter Try.func51, Try.ntmps51
      go_wp2
      go_ret
      exact ⟨ret_bool HE.out, HB.out _ _⟩
    · have h2' : (a == c) = false := by simpa using h2
      go_enter Try.func51, Try.ntmps51
      go_wp2
      go_ret
      exact ⟨ret_bool (decide_eq_false (fun h => by rcases HL.out.1 h with h | h; omega; exact h2 h.1)).symm, HB.out _ _⟩

def wideC (N : Int) : Array Value := #[.int .u64 (N / 18446744073709551616), .int .u64 (N % 18446744073709551616)]
theorem wide_cells {w : World} {b : Nat} {N : Int} {t : TypeId} (h : w.heap[b]? = some (.cells (wideC N) t (0, 0))) :
    w.cell? ⟨b, 0, none⟩ = some (.int .u64 (N / 18446744073709551616)) ∧ w.cell? ⟨b, 1, none⟩ = some (.int .u64 (N % 18446744073709551616)) ∧ w.frozen? ⟨b, 0, none⟩ = false ∧ w.frozen? ⟨b, 1, none⟩ = false := by
  unfold wideC at h
  refine ⟨?_, ?_, ?_, ?_⟩ <;> simp [World.cell?, World.frozen?, h]
/-- The boxes of Times. -/
structure TimesAt (w wr : World) (N X : Int) : Prop where
  b0 : wr.heap[w.heap.size]? = some (.cells (wideC 0) 92 (0, 0))
  b1 : wr.heap[w.heap.size + 1]? = some (.cells (wideC N) 92 (0, 0))
  b2 : wr.heap[w.heap.size + 1 + 1]? = some (.cells (wideC X) 92 (0, 0))
  below : Below w.heap.size w wr
theorem lt_of_blk {w : World} {b : Nat} {o : Obj} (h : w.heap[b]? = some o) : b < w.heap.size := by
  rcases Nat.lt_or_ge b w.heap.size with h' | h'
  · exact h'
  · rw [Array.getElem?_eq_none h'] at h; cases h
theorem TimesAt.below' {w wr w1 : World} {N X : Int} (h : TimesAt w wr N X) (hb : Below wr.heap.size wr w1) : TimesAt w w1 N X :=
  ⟨(hb.block _ (lt_of_blk h.b0)).trans h.b0, (hb.block _ (lt_of_blk h.b1)).trans h.b1, (hb.block _ (lt_of_blk h.b2)).trans h.b2, h.below.trans (hb.mono h.below.size)⟩
theorem wide_lt {w : World} {b : Nat} {o : Obj} (h : w.heap[b]? = some o) : b < w.heap.size := lt_of_blk h
theorem wide_set {w : World} {b : Nat} {N M : Int} {t : TypeId} (h : w.heap[b]? = some (.cells (wideC N) t (0, 0))) :
    ((w.setCell ⟨b, 0, none⟩ (.int .u64 (M / 18446744073709551616))).setCell ⟨b, 1, none⟩ (.int .u64 (M % 18446744073709551616))).heap[b]? = some (.cells (wideC M) t (0, 0)) := by
  have hb := lt_of_blk h
  unfold wideC at *
  simp [World.setCell, Array.getElem?_modify, h]
theorem wide_other {w : World} {b k : Nat} {u v : Value} (hk : k ≠ b) : ((w.setCell ⟨b, 0, none⟩ u).setCell ⟨b, 1, none⟩ v).heap[k]? = w.heap[k]? :=
  (Below.heap_setCell _ _ _ _ hk).trans (Below.heap_setCell _ _ _ _ hk)
theorem TimesAt.setN {w w1 : World} {N X : Int} (h : TimesAt w w1 N X) (M : Int) : TimesAt w ((w1.setCell ⟨w.heap.size + 1, 0, none⟩ (.int .u64 (M / 18446744073709551616))).setCell ⟨w.heap.size + 1, 1, none⟩ (.int .u64 (M % 18446744073709551616))) M X :=
  ⟨(wide_other (by omega)).trans h.b0, wide_set h.b1, (wide_other (by omega)).trans h.b2, (h.below.setCell (by simp) _).setCell (by simp) _⟩
theorem TimesAt.setX {w w1 : World} {N X : Int} (h : TimesAt w w1 N X) (M : Int) : TimesAt w ((w1.setCell ⟨w.heap.size + 1 + 1, 0, none⟩ (.int .u64 (M / 18446744073709551616))).setCell ⟨w.heap.size + 1 + 1, 1, none⟩ (.int .u64 (M % 18446744073709551616))) N M :=
  ⟨(wide_other (by omega)).trans h.b0, (wide_other (by omega)).trans h.b1, wide_set h.b2, (h.below.setCell (by simp; omega) _).setCell (by simp; omega) _⟩
theorem times_bd {N X x a b : Int} (h : N + X * x = a * b ∧ 0 ≤ N ∧ 0 ≤ X) (hx : 1 ≤ x) (h1 : 0 ≤ a) (h2 : 0 ≤ b) (h3 : a ≤ 2199023255552) (h4 : b ≤ 2199023255552) : N ≤ 4835703278458516698824704 ∧ X ≤ 4835703278458516698824704 := by
  have e1 : a * b ≤ 2199023255552 * 2199023255552 := Int.mul_le_mul h3 h4 h2 (by omega)
  have e2 : X * 1 ≤ X * x := Int.mul_le_mul_of_nonneg_left hx h.2.2
  omega
theorem times_inv {a b0 b N X : Int} (h : N + X * b = a * b0) (hb : 0 < b) (hp : b % 2 = 1) : (N + X) + (X + X) * (b / 2) = a * b0 := by
  have : b = 2 * (b / 2) + 1 := by omega
  rw [← h]
  generalize b / 2 = q at *
  subst this
  grind
theorem times_inv' {a b0 b N X : Int} (h : N + X * b = a * b0) (hb : 0 < b) (hp : ¬ b % 2 = 1) : N + (X + X) * (b / 2) = a * b0 := by
  have : b = 2 * (b / 2) := by omega
  rw [← h]
  generalize b / 2 = q at *
  subst this
  grind
set_option maxRecDepth 20000 in
set_option maxHeartbeats 1000000 in
theorem times_any (a b : Int) (h1 : 0 ≤ a) (h2 : 0 ≤ b) (h3 : a ≤ 2199023255552) (h4 : b ≤ 2199023255552) (w : World) :
    Calls Try.prog 50 #[.int .u64 a, .int .u64 b] w fun e w' => e = .returned (wideV (a * b)) ∧ Below w.heap.size w w' := by
  go_enter Try.func50, Try.ntmps50
  go_wp2_with fail
  go_loopg [1] b.toNat (fun rest i wr => ∃ x N X : Int, i = .int .u64 x ∧ Hid (x.toNat ≤ rest) ∧ 0 ≤ x ∧ x ≤ 2199023255552 ∧ Hid (N + X * x = a * b ∧ 0 ≤ N ∧ 0 ≤ X) ∧ Hid (TimesAt w wr N X))
  case atStart => 
    refine ⟨b, 0, a, rfl, Lib.hid (Nat.le_refl _), h2, h4, Lib.hid ⟨by omega, by omega, h1⟩, Lib.hid ⟨?_, ?_, ?_, (((Below.refl _ _).alloc (Nat.le_refl _) _).alloc (by simp) _).alloc (by simp; omega) _⟩⟩
    · exact (Below.heap_alloc _ _ _ (by simp; omega)).trans ((Below.heap_alloc _ _ _ (by simp)).trans (heap_alloc_new w _))
    · exact (Below.heap_alloc _ _ _ (by simp)).trans (heapW2 w _ _)
    · have := heapW3 w (Obj.cells (wideC 0) 92) (Obj.cells (wideC 0) 92) (Obj.cells (wideC a) 92)
      rw [show wideC a = #[.int .u64 0, .int .u64 a] by unfold wideC; rw [show a / 18446744073709551616 = 0 by omega, show a % 18446744073709551616 = a by omega]] at this ⊢
      exact this
  case round =>
    obtain ⟨x, N, X, rfl, HX, x0, x1, HN, HT⟩ := hrel
    obtain ⟨p0, p1, p2, p3⟩ := wide_cells HT.out.b0
    obtain ⟨q0, q1, q2, q3⟩ := wide_cells HT.out.b1
    obtain ⟨r0, r1, r2, r3⟩ := wide_cells HT.out.b2
    by_cases hx : 0 < x
    · have tm : x.tmod 2 = x % 2 := Int.tmod_eq_emod_of_nonneg x0
      have td : x.tdiv 2 = x / 2 := Int.tdiv_eq_ediv_of_nonneg x0
      have hbd := times_bd HN.out (by omega) h1 h2 h3 h4
      have BD := Lib.hid hbd
      clear hbd
      by_cases hp : x % 2 = 1
      · have hp' : (x % 2 == 1) = true := by simpa using hp
        have hq1 := plus_any N X HN.out.2.1 HN.out.2.2 (by have := BD.out; omega) wr
        unfold wideV at hq1
        have HQ1 := Lib.hid hq1
        clear hq1
        have hq2 := fun W => plus_any X X HN.out.2.2 HN.out.2.2 (by have := BD.out; omega) W
        unfold wideV at hq2
        have HQ2 := Lib.hid hq2
        clear hq2
        go_wp2_with fail
        refine HQ1.out.mono ?_
        rintro e w1 ⟨rfl, hb1⟩
        have HT1 : Hid (TimesAt w w1 N X) := Lib.hid (HT.out.below' hb1)
        clear p0 p1 p2 p3 q0 q1 q2 q3 r0 r1 r2 r3
        obtain ⟨q0, q1, q2, q3⟩ := wide_cells HT1.out.b1
        obtain ⟨r0, r1, r2, r3⟩ := wide_cells HT1.out.b2
        go_wp2_with fail
        have HT2 := Lib.hid (HT1.out.setN (N + X))
        clear HT1 hb1 q0 q1 q2 q3 r0 r1 r2 r3
        generalize (w1.setCell _ _).setCell _ _ = w2 at *
        refine (HQ2.out _).mono ?_
        rintro e w3 ⟨rfl, hb3⟩
        have HT3 : Hid (TimesAt w w3 (N + X) X) := Lib.hid (HT2.out.below' hb3)
        obtain ⟨r0, r1, r2, r3⟩ := wide_cells HT3.out.b2
        go_wp2
        have HT4 := Lib.hid (HT3.out.setX (X + X))
        go_roundg (gk - 1)
        case measure => have := HX.out; omega
        case rel => exact ⟨x / 2, N + X, X + X, rfl, Lib.hid (by have := HX.out; omega), by omega, by omega, Lib.hid ⟨times_inv HN.out.1 hx hp, by have := HN.out; omega, by have := HN.out; omega⟩, HT4⟩
      · have hp' : (x % 2 == 1) = false := by simpa using hp
        have hq2 := fun W => plus_any X X HN.out.2.2 HN.out.2.2 (by have := BD.out; omega) W
        unfold wideV at hq2
        have HQ2 := Lib.hid hq2
        clear hq2
        go_wp2_with fail
        refine (HQ2.out _).mono ?_
        rintro e w3 ⟨rfl, hb3⟩
        have HT3 : Hid (TimesAt w w3 N X) := Lib.hid (HT.out.below' hb3)
        clear p0 p1 p2 p3 q0 q1 q2 q3 r0 r1 r2 r3
        obtain ⟨r0, r1, r2, r3⟩ := wide_cells HT3.out.b2
        go_wp2
        have HT4 := Lib.hid (HT3.out.setX (X + X))
        go_roundg (gk - 1)
        case measure => have := HX.out; omega
        case rel => exact ⟨x / 2, N, X + X, rfl, Lib.hid (by have := HX.out; omega), by omega, by omega, Lib.hid ⟨times_inv' HN.out.1 hx hp, by have := HN.out; omega, by have := HN.out; omega⟩, HT4⟩
    · have hx0 : x = 0 := by omega
      subst hx0
      have hN : Hid (N = a * b) := Lib.hid (by have := HN.out.1; rw [Int.mul_zero] at this; omega)
      go_wp2
      have hset := wide_set (M := N) HT.out.b0
      unfold wideC at hset
      refine bodyPost_ret (results_cell_row rfl _ _ _ _ _ _ _ rfl hset Try.underlying92 rfl (by kernel_rfl)) rfl ?_
      refine ⟨by rw [← hN.out]; rfl, ?_⟩
      exact (HT.out.below.setCell (Nat.le_refl _) _).setCell (Nat.le_refl _) _
end Go.Proofs.Ytbfjknpljkmgjaa
