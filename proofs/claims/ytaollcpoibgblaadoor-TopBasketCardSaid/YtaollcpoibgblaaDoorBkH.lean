/- Contracts of what is asked of baskets: Count, Single, All, Confidence; the people and the things. -/
import Derived.Test.YtaollcpoibgblaaDoorBkB
import Derived.Test.YtaollcpoibgblaaDoorTlHs
import Derived.Test.YtaollcpoibgblaaDoorKitZ
namespace Go.Proofs.YtaollcpoibgblaaDoor
open Go.ChangeShapes Go.WideShapes Go.ChangeAt Go.RowKit
set_option linter.unusedVariables false
set_option linter.unusedSimpArgs false

section
variable {bb sb cb : Nat} {D1 : SgD} {D2 : CtD} {b : BkS}
set_option maxHeartbeats 1000000 in
theorem count_any (x y : ByteArray) (w : World) (h : BkAt w bb sb cb D1 D2 b) (hx : x.size ≤ maxLen) (hy : y.size ≤ maxLen) :
    Calls Tryd.prog 9 #[.pointer (some ⟨bb, 0, none⟩), .string x, .string y] w fun e w' => e = .returned (.int .i64 (b.ct x y)) ∧ w = w' := by
  have c2 := h.c2
  have hl := h.look2 (x := x) (y := y) ⟨hx, hy⟩
  simp only [twoKf] at hl
  clear h
  go_enter Tryd.func9, Tryd.ntmps9
  go_wp2
  go_ret
  exact ⟨rfl, rfl⟩
set_option maxHeartbeats 1000000 in
theorem single_any (x : ByteArray) (w : World) (h : BkAt w bb sb cb D1 D2 b) (hx : x.size ≤ maxLen) :
    Calls Tryd.prog 11 #[.pointer (some ⟨bb, 0, none⟩), .string x] w fun e w' => e = .returned (.int .i64 (b.sg x)) ∧ w = w' := by
  have c1 := h.c1
  have hl := h.look1 (x := x) hx
  clear h
  go_enter Tryd.func11, Tryd.ntmps11
  go_wp2
  go_ret
  exact ⟨rfl, rfl⟩
set_option maxHeartbeats 1000000 in
theorem allB_any (w : World) (h : BkAt w bb sb cb D1 D2 b) :
    Calls Tryd.prog 10 #[.pointer (some ⟨bb, 0, none⟩)] w fun e w' => e = .returned (.int .i64 b.all) ∧ w = w' := by
  have c0 := h.c0
  clear h
  go_enter Tryd.func10, Tryd.ntmps10
  go_wp2
  go_ret
  exact ⟨rfl, rfl⟩
def cfN (b : BkS) (x y : ByteArray) : Int := if b.sg x = 0 then 0 else b.ct x y
def cfD (b : BkS) (x : ByteArray) : Int := if b.sg x = 0 then 1 else b.sg x
set_option maxRecDepth 20000 in
set_option maxHeartbeats 2000000 in
theorem conf_any (x y : ByteArray) (w : World) (h : BkAt w bb sb cb D1 D2 b) (hx : x.size ≤ maxLen) (hy : y.size ≤ maxLen) :
    Calls Tryd.prog 12 #[.pointer (some ⟨bb, 0, none⟩), .string x, .string y] w fun e w' => e = .returned (.agg #[.int .i64 (cfN b x y), .int .i64 (cfD b x)]) ∧ Below w.heap.size w w' := by
  have hA : ∀ W, Below w.heap.size w W → BkAt W bb sb cb D1 D2 b := fun W hb => h.below hb
  have QS := Lib.hid (fun W (hb : Below w.heap.size w W) => single_any x W (hA W hb) hx)
  have QC := Lib.hid (fun W (hb : Below w.heap.size w W) => count_any x y W (hA W hb) hx hy)
  clear h hA
  by_cases h0 : b.sg x = 0
  · have e1 : cfN b x y = 0 := by unfold cfN; rw [if_pos h0]
    have e2 : cfD b x = 1 := by unfold cfD; rw [if_pos h0]
    rw [e1, e2]
    rw [h0] at QS
    clear e1 e2
    go_enter Tryd.func12, Tryd.ntmps12
    go_wp2_with fail
    refine (QS.out _ ?_).mono ?_
    · exact (Below.refl _ w).alloc (Nat.le_refl _) _
    rintro e w2 ⟨rfl, rfl⟩
    go_wp2_with (refine wpList_store_new rfl 45 _ _ rfl _ _ _ _ (by rfl) (by rfl) (by kernel_rfl) (by rfl) (by rfl) (by simp) ?_)
    refine bodyPost_ret (results_cell_row rfl _ _ _ _ _ _ _ (by rfl) (heap_alloc_new w _) Tryd.underlying45 (by rfl) (by kernel_rfl)) rfl ?_
    exact ⟨rfl, (Below.refl _ w).alloc (Nat.le_refl _) _⟩
  · have e1 : cfN b x y = b.ct x y := by unfold cfN; rw [if_neg h0]
    have e2 : cfD b x = b.sg x := by unfold cfD; rw [if_neg h0]
    have hf : (b.sg x == 0) = false := by simpa using h0
    rw [e1, e2]
    clear e1 e2
    generalize b.sg x = s at *
    generalize b.ct x y = c at *
    go_enter Tryd.func12, Tryd.ntmps12
    go_wp2_with fail
    refine (QS.out _ ?_).mono ?_
    · exact (Below.refl _ w).alloc (Nat.le_refl _) _
    rintro e w2 ⟨rfl, rfl⟩
    go_wp2_with fail
    refine (QC.out _ ?_).mono ?_
    · exact (Below.refl _ w).alloc (Nat.le_refl _) _
    rintro e w2 ⟨rfl, rfl⟩
    go_wp2_with (refine wpList_store_new rfl 45 _ _ rfl _ _ _ _ (by rfl) (by rfl) (by kernel_rfl) (by rfl) (by rfl) (by simp) ?_)
    refine bodyPost_ret (results_cell_row rfl _ _ _ _ _ _ _ (by rfl) (heap_alloc_new w _) Tryd.underlying45 (by rfl) (by kernel_rfl)) rfl ?_
    exact ⟨rfl, (Below.refl _ w).alloc (Nat.le_refl _) _⟩
end

def thL : List ByteArray := [nm 105 0, nm 105 1, nm 105 2, nm 105 3, nm 105 4, nm 105 5]
def peL : List ByteArray := [nm 112 0, nm 112 1, nm 112 2, nm 112 3]
def TextsNew (l : List ByteArray) (w : World) (e : Ending) (w' : World) : Prop := e = .returned (.slice (some ⟨w.heap.size, 0, none⟩) l.length l.length) ∧ w' = w.alloc (.cells (l.map Value.string).toArray 9)
theorem thL_eq : (thL.map Value.string).toArray = #[.string ⟨#[105, 48]⟩, .string ⟨#[105, 49]⟩, .string ⟨#[105, 50]⟩, .string ⟨#[105, 51]⟩, .string ⟨#[105, 52]⟩, .string ⟨#[105, 53]⟩] := by rfl
theorem peL_eq : (peL.map Value.string).toArray = #[.string ⟨#[112, 48]⟩, .string ⟨#[112, 49]⟩, .string ⟨#[112, 50]⟩, .string ⟨#[112, 51]⟩] := by rfl
set_option maxHeartbeats 1000000 in
theorem things_any (w : World) : Calls Tryd.prog 8 #[] w (TextsNew thL w) := by
  unfold TextsNew
  rw [thL_eq]
  go_enter Tryd.func8, Tryd.ntmps8
  go_wp2
  go_ret
  exact ⟨rfl, rfl⟩
set_option maxHeartbeats 1000000 in
theorem people_any (w : World) : Calls Tryd.prog 15 #[] w (TextsNew peL w) := by
  unfold TextsNew
  rw [peL_eq]
  go_enter Tryd.func15, Tryd.ntmps15
  go_wp2
  go_ret
  exact ⟨rfl, rfl⟩
theorem TextsNew.strs {l : List ByteArray} {w : World} (hs : ∀ s ∈ l, s.size ≤ maxLen) : StrsAt (w.alloc (.cells (l.map Value.string).toArray 9)) (w.heap.size + 1) (some ⟨w.heap.size, 0, none⟩) l := by
  refine ⟨⟨by simp, fun hn => ⟨_, _, rfl, by omega, fun j u hu => ?_⟩⟩, hs⟩
  rw [World.cell?_alloc_at _ _ _ _ rfl]
  simpa using hu
end Go.Proofs.YtaollcpoibgblaaDoor
