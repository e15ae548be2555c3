/- The reference's Put (ciceroneref11). -/
import Derived.Test.YtgahopkbgefjdaaRdA
import Derived.Test.YtgahopkbgefjdaaKitP
import Derived.Test.YtgahopkbgefjdaaDcD
namespace Go.Proofs.Ytgahopkbgefjdaa
open Go.ChangeShapes Go.WideShapes Go.ChangeAt Go.RowKit Go.Shelf Go.Lib Go.Sort Go.Proofs
set_option linter.unusedVariables false
set_option linter.unusedSimpArgs false

theorem add3_info : (Try.prog.info? 30).map (fun i => (i.zero, i.size, i.bytes)) = some (some (.agg #[.string ByteArray.empty, .int .i64 0, .int .i64 0]), 3, 32) := by kernel_rfl
theorem add3_one (l : List AddD) : ∀ u ∈ l.flatMap add3, u.oneCell' = true := by
  intro u hu
  obtain ⟨r, _, hr⟩ := List.mem_flatMap.1 hu
  simp [add3] at hr
  rcases hr with rfl | rfl | rfl <;> rfl
theorem add3_one1 (key : ByteArray) (at_ n : Int) : ∀ u ∈ [Value.string key, .int .i64 at_, .int .i64 n], u.oneCell' = true := by
  intro u hu
  simp at hu
  rcases hu with rfl | rfl | rfl <;> rfl

/-- What a Put leaves. -/
def PutNew (w : World) (mb : Nat) (F : Nat → Prop) (hf cnt : Int) (L : List AddD) (a : AddD) (e : Ending) (w' : World) : Prop :=
  e = .returned (.bool (addOk a)) ∧ ∃ F', RcO w' mb F' hf (if addOk a = true then cnt + 1 else cnt) (L ++ [a].filter addOk) ∧ Keeps (fun k => k = mb) w w' ∧ ∀ k, F' k → F k ∨ w.heap.size ≤ k

set_option maxRecDepth 20000 in
set_option maxHeartbeats 4000000 in
theorem rput11_any (mb : Nat) (F : Nat → Prop) (hf cnt : Int) (L : List AddD) (a : AddD) (w : World) (h : RcO w mb F hf cnt L) (hk : (a.key.size : Int) ≤ 4611686018427387904) (hc : cnt < 1048576) (hc0 : 0 ≤ cnt) (hl : (L.length : Int) ≤ 10000) :
    Calls Try.prog 16 #[.pointer (some ⟨mb, 0, none⟩), .agg #[.string a.key, .int .i64 a.at_, .int .i64 a.n]] w (PutNew w mb F hf cnt L a) := by
  obtain ⟨w1, hw1⟩ : ∃ w1, w1 = w.alloc (.cells #[.string a.key, .int .i64 a.at_, .int .i64 a.n] 30) := ⟨_, rfl⟩
  have hb1 : Below w.heap.size w w1 := by rw [hw1]; exact (Below.refl _ _).alloc (Nat.le_refl _) _
  have b0 : w1.cell? ⟨w.heap.size, 0, none⟩ = some (.string a.key) := by rw [hw1]; simp
  have b1 : w1.cell? ⟨w.heap.size, 1, none⟩ = some (.int .i64 a.at_) := by rw [hw1]; simp
  have b2 : w1.cell? ⟨w.heap.size, 2, none⟩ = some (.int .i64 a.n) := by rw [hw1]; simp
  have hz1 : w1.heap.size = w.heap.size + 1 := by rw [hw1]; simp
  have h1 := h.below hb1
  have q := rmay11_any a w1 hk
  have Q := Lib.hid q
  have HFIN : Hid (∀ w', Below w.heap.size w w' → addOk a = false → PutNew w mb F hf cnt L a (.returned (.bool false)) w') := Lib.hid (fun w' hb hno => ⟨by rw [hno], F, by rw [hno, if_neg (by simp), show [a].filter addOk = [] by simp [hno], List.append_nil]; exact h.below hb, Keeps.ofBelow hb _, fun k hk' => .inl hk'⟩)
  clear q h
  obtain ⟨A, c, hR, rfl⟩ := h1
  have HR := Lib.hid hR
  clear hR
  by_cases hok : addOk a = true
  · rw [hok] at Q
    have HOK := Lib.hid hok
    clear hok HFIN
    obtain ⟨key, at_, n⟩ := a
    simp only at *
    go_enter Try.func16, Try.ntmps16
    go_wp2_with fail
    rw [← hw1]
    refine Q.out.mono ?_
    rintro e w2 ⟨rfl, hb2⟩
    have hR2 := HR.out.below hb2
    obtain ⟨⟨d0, d1, d2⟩, -, -⟩ := three_cells hR2.blk
    have hml : mb < w2.heap.size := (Array.getElem?_eq_some_iff.1 hR2.blk).1
    have hml1 : mb < w1.heap.size := (Array.getElem?_eq_some_iff.1 HR.out.blk).1
    replace b0 := (hb2.cell (p := ⟨w.heap.size, 0, none⟩) (by show w.heap.size < _; omega)).trans b0
    replace b1 := (hb2.cell (p := ⟨w.heap.size, 1, none⟩) (by show w.heap.size < _; omega)).trans b1
    replace b2 := (hb2.cell (p := ⟨w.heap.size, 2, none⟩) (by show w.heap.size < _; omega)).trans b2
    have hbl : w.heap.size < w2.heap.size := Nat.lt_of_lt_of_le (by omega) hb2.size
    have hB2 : Below w.heap.size w w2 := hb1.trans (hb2.mono hb1.size)
    have HR2 := Lib.hid hR2
    have HROW2 := Lib.hid hR2.row
    have HNIL := Lib.hid hR2.nil
    have HB2 := Lib.hid hB2
    have hz2 := hB2.size
    clear hb2 hR2 hB2 hb1 Q HR hw1 hz1
    go_wp2_with fail
    refine heldStart 12 (S := fun W => W.cell? ⟨w.heap.size, 0, none⟩ = some (.string key) ∧ W.cell? ⟨w.heap.size, 1, none⟩ = some (.int .i64 at_) ∧ W.cell? ⟨w.heap.size, 2, none⟩ = some (.int .i64 n) ∧ W.cell? ⟨mb, 1, none⟩ = some (.slice A L.length c)) (by kernel_rfl) ?_ (fun hHeld => ?_)
    · exact ⟨(Below.cell (p := ⟨w.heap.size, 0, none⟩) (by repeat (first | exact Below.refl _ _ | exact hB4 | exact hB5 | refine Below.alloc ?_ (by first | (simp; done) | (have := hB4.size; simp; omega) | (have := hB4.size; omega)) _ | refine Below.drew ?_)) hbl).trans b0, (Below.cell (p := ⟨w.heap.size, 1, none⟩) (by repeat (first | exact Below.refl _ _ | exact hB4 | exact hB5 | refine Below.alloc ?_ (by first | (simp; done) | (have := hB4.size; simp; omega) | (have := hB4.size; omega)) _ | refine Below.drew ?_)) hbl).trans b1, (Below.cell (p := ⟨w.heap.size, 2, none⟩) (by repeat (first | exact Below.refl _ _ | exact hB4 | exact hB5 | refine Below.alloc ?_ (by first | (simp; done) | (have := hB4.size; simp; omega) | (have := hB4.size; omega)) _ | refine Below.drew ?_)) hbl).trans b2, (Below.cell (p := ⟨mb, 1, none⟩) (by repeat (first | exact Below.refl _ _ | exact hB4 | exact hB5 | refine Below.alloc ?_ (by first | (simp; done) | (have := hB4.size; simp; omega) | (have := hB4.size; omega)) _ | refine Below.drew ?_)) hml).trans d1⟩
    refine heldTake 0 (v := ?_) (by simp only [List.getElem?_toArray, List.getElem?_cons_succ, List.getElem?_cons_zero]; rfl) (by kernel_rfl) (by intro _ _ _ h; exact h) (by rfl) (by assumption) ?_ ?_
    rotate_left
    · intro W hSw; (try dsimp only at hSw); go_simp; try with_reducible rfl
    simp only [Act.put, List.setIfInBounds_toArray, List.set_cons_zero, List.set_cons_succ]
    refine heldTake 2 (v := ?_) (by simp only [List.getElem?_toArray, List.getElem?_cons_succ, List.getElem?_cons_zero]; rfl) (by kernel_rfl) (by intro _ _ _ h; exact h) (by rfl) (by assumption) ?_ ?_
    rotate_left
    · intro W hSw; (try dsimp only at hSw); go_simp; try with_reducible rfl
    simp only [Act.put, List.setIfInBounds_toArray, List.set_cons_zero, List.set_cons_succ]
    refine heldTake 3 (v := ?_) (by simp only [List.getElem?_toArray, List.getElem?_cons_succ, List.getElem?_cons_zero]; rfl) (by kernel_rfl) (by intro _ _ _ h; exact h) (by rfl) (by assumption) ?_ ?_
    rotate_left
    · intro W hSw; (try dsimp only at hSw); go_simp; try with_reducible rfl
    simp only [Act.put, List.setIfInBounds_toArray, List.set_cons_zero, List.set_cons_succ]
    refine heldTake 4 (v := ?_) (by simp only [List.getElem?_toArray, List.getElem?_cons_succ, List.getElem?_cons_zero]; rfl) (by kernel_rfl) (by intro _ _ _ h; exact h) (by rfl) (by assumption) ?_ ?_
    rotate_left
    · intro W hSw; (try dsimp only at hSw); go_simp; try with_reducible rfl
    simp only [Act.put, List.setIfInBounds_toArray, List.set_cons_zero, List.set_cons_succ]
    refine heldTake 5 (v := ?_) (by simp only [List.getElem?_toArray, List.getElem?_cons_succ, List.getElem?_cons_zero]; rfl) (by kernel_rfl) (by intro _ _ _ h; exact h) (by rfl) (by assumption) ?_ ?_
    rotate_left
    · intro W hSw; (try dsimp only at hSw); go_simp; try with_reducible rfl
    simp only [Act.put, List.setIfInBounds_toArray, List.set_cons_zero, List.set_cons_succ]
    refine heldTake 7 (v := ?_) (by simp only [List.getElem?_toArray, List.getElem?_cons_succ, List.getElem?_cons_zero]; rfl) (by kernel_rfl) (by intro _ _ _ h; exact h) (by rfl) (by assumption) ?_ ?_
    rotate_left
    · intro W hSw; (try dsimp only at hSw); go_simp; try with_reducible rfl
    simp only [Act.put, List.setIfInBounds_toArray, List.set_cons_zero, List.set_cons_succ]
    refine heldFork 1 8 (by kernel_rfl) ?_ ?_
    · refine heldOp 1 (by simp only [List.getElem?_toArray, List.getElem?_cons_succ, List.getElem?_cons_zero]; rfl) (fun K hK => ?_)
      go_simp
      refine hK.out _ _ ?_ (fun hHeld => ?_)
      · exact ⟨(Below.cell (p := ⟨w.heap.size, 0, none⟩) (by repeat (first | exact Below.refl _ _ | exact hB4 | exact hB5 | refine Below.alloc ?_ (by first | (simp; done) | (have := hB4.size; simp; omega) | (have := hB4.size; omega)) _ | refine Below.drew ?_)) hbl).trans b0, (Below.cell (p := ⟨w.heap.size, 1, none⟩) (by repeat (first | exact Below.refl _ _ | exact hB4 | exact hB5 | refine Below.alloc ?_ (by first | (simp; done) | (have := hB4.size; simp; omega) | (have := hB4.size; omega)) _ | refine Below.drew ?_)) hbl).trans b1, (Below.cell (p := ⟨w.heap.size, 2, none⟩) (by repeat (first | exact Below.refl _ _ | exact hB4 | exact hB5 | refine Below.alloc ?_ (by first | (simp; done) | (have := hB4.size; simp; omega) | (have := hB4.size; omega)) _ | refine Below.drew ?_)) hbl).trans b2, (Below.cell (p := ⟨mb, 1, none⟩) (by repeat (first | exact Below.refl _ _ | exact hB4 | exact hB5 | refine Below.alloc ?_ (by first | (simp; done) | (have := hB4.size; simp; omega) | (have := hB4.size; omega)) _ | refine Below.drew ?_)) hml).trans d1⟩
      clear hK K
      (try simp only [Act.put, List.setIfInBounds_toArray, List.set_cons_zero, List.set_cons_succ])
      refine heldFork 6 8 (by kernel_rfl) ?_ ?_
      · refine heldOpLaw 6 (by simp only [List.getElem?_toArray, List.getElem?_cons_succ, List.getElem?_cons_zero]; rfl) (by rfl) (fun K hK => ?_)
        refine wp_append_to _ (.tmp 16) (.tmp 20) _ rfl w2.heap.size 30 (.agg #[.string ByteArray.empty, .int .i64 0, .int .i64 0]) 3 32 Try.underlying37 add3_info rfl (by omega) (some ⟨_, 0, none⟩) 0 0 [] rfl (own_empty (by simp) (by first | exact heapN1 _ _ | exact heapN3 _ _ _ | exact heapN2 _ _ _)) A w2.heap.size L.length c (L.flatMap add3) rfl (HROW2.out.below (by repeat (first | exact Below.refl _ _ | exact hB4 | exact hB5 | refine Below.alloc ?_ (by first | (simp; done) | (have := hB4.size; simp; omega) | (have := hB4.size; omega)) _ | refine Below.drew ?_))) HNIL.out (add3_one _) L.length (by omega) (by unfold maxLen; omega) (by omega) (by first | (simp; done) | (simp; omega)) ?_
        intro A4 c4 w4 hown4 hg4 hb4
        have hB4 : Below w2.heap.size w2 w4 := Below.trans (by repeat (first | exact Below.refl _ _ | exact hB4 | exact hB5 | refine Below.alloc ?_ (by first | (simp; done) | (have := hB4.size; simp; omega) | (have := hB4.size; omega)) _ | refine Below.drew ?_)) hb4
        simp only [List.nil_append] at hown4
        refine hK.out _ _ ?_ (fun hHeld => ?_)
        · exact ⟨(Below.cell (p := ⟨w.heap.size, 0, none⟩) (by repeat (first | exact Below.refl _ _ | exact hB4 | exact hB5 | refine Below.alloc ?_ (by first | (simp; done) | (have := hB4.size; simp; omega) | (have := hB4.size; omega)) _ | refine Below.drew ?_)) hbl).trans b0, (Below.cell (p := ⟨w.heap.size, 1, none⟩) (by repeat (first | exact Below.refl _ _ | exact hB4 | exact hB5 | refine Below.alloc ?_ (by first | (simp; done) | (have := hB4.size; simp; omega) | (have := hB4.size; omega)) _ | refine Below.drew ?_)) hbl).trans b1, (Below.cell (p := ⟨w.heap.size, 2, none⟩) (by repeat (first | exact Below.refl _ _ | exact hB4 | exact hB5 | refine Below.alloc ?_ (by first | (simp; done) | (have := hB4.size; simp; omega) | (have := hB4.size; omega)) _ | refine Below.drew ?_)) hbl).trans b2, (Below.cell (p := ⟨mb, 1, none⟩) (by repeat (first | exact Below.refl _ _ | exact hB4 | exact hB5 | refine Below.alloc ?_ (by first | (simp; done) | (have := hB4.size; simp; omega) | (have := hB4.size; omega)) _ | refine Below.drew ?_)) hml).trans d1⟩
        clear hK K
        (try simp only [Act.put, List.setIfInBounds_toArray, List.set_cons_zero, List.set_cons_succ])
        refine heldCall 8 (by simp only [List.getElem?_toArray, List.getElem?_cons_succ, List.getElem?_cons_zero]; rfl) (by kernel_rfl) (fun K hK => ?_)
        go_simp
        refine hK.out _ _ ?_ (fun hHeld => ?_)
        · exact ⟨(Below.cell (p := ⟨w.heap.size, 0, none⟩) (by repeat (first | exact Below.refl _ _ | exact hB4 | exact hB5 | refine Below.alloc ?_ (by first | (simp; done) | (have := hB4.size; simp; omega) | (have := hB4.size; omega)) _ | refine Below.drew ?_)) hbl).trans b0, (Below.cell (p := ⟨w.heap.size, 1, none⟩) (by repeat (first | exact Below.refl _ _ | exact hB4 | exact hB5 | refine Below.alloc ?_ (by first | (simp; done) | (have := hB4.size; simp; omega) | (have := hB4.size; omega)) _ | refine Below.drew ?_)) hbl).trans b1, (Below.cell (p := ⟨w.heap.size, 2, none⟩) (by repeat (first | exact Below.refl _ _ | exact hB4 | exact hB5 | refine Below.alloc ?_ (by first | (simp; done) | (have := hB4.size; simp; omega) | (have := hB4.size; omega)) _ | refine Below.drew ?_)) hbl).trans b2, (Below.cell (p := ⟨mb, 1, none⟩) (by repeat (first | exact Below.refl _ _ | exact hB4 | exact hB5 | refine Below.alloc ?_ (by first | (simp; done) | (have := hB4.size; simp; omega) | (have := hB4.size; omega)) _ | refine Below.drew ?_)) hml).trans d1⟩
        clear hK K
        (try simp only [Act.put, List.setIfInBounds_toArray, List.set_cons_zero, List.set_cons_succ])
        refine heldLaw 9 (by simp only [List.getElem?_toArray, List.getElem?_cons_succ, List.getElem?_cons_zero]; rfl) (by kernel_rfl) (by rfl) (fun K hK => ?_)
        refine wp_append_to _ (.tmp 21) (.tmp 23) _ rfl w2.heap.size 30 (.agg #[.string ByteArray.empty, .int .i64 0, .int .i64 0]) 3 32 Try.underlying37 add3_info rfl (by omega) A4 L.length c4 (L.flatMap add3) rfl (hown4.alloc _) (some ⟨_, 0, none⟩) _ 1 1 [.string key, .int .i64 at_, .int .i64 n] rfl (reads_blk (t := 30) (fr := (0, 0)) (heapM1 _ _) rfl) (fun h => by cases h) (add3_one1 key at_ n) (L.length + 1) rfl (by unfold maxLen; omega) (by omega) (by have := hB4.size; first | (simp; done) | (simp; omega) | omega) ?_
        intro A5 c5 w5 hown5 hg5 hb5
        have hB5 : Below w2.heap.size w2 w5 := Below.trans (by repeat (first | exact Below.refl _ _ | exact hB4 | exact hB5 | refine Below.alloc ?_ (by first | (simp; done) | (have := hB4.size; simp; omega) | (have := hB4.size; omega)) _ | refine Below.drew ?_)) hb5
        refine hK.out _ _ ?_ (fun hHeld => ?_)
        · exact ⟨(Below.cell (p := ⟨w.heap.size, 0, none⟩) (by repeat (first | exact Below.refl _ _ | exact hB4 | exact hB5 | refine Below.alloc ?_ (by first | (simp; done) | (have := hB4.size; simp; omega) | (have := hB4.size; omega)) _ | refine Below.drew ?_)) hbl).trans b0, (Below.cell (p := ⟨w.heap.size, 1, none⟩) (by repeat (first | exact Below.refl _ _ | exact hB4 | exact hB5 | refine Below.alloc ?_ (by first | (simp; done) | (have := hB4.size; simp; omega) | (have := hB4.size; omega)) _ | refine Below.drew ?_)) hbl).trans b1, (Below.cell (p := ⟨w.heap.size, 2, none⟩) (by repeat (first | exact Below.refl _ _ | exact hB4 | exact hB5 | refine Below.alloc ?_ (by first | (simp; done) | (have := hB4.size; simp; omega) | (have := hB4.size; omega)) _ | refine Below.drew ?_)) hbl).trans b2, (Below.cell (p := ⟨mb, 1, none⟩) (by repeat (first | exact Below.refl _ _ | exact hB4 | exact hB5 | refine Below.alloc ?_ (by first | (simp; done) | (have := hB4.size; simp; omega) | (have := hB4.size; omega)) _ | refine Below.drew ?_)) hml).trans d1⟩
        clear hK K
        (try simp only [Act.put, List.setIfInBounds_toArray, List.set_cons_zero, List.set_cons_succ])
        refine heldTake 10 (v := ?_) (by simp only [List.getElem?_toArray, List.getElem?_cons_succ, List.getElem?_cons_zero]; rfl) (by kernel_rfl) (by intro _ _ _ h; exact h) (by rfl) (by assumption) ?_ ?_
        rotate_left
        · intro W hSw; (try dsimp only at hSw); go_simp; try with_reducible rfl
        simp only [Act.put, List.setIfInBounds_toArray, List.set_cons_zero, List.set_cons_succ]
        refine heldTake 11 (v := ?_) (by simp only [List.getElem?_toArray, List.getElem?_cons_succ, List.getElem?_cons_zero]; rfl) (by kernel_rfl) (by intro _ _ _ h; exact h) (by rfl) (by assumption) ?_ ?_
        rotate_left
        · intro W hSw; (try dsimp only at hSw); go_simp; try with_reducible rfl
        simp only [Act.put, List.setIfInBounds_toArray, List.set_cons_zero, List.set_cons_succ]
        refine heldLast 12 (by simp only [List.getElem?_toArray, List.getElem?_cons_succ, List.getElem?_cons_zero]; rfl) (by kernel_rfl) rfl (fun K hK => ?_)
        have hR5 : RcB w5 mb hf A L.length c cnt := (hB5.block mb hml).trans HR2.out.blk
        obtain ⟨⟨x0, x1, x2⟩, y1, y2⟩ := three_cells hR5
        have HR5 := Lib.hid hR5
        clear hR5
        go_simp
        refine hK.out _ _ ?_
        clear hK K
        (try simp only [Act.put, List.setIfInBounds_toArray, List.set_cons_zero, List.set_cons_succ])
        refine heldDone (by kernel_rfl) ?_ _
        have hR6 : RcB (w5.setCell ⟨mb, 1, none⟩ (.slice A5 (L.length + 1) c5)) mb hf A5 (L.length + 1) c5 cnt := (three_set HR5.out).1 _
        have hk6 : Keeps (fun k => k = mb) w (w5.setCell ⟨mb, 1, none⟩ (.slice A5 (L.length + 1) c5)) := Keeps.setCell (F := fun k => k = mb) (p := ⟨mb, 1, none⟩) (Keeps.ofBelow (HB2.out.trans (hB5.mono hz2)) (fun k => k = mb)) (.inr rfl) _
        have hown6 := ownsRow_setCell_below (a := ⟨mb, 1, none⟩) hown5 (show mb < w2.heap.size from hml) (.slice A5 (L.length + 1) c5)
        have HK6 := Lib.hid hk6
        have HOWN6 := Lib.hid hown6
        have HR6 := Lib.hid hR6
        clear hk6 hown6 hR6 hown5 hown4 hg4 hg5 hb4 hb5 hB4 hB5 x0 x1 x2 y1 y2 b0 b1 b2 d0 d1 d2
        generalize w5.setCell ⟨mb, 1, none⟩ (.slice A5 (L.length + 1) c5) = w6 at *
        obtain ⟨⟨x0, x1, x2⟩, y1, y2⟩ := three_cells HR6.out
        have fin : PutNew w mb (fun k => k = mb ∨ rowF A k) hf cnt L ⟨key, at_, n⟩ (.returned (.bool true)) (w6.setCell ⟨mb, 2, none⟩ (.int .i64 (cnt + 1))) := by
          refine ⟨by rw [HOK.out], fun k => k = mb ∨ rowF A5 k, ⟨A5, c5, ⟨?_, ?_, ?_, ?_, ?_⟩, rfl⟩, Keeps.setCell (F := fun k => k = mb) (p := ⟨mb, 2, none⟩) HK6.out (.inr rfl) _, ?_⟩
          · have := (three_set HR6.out).2 (.int .i64 (cnt + 1))
            rw [HOK.out, if_pos rfl, show [(⟨key, at_, n⟩ : AddD)].filter addOk = [⟨key, at_, n⟩] by simp [HOK.out], List.length_append]
            exact this
          · have := ownsRow_setCell_below (a := ⟨mb, 2, none⟩) HOWN6.out (show mb < w2.heap.size from hml) (.int .i64 (cnt + 1))
            rw [show [(⟨key, at_, n⟩ : AddD)].filter addOk = [⟨key, at_, n⟩] by simp [HOK.out]]
            unfold AddsAt3
            rw [List.length_append, List.flatMap_append]
            exact Reads.of_own this
          · intro hnil
            have := own_capC HOWN6.out
            subst hnil
            rcases HOWN6.out.2 with ⟨h0, _⟩ | ⟨g, cap, cur, hv, _⟩
            · injection h0 with e1 e2 e3
            · injection hv with e1 e2 e3
              cases e1
          · rintro ⟨o, sp, rfl⟩
            have := HOWN6.out.lt mb rfl
            omega
          · rintro k ⟨o, sp, rfl⟩
            have := HOWN6.out.lt k rfl
            have e : (w6.setCell ⟨mb, 2, none⟩ (.int .i64 (cnt + 1))).heap.size = w6.heap.size := by simp [World.setCell]
            rw [e]
            exact this.2
          · rintro k (rfl | ⟨o, sp, rfl⟩)
            · exact .inl (.inl rfl)
            · have := HOWN6.out.lt k rfl
              exact .inr (by omega)
        have FIN := Lib.hid fin
        clear fin
        have hw3 : wrap64 (cnt + 1) = cnt + 1 := by unfold wrap64; omega
        go_wp2
        go_ret
        exact FIN.out
      · refine heldOp 8 (by simp only [List.getElem?_toArray, List.getElem?_cons_succ, List.getElem?_cons_zero]; rfl) (fun K hK => ?_)
        go_simp
        refine hK.out _ _ ?_ (fun hHeld => ?_)
        · exact ⟨(Below.cell (p := ⟨w.heap.size, 0, none⟩) (by repeat (first | exact Below.refl _ _ | exact hB4 | exact hB5 | refine Below.alloc ?_ (by first | (simp; done) | (have := hB4.size; simp; omega) | (have := hB4.size; omega)) _ | refine Below.drew ?_)) hbl).trans b0, (Below.cell (p := ⟨w.heap.size, 1, none⟩) (by repeat (first | exact Below.refl _ _ | exact hB4 | exact hB5 | refine Below.alloc ?_ (by first | (simp; done) | (have := hB4.size; simp; omega) | (have := hB4.size; omega)) _ | refine Below.drew ?_)) hbl).trans b1, (Below.cell (p := ⟨w.heap.size, 2, none⟩) (by repeat (first | exact Below.refl _ _ | exact hB4 | exact hB5 | refine Below.alloc ?_ (by first | (simp; done) | (have := hB4.size; simp; omega) | (have := hB4.size; omega)) _ | refine Below.drew ?_)) hbl).trans b2, (Below.cell (p := ⟨mb, 1, none⟩) (by repeat (first | exact Below.refl _ _ | exact hB4 | exact hB5 | refine Below.alloc ?_ (by first | (simp; done) | (have := hB4.size; simp; omega) | (have := hB4.size; omega)) _ | refine Below.drew ?_)) hml).trans d1⟩
        clear hK K
        (try simp only [Act.put, List.setIfInBounds_toArray, List.set_cons_zero, List.set_cons_succ])
        refine heldLaw 6 (by simp only [List.getElem?_toArray, List.getElem?_cons_succ, List.getElem?_cons_zero]; rfl) (by kernel_rfl) (by rfl) (fun K hK => ?_)
        refine wp_append_to _ (.tmp 16) (.tmp 20) _ rfl w2.heap.size 30 (.agg #[.string ByteArray.empty, .int .i64 0, .int .i64 0]) 3 32 Try.underlying37 add3_info rfl (by omega) (some ⟨_, 0, none⟩) 0 0 [] rfl (own_empty (by simp) (by first | exact heapN1 _ _ | exact heapN3 _ _ _ | exact heapN2 _ _ _)) A w2.heap.size L.length c (L.flatMap add3) rfl (HROW2.out.below (by repeat (first | exact Below.refl _ _ | exact hB4 | exact hB5 | refine Below.alloc ?_ (by first | (simp; done) | (have := hB4.size; simp; omega) | (have := hB4.size; omega)) _ | refine Below.drew ?_))) HNIL.out (add3_one _) L.length (by omega) (by unfold maxLen; omega) (by omega) (by first | (simp; done) | (simp; omega)) ?_
        intro A4 c4 w4 hown4 hg4 hb4
        have hB4 : Below w2.heap.size w2 w4 := Below.trans (by repeat (first | exact Below.refl _ _ | exact hB4 | exact hB5 | refine Below.alloc ?_ (by first | (simp; done) | (have := hB4.size; simp; omega) | (have := hB4.size; omega)) _ | refine Below.drew ?_)) hb4
        simp only [List.nil_append] at hown4
        refine hK.out _ _ ?_ (fun hHeld => ?_)
        · exact ⟨(Below.cell (p := ⟨w.heap.size, 0, none⟩) (by repeat (first | exact Below.refl _ _ | exact hB4 | exact hB5 | refine Below.alloc ?_ (by first | (simp; done) | (have := hB4.size; simp; omega) | (have := hB4.size; omega)) _ | refine Below.drew ?_)) hbl).trans b0, (Below.cell (p := ⟨w.heap.size, 1, none⟩) (by repeat (first | exact Below.refl _ _ | exact hB4 | exact hB5 | refine Below.alloc ?_ (by first | (simp; done) | (have := hB4.size; simp; omega) | (have := hB4.size; omega)) _ | refine Below.drew ?_)) hbl).trans b1, (Below.cell (p := ⟨w.heap.size, 2, none⟩) (by repeat (first | exact Below.refl _ _ | exact hB4 | exact hB5 | refine Below.alloc ?_ (by first | (simp; done) | (have := hB4.size; simp; omega) | (have := hB4.size; omega)) _ | refine Below.drew ?_)) hbl).trans b2, (Below.cell (p := ⟨mb, 1, none⟩) (by repeat (first | exact Below.refl _ _ | exact hB4 | exact hB5 | refine Below.alloc ?_ (by first | (simp; done) | (have := hB4.size; simp; omega) | (have := hB4.size; omega)) _ | refine Below.drew ?_)) hml).trans d1⟩
        clear hK K
        (try simp only [Act.put, List.setIfInBounds_toArray, List.set_cons_zero, List.set_cons_succ])
        refine heldLaw 9 (by simp only [List.getElem?_toArray, List.getElem?_cons_succ, List.getElem?_cons_zero]; rfl) (by kernel_rfl) (by rfl) (fun K hK => ?_)
        refine wp_append_to _ (.tmp 21) (.tmp 23) _ rfl w2.heap.size 30 (.agg #[.string ByteArray.empty, .int .i64 0, .int .i64 0]) 3 32 Try.underlying37 add3_info rfl (by omega) A4 L.length c4 (L.flatMap add3) rfl hown4 (some ⟨_, 0, none⟩) _ 1 1 [.string key, .int .i64 at_, .int .i64 n] rfl (reads_blk (t := 30) (fr := (0, 0)) ((hg4.block _ (by first | (simp; done) | (simp; omega)) (by simp [Value.ownBlock])).trans (by first | exact heapN2 _ _ _ | exact heapN3 _ _ _)) rfl) (fun h => by cases h) (add3_one1 key at_ n) (L.length + 1) rfl (by unfold maxLen; omega) (by omega) (by have := hB4.size; first | (simp; done) | (simp; omega) | omega) ?_
        intro A5 c5 w5 hown5 hg5 hb5
        have hB5 : Below w2.heap.size w2 w5 := Below.trans (by repeat (first | exact Below.refl _ _ | exact hB4 | exact hB5 | refine Below.alloc ?_ (by first | (simp; done) | (have := hB4.size; simp; omega) | (have := hB4.size; omega)) _ | refine Below.drew ?_)) hb5
        refine hK.out _ _ ?_ (fun hHeld => ?_)
        · exact ⟨(Below.cell (p := ⟨w.heap.size, 0, none⟩) (by repeat (first | exact Below.refl _ _ | exact hB4 | exact hB5 | refine Below.alloc ?_ (by first | (simp; done) | (have := hB4.size; simp; omega) | (have := hB4.size; omega)) _ | refine Below.drew ?_)) hbl).trans b0, (Below.cell (p := ⟨w.heap.size, 1, none⟩) (by repeat (first | exact Below.refl _ _ | exact hB4 | exact hB5 | refine Below.alloc ?_ (by first | (simp; done) | (have := hB4.size; simp; omega) | (have := hB4.size; omega)) _ | refine Below.drew ?_)) hbl).trans b1, (Below.cell (p := ⟨w.heap.size, 2, none⟩) (by repeat (first | exact Below.refl _ _ | exact hB4 | exact hB5 | refine Below.alloc ?_ (by first | (simp; done) | (have := hB4.size; simp; omega) | (have := hB4.size; omega)) _ | refine Below.drew ?_)) hbl).trans b2, (Below.cell (p := ⟨mb, 1, none⟩) (by repeat (first | exact Below.refl _ _ | exact hB4 | exact hB5 | refine Below.alloc ?_ (by first | (simp; done) | (have := hB4.size; simp; omega) | (have := hB4.size; omega)) _ | refine Below.drew ?_)) hml).trans d1⟩
        clear hK K
        (try simp only [Act.put, List.setIfInBounds_toArray, List.set_cons_zero, List.set_cons_succ])
        refine heldTake 10 (v := ?_) (by simp only [List.getElem?_toArray, List.getElem?_cons_succ, List.getElem?_cons_zero]; rfl) (by kernel_rfl) (by intro _ _ _ h; exact h) (by rfl) (by assumption) ?_ ?_
        rotate_left
        · intro W hSw; (try dsimp only at hSw); go_simp; try with_reducible rfl
        simp only [Act.put, List.setIfInBounds_toArray, List.set_cons_zero, List.set_cons_succ]
        refine heldTake 11 (v := ?_) (by simp only [List.getElem?_toArray, List.getElem?_cons_succ, List.getElem?_cons_zero]; rfl) (by kernel_rfl) (by intro _ _ _ h; exact h) (by rfl) (by assumption) ?_ ?_
        rotate_left
        · intro W hSw; (try dsimp only at hSw); go_simp; try with_reducible rfl
        simp only [Act.put, List.setIfInBounds_toArray, List.set_cons_zero, List.set_cons_succ]
        refine heldLast 12 (by simp only [List.getElem?_toArray, List.getElem?_cons_succ, List.getElem?_cons_zero]; rfl) (by kernel_rfl) rfl (fun K hK => ?_)
        have hR5 : RcB w5 mb hf A L.length c cnt := (hB5.block mb hml).trans HR2.out.blk
        obtain ⟨⟨x0, x1, x2⟩, y1, y2⟩ := three_cells hR5
        have HR5 := Lib.hid hR5
        clear hR5
        go_simp
        refine hK.out _ _ ?_
        clear hK K
        (try simp only [Act.put, List.setIfInBounds_toArray, List.set_cons_zero, List.set_cons_succ])
        refine heldDone (by kernel_rfl) ?_ _
        have hR6 : RcB (w5.setCell ⟨mb, 1, none⟩ (.slice A5 (L.length + 1) c5)) mb hf A5 (L.length + 1) c5 cnt := (three_set HR5.out).1 _
        have hk6 : Keeps (fun k => k = mb) w (w5.setCell ⟨mb, 1, none⟩ (.slice A5 (L.length + 1) c5)) := Keeps.setCell (F := fun k => k = mb) (p := ⟨mb, 1, none⟩) (Keeps.ofBelow (HB2.out.trans (hB5.mono hz2)) (fun k => k = mb)) (.inr rfl) _
        have hown6 := ownsRow_setCell_below (a := ⟨mb, 1, none⟩) hown5 (show mb < w2.heap.size from hml) (.slice A5 (L.length + 1) c5)
        have HK6 := Lib.hid hk6
        have HOWN6 := Lib.hid hown6
        have HR6 := Lib.hid hR6
        clear hk6 hown6 hR6 hown5 hown4 hg4 hg5 hb4 hb5 hB4 hB5 x0 x1 x2 y1 y2 b0 b1 b2 d0 d1 d2
        generalize w5.setCell ⟨mb, 1, none⟩ (.slice A5 (L.length + 1) c5) = w6 at *
        obtain ⟨⟨x0, x1, x2⟩, y1, y2⟩ := three_cells HR6.out
        have fin : PutNew w mb (fun k => k = mb ∨ rowF A k) hf cnt L ⟨key, at_, n⟩ (.returned (.bool true)) (w6.setCell ⟨mb, 2, none⟩ (.int .i64 (cnt + 1))) := by
          refine ⟨by rw [HOK.out], fun k => k = mb ∨ rowF A5 k, ⟨A5, c5, ⟨?_, ?_, ?_, ?_, ?_⟩, rfl⟩, Keeps.setCell (F := fun k => k = mb) (p := ⟨mb, 2, none⟩) HK6.out (.inr rfl) _, ?_⟩
          · have := (three_set HR6.out).2 (.int .i64 (cnt + 1))
            rw [HOK.out, if_pos rfl, show [(⟨key, at_, n⟩ : AddD)].filter addOk = [⟨key, at_, n⟩] by simp [HOK.out], List.length_append]
            exact this
          · have := ownsRow_setCell_below (a := ⟨mb, 2, none⟩) HOWN6.out (show mb < w2.heap.size from hml) (.int .i64 (cnt + 1))
            rw [show [(⟨key, at_, n⟩ : AddD)].filter addOk = [⟨key, at_, n⟩] by simp [HOK.out]]
            unfold AddsAt3
            rw [List.length_append, List.flatMap_append]
            exact Reads.of_own this
          · intro hnil
            have := own_capC HOWN6.out
            subst hnil
            rcases HOWN6.out.2 with ⟨h0, _⟩ | ⟨g, cap, cur, hv, _⟩
            · injection h0 with e1 e2 e3
            · injection hv with e1 e2 e3
              cases e1
          · rintro ⟨o, sp, rfl⟩
            have := HOWN6.out.lt mb rfl
            omega
          · rintro k ⟨o, sp, rfl⟩
            have := HOWN6.out.lt k rfl
            have e : (w6.setCell ⟨mb, 2, none⟩ (.int .i64 (cnt + 1))).heap.size = w6.heap.size := by simp [World.setCell]
            rw [e]
            exact this.2
          · rintro k (rfl | ⟨o, sp, rfl⟩)
            · exact .inl (.inl rfl)
            · have := HOWN6.out.lt k rfl
              exact .inr (by omega)
        have FIN := Lib.hid fin
        clear fin
        have hw3 : wrap64 (cnt + 1) = cnt + 1 := by unfold wrap64; omega
        go_wp2
        go_ret
        exact FIN.out
    · refine heldOp 8 (by simp only [List.getElem?_toArray, List.getElem?_cons_succ, List.getElem?_cons_zero]; rfl) (fun K hK => ?_)
      go_simp
      refine hK.out _ _ ?_ (fun hHeld => ?_)
      · exact ⟨(Below.cell (p := ⟨w.heap.size, 0, none⟩) (by repeat (first | exact Below.refl _ _ | exact hB4 | exact hB5 | refine Below.alloc ?_ (by first | (simp; done) | (have := hB4.size; simp; omega) | (have := hB4.size; omega)) _ | refine Below.drew ?_)) hbl).trans b0, (Below.cell (p := ⟨w.heap.size, 1, none⟩) (by repeat (first | exact Below.refl _ _ | exact hB4 | exact hB5 | refine Below.alloc ?_ (by first | (simp; done) | (have := hB4.size; simp; omega) | (have := hB4.size; omega)) _ | refine Below.drew ?_)) hbl).trans b1, (Below.cell (p := ⟨w.heap.size, 2, none⟩) (by repeat (first | exact Below.refl _ _ | exact hB4 | exact hB5 | refine Below.alloc ?_ (by first | (simp; done) | (have := hB4.size; simp; omega) | (have := hB4.size; omega)) _ | refine Below.drew ?_)) hbl).trans b2, (Below.cell (p := ⟨mb, 1, none⟩) (by repeat (first | exact Below.refl _ _ | exact hB4 | exact hB5 | refine Below.alloc ?_ (by first | (simp; done) | (have := hB4.size; simp; omega) | (have := hB4.size; omega)) _ | refine Below.drew ?_)) hml).trans d1⟩
      clear hK K
      (try simp only [Act.put, List.setIfInBounds_toArray, List.set_cons_zero, List.set_cons_succ])
      refine heldCall 1 (by simp only [List.getElem?_toArray, List.getElem?_cons_succ, List.getElem?_cons_zero]; rfl) (by kernel_rfl) (fun K hK => ?_)
      go_simp
      refine hK.out _ _ ?_ (fun hHeld => ?_)
      · exact ⟨(Below.cell (p := ⟨w.heap.size, 0, none⟩) (by repeat (first | exact Below.refl _ _ | exact hB4 | exact hB5 | refine Below.alloc ?_ (by first | (simp; done) | (have := hB4.size; simp; omega) | (have := hB4.size; omega)) _ | refine Below.drew ?_)) hbl).trans b0, (Below.cell (p := ⟨w.heap.size, 1, none⟩) (by repeat (first | exact Below.refl _ _ | exact hB4 | exact hB5 | refine Below.alloc ?_ (by first | (simp; done) | (have := hB4.size; simp; omega) | (have := hB4.size; omega)) _ | refine Below.drew ?_)) hbl).trans b1, (Below.cell (p := ⟨w.heap.size, 2, none⟩) (by repeat (first | exact Below.refl _ _ | exact hB4 | exact hB5 | refine Below.alloc ?_ (by first | (simp; done) | (have := hB4.size; simp; omega) | (have := hB4.size; omega)) _ | refine Below.drew ?_)) hbl).trans b2, (Below.cell (p := ⟨mb, 1, none⟩) (by repeat (first | exact Below.refl _ _ | exact hB4 | exact hB5 | refine Below.alloc ?_ (by first | (simp; done) | (have := hB4.size; simp; omega) | (have := hB4.size; omega)) _ | refine Below.drew ?_)) hml).trans d1⟩
      clear hK K
      (try simp only [Act.put, List.setIfInBounds_toArray, List.set_cons_zero, List.set_cons_succ])
      refine heldLaw 6 (by simp only [List.getElem?_toArray, List.getElem?_cons_succ, List.getElem?_cons_zero]; rfl) (by kernel_rfl) (by rfl) (fun K hK => ?_)
      refine wp_append_to _ (.tmp 16) (.tmp 20) _ rfl w2.heap.size 30 (.agg #[.string ByteArray.empty, .int .i64 0, .int .i64 0]) 3 32 Try.underlying37 add3_info rfl (by omega) (some ⟨_, 0, none⟩) 0 0 [] rfl (own_empty (by simp) (by first | exact heapN1 _ _ | exact heapN3 _ _ _ | exact heapN2 _ _ _)) A w2.heap.size L.length c (L.flatMap add3) rfl (HROW2.out.below (by repeat (first | exact Below.refl _ _ | exact hB4 | exact hB5 | refine Below.alloc ?_ (by first | (simp; done) | (have := hB4.size; simp; omega) | (have := hB4.size; omega)) _ | refine Below.drew ?_))) HNIL.out (add3_one _) L.length (by omega) (by unfold maxLen; omega) (by omega) (by first | (simp; done) | (simp; omega)) ?_
      intro A4 c4 w4 hown4 hg4 hb4
      have hB4 : Below w2.heap.size w2 w4 := Below.trans (by repeat (first | exact Below.refl _ _ | exact hB4 | exact hB5 | refine Below.alloc ?_ (by first | (simp; done) | (have := hB4.size; simp; omega) | (have := hB4.size; omega)) _ | refine Below.drew ?_)) hb4
      simp only [List.nil_append] at hown4
      refine hK.out _ _ ?_ (fun hHeld => ?_)
      · exact ⟨(Below.cell (p := ⟨w.heap.size, 0, none⟩) (by repeat (first | exact Below.refl _ _ | exact hB4 | exact hB5 | refine Below.alloc ?_ (by first | (simp; done) | (have := hB4.size; simp; omega) | (have := hB4.size; omega)) _ | refine Below.drew ?_)) hbl).trans b0, (Below.cell (p := ⟨w.heap.size, 1, none⟩) (by repeat (first | exact Below.refl _ _ | exact hB4 | exact hB5 | refine Below.alloc ?_ (by first | (simp; done) | (have := hB4.size; simp; omega) | (have := hB4.size; omega)) _ | refine Below.drew ?_)) hbl).trans b1, (Below.cell (p := ⟨w.heap.size, 2, none⟩) (by repeat (first | exact Below.refl _ _ | exact hB4 | exact hB5 | refine Below.alloc ?_ (by first | (simp; done) | (have := hB4.size; simp; omega) | (have := hB4.size; omega)) _ | refine Below.drew ?_)) hbl).trans b2, (Below.cell (p := ⟨mb, 1, none⟩) (by repeat (first | exact Below.refl _ _ | exact hB4 | exact hB5 | refine Below.alloc ?_ (by first | (simp; done) | (have := hB4.size; simp; omega) | (have := hB4.size; omega)) _ | refine Below.drew ?_)) hml).trans d1⟩
      clear hK K
      (try simp only [Act.put, List.setIfInBounds_toArray, List.set_cons_zero, List.set_cons_succ])
      refine heldLaw 9 (by simp only [List.getElem?_toArray, List.getElem?_cons_succ, List.getElem?_cons_zero]; rfl) (by kernel_rfl) (by rfl) (fun K hK => ?_)
      refine wp_append_to _ (.tmp 21) (.tmp 23) _ rfl w2.heap.size 30 (.agg #[.string ByteArray.empty, .int .i64 0, .int .i64 0]) 3 32 Try.underlying37 add3_info rfl (by omega) A4 L.length c4 (L.flatMap add3) rfl hown4 (some ⟨_, 0, none⟩) _ 1 1 [.string key, .int .i64 at_, .int .i64 n] rfl (reads_blk (t := 30) (fr := (0, 0)) ((hg4.block _ (by first | (simp; done) | (simp; omega)) (by simp [Value.ownBlock])).trans (by first | exact heapN2 _ _ _ | exact heapN3 _ _ _)) rfl) (fun h => by cases h) (add3_one1 key at_ n) (L.length + 1) rfl (by unfold maxLen; omega) (by omega) (by have := hB4.size; first | (simp; done) | (simp; omega) | omega) ?_
      intro A5 c5 w5 hown5 hg5 hb5
      have hB5 : Below w2.heap.size w2 w5 := Below.trans (by repeat (first | exact Below.refl _ _ | exact hB4 | exact hB5 | refine Below.alloc ?_ (by first | (simp; done) | (have := hB4.size; simp; omega) | (have := hB4.size; omega)) _ | refine Below.drew ?_)) hb5
      refine hK.out _ _ ?_ (fun hHeld => ?_)
      · exact ⟨(Below.cell (p := ⟨w.heap.size, 0, none⟩) (by repeat (first | exact Below.refl _ _ | exact hB4 | exact hB5 | refine Below.alloc ?_ (by first | (simp; done) | (have := hB4.size; simp; omega) | (have := hB4.size; omega)) _ | refine Below.drew ?_)) hbl).trans b0, (Below.cell (p := ⟨w.heap.size, 1, none⟩) (by repeat (first | exact Below.refl _ _ | exact hB4 | exact hB5 | refine Below.alloc ?_ (by first | (simp; done) | (have := hB4.size; simp; omega) | (have := hB4.size; omega)) _ | refine Below.drew ?_)) hbl).trans b1, (Below.cell (p := ⟨w.heap.size, 2, none⟩) (by repeat (first | exact Below.refl _ _ | exact hB4 | exact hB5 | refine Below.alloc ?_ (by first | (simp; done) | (have := hB4.size; simp; omega) | (have := hB4.size; omega)) _ | refine Below.drew ?_)) hbl).trans b2, (Below.cell (p := ⟨mb, 1, none⟩) (by repeat (first | exact Below.refl _ _ | exact hB4 | exact hB5 | refine Below.alloc ?_ (by first | (simp; done) | (have := hB4.size; simp; omega) | (have := hB4.size; omega)) _ | refine Below.drew ?_)) hml).trans d1⟩
      clear hK K
      (try simp only [Act.put, List.setIfInBounds_toArray, List.set_cons_zero, List.set_cons_succ])
      refine heldTake 10 (v := ?_) (by simp only [List.getElem?_toArray, List.getElem?_cons_succ, List.getElem?_cons_zero]; rfl) (by kernel_rfl) (by intro _ _ _ h; exact h) (by rfl) (by assumption) ?_ ?_
      rotate_left
      · intro W hSw; (try dsimp only at hSw); go_simp; try with_reducible rfl
      simp only [Act.put, List.setIfInBounds_toArray, List.set_cons_zero, List.set_cons_succ]
      refine heldTake 11 (v := ?_) (by simp only [List.getElem?_toArray, List.getElem?_cons_succ, List.getElem?_cons_zero]; rfl) (by kernel_rfl) (by intro _ _ _ h; exact h) (by rfl) (by assumption) ?_ ?_
      rotate_left
      · intro W hSw; (try dsimp only at hSw); go_simp; try with_reducible rfl
      simp only [Act.put, List.setIfInBounds_toArray, List.set_cons_zero, List.set_cons_succ]
      refine heldLast 12 (by simp only [List.getElem?_toArray, List.getElem?_cons_succ, List.getElem?_cons_zero]; rfl) (by kernel_rfl) rfl (fun K hK => ?_)
      have hR5 : RcB w5 mb hf A L.length c cnt := (hB5.block mb hml).trans HR2.out.blk
      obtain ⟨⟨x0, x1, x2⟩, y1, y2⟩ := three_cells hR5
      have HR5 := Lib.hid hR5
      clear hR5
      go_simp
      refine hK.out _ _ ?_
      clear hK K
      (try simp only [Act.put, List.setIfInBounds_toArray, List.set_cons_zero, List.set_cons_succ])
      refine heldDone (by kernel_rfl) ?_ _
      have hR6 : RcB (w5.setCell ⟨mb, 1, none⟩ (.slice A5 (L.length + 1) c5)) mb hf A5 (L.length + 1) c5 cnt := (three_set HR5.out).1 _
      have hk6 : Keeps (fun k => k = mb) w (w5.setCell ⟨mb, 1, none⟩ (.slice A5 (L.length + 1) c5)) := Keeps.setCell (F := fun k => k = mb) (p := ⟨mb, 1, none⟩) (Keeps.ofBelow (HB2.out.trans (hB5.mono hz2)) (fun k => k = mb)) (.inr rfl) _
      have hown6 := ownsRow_setCell_below (a := ⟨mb, 1, none⟩) hown5 (show mb < w2.heap.size from hml) (.slice A5 (L.length + 1) c5)
      have HK6 := Lib.hid hk6
      have HOWN6 := Lib.hid hown6
      have HR6 := Lib.hid hR6
      clear hk6 hown6 hR6 hown5 hown4 hg4 hg5 hb4 hb5 hB4 hB5 x0 x1 x2 y1 y2 b0 b1 b2 d0 d1 d2
      generalize w5.setCell ⟨mb, 1, none⟩ (.slice A5 (L.length + 1) c5) = w6 at *
      obtain ⟨⟨x0, x1, x2⟩, y1, y2⟩ := three_cells HR6.out
      have fin : PutNew w mb (fun k => k = mb ∨ rowF A k) hf cnt L ⟨key, at_, n⟩ (.returned (.bool true)) (w6.setCell ⟨mb, 2, none⟩ (.int .i64 (cnt + 1))) := by
        refine ⟨by rw [HOK.out], fun k => k = mb ∨ rowF A5 k, ⟨A5, c5, ⟨?_, ?_, ?_, ?_, ?_⟩, rfl⟩, Keeps.setCell (F := fun k => k = mb) (p := ⟨mb, 2, none⟩) HK6.out (.inr rfl) _, ?_⟩
        · have := (three_set HR6.out).2 (.int .i64 (cnt + 1))
          rw [HOK.out, if_pos rfl, show [(⟨key, at_, n⟩ : AddD)].filter addOk = [⟨key, at_, n⟩] by simp [HOK.out], List.length_append]
          exact this
        · have := ownsRow_setCell_below (a := ⟨mb, 2, none⟩) HOWN6.out (show mb < w2.heap.size from hml) (.int .i64 (cnt + 1))
          rw [show [(⟨key, at_, n⟩ : AddD)].filter addOk = [⟨key, at_, n⟩] by simp [HOK.out]]
          unfold AddsAt3
          rw [List.length_append, List.flatMap_append]
          exact Reads.of_own this
        · intro hnil
          have := own_capC HOWN6.out
          subst hnil
          rcases HOWN6.out.2 with ⟨h0, _⟩ | ⟨g, cap, cur, hv, _⟩
          · injection h0 with e1 e2 e3
          · injection hv with e1 e2 e3
            cases e1
        · rintro ⟨o, sp, rfl⟩
          have := HOWN6.out.lt mb rfl
          omega
        · rintro k ⟨o, sp, rfl⟩
          have := HOWN6.out.lt k rfl
          have e : (w6.setCell ⟨mb, 2, none⟩ (.int .i64 (cnt + 1))).heap.size = w6.heap.size := by simp [World.setCell]
          rw [e]
          exact this.2
        · rintro k (rfl | ⟨o, sp, rfl⟩)
          · exact .inl (.inl rfl)
          · have := HOWN6.out.lt k rfl
            exact .inr (by omega)
      have FIN := Lib.hid fin
      clear fin
      have hw3 : wrap64 (cnt + 1) = cnt + 1 := by unfold wrap64; omega
      go_wp2
      go_ret
      exact FIN.out
  · have hno : addOk a = false := by simpa using hok
    rw [hno] at Q
    have HF2 : Hid (∀ w2, Below w1.heap.size w1 w2 → PutNew w mb (fun k => k = mb ∨ rowF A k) hf cnt L a (.returned (.bool false)) w2) := Lib.hid (fun w2 hb2 => HFIN.out w2 (hb1.trans (hb2.mono hb1.size)) hno)
    clear hno hok HFIN
    go_enter Try.func16, Try.ntmps16
    go_wp2_with fail
    rw [← hw1]
    refine Q.out.mono ?_
    rintro e w2 ⟨rfl, hb2⟩
    have HF3 := Lib.hid (HF2.out _ hb2)
    go_wp2
    go_ret
    exact HF3.out
end Go.Proofs.Ytgahopkbgefjdaa
