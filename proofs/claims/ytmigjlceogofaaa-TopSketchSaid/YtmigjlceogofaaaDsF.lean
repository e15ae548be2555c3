/- Contracts of distinct.New, Add and Least. -/
import Derived.Test.YtmigjlceogofaaaDsE
namespace Go.Proofs.Ytmigjlceogofaaa
open Go.ChangeShapes Go.WideShapes Go.ChangeAt Go.RowKit
set_option linter.unusedVariables false
set_option linter.unusedSimpArgs false

def newS (k : Int) : CtS := ⟨min (max k 1) 4096, [], false⟩
set_option maxHeartbeats 2000000 in
theorem cnew_any (k : Int) (w : World) : Calls Try.prog 23 #[.int .i64 k] w fun e w' => ∃ cb F, e = .returned (.pointer (some ⟨cb, 0, none⟩)) ∧ CtO cb (newS k) w' F ∧ (∀ j, F j → w.heap.size ≤ j) ∧ Below w.heap.size w w' := by
  obtain ⟨m, hm⟩ : ∃ m, min (max k 1) 4096 = m := ⟨_, rfl⟩
  have hm1 : 1 ≤ m ∧ m ≤ 4096 := by omega
  obtain ⟨W2, hW2⟩ : ∃ W2, W2 = w.alloc (.cells #[.int .i64 m, .slice none 0 0, .bool false] 129) := ⟨_, rfl⟩
  have hb2 : Below w.heap.size w W2 := by rw [hW2]; exact (Below.refl _ w).alloc (Nat.le_refl _) _
  have hfin : ∃ cb F, (Ending.returned (.pointer (some ⟨w.heap.size, 0, none⟩)) : Ending) = .returned (.pointer (some ⟨cb, 0, none⟩)) ∧ CtO cb (newS k) W2 F ∧ (∀ j, F j → w.heap.size ≤ j) ∧ Below w.heap.size w W2 := by
    refine ⟨w.heap.size, _, rfl, ⟨none, 0, ⟨?_, ⟨rfl, .inl ⟨rfl, rfl⟩⟩, (fun g e => by cases e), List.Pairwise.nil, ?_, ?_, (fun x hx => by cases hx)⟩, rfl⟩, ?_, hb2⟩
    · unfold newS
      rw [hW2, hm]; exact heap_alloc_new w _
    · unfold newS; rw [hm]; show (0 : Int) ≤ m; omega
    · unfold newS; rw [hm]; exact hm1
    · rintro j (rfl | ⟨g, e, -⟩)
      · exact Nat.le_refl _
      · cases e
  have HF := Lib.hid hfin
  clear hfin hb2
  go_enter Try.func23, Try.ntmps23
  go_wp2
  go_ret
  rw [← hW2]
  exact HF.out

set_option maxHeartbeats 2000000 in
theorem caddS_any (cb : Nat) (s : CtS) (F : Nat → Prop) (x : ByteArray) (w : World) (hO : CtO cb s w F) (hx : (x.size : Int) ≤ 9223372036854775807) :
    Calls Try.prog 25 #[.pointer (some ⟨cb, 0, none⟩), .string x] w (CtNew cb F (addS s (hashD x)) (.bool (ctB s (hashD x))) w) := by
  have hh := hashD_any x w hx
  have ha := cadd_any cb s F (hashD x) w hO (hashD_bd x)
  have HA := Lib.hid ha
  clear ha hO
  go_enter Try.func25, Try.ntmps25
  go_wp2_with fail
  refine Calls.mono hh ?_
  rintro e w2 ⟨rfl, rfl⟩
  go_wp2_with fail
  refine Calls.mono HA.out ?_
  rintro e w3 ⟨rfl, h3⟩
  have H3 := Lib.hid h3
  clear h3
  go_wp2
  go_ret
  exact ⟨rfl, H3.out⟩

def leastC (s : CtS) : Int := if s.more then s.k + 1 else s.R.length
set_option maxHeartbeats 2000000 in
theorem cleast_any (cb : Nat) (s : CtS) (F : Nat → Prop) (w : World) (hO : CtO cb s w F) :
    Calls Try.prog 30 #[.pointer (some ⟨cb, 0, none⟩)] w fun e w' => e = .returned (.int .i64 (leastC s)) ∧ w = w' := by
  obtain ⟨A, c, hC, -⟩ := hO
  obtain ⟨d0, d1, d2, -⟩ := hC.cells
  have hk := hC.k0
  have hw : IntKind.i64.wrap (s.k + 1) = s.k + 1 := by rw [IntKind.wrap_i64]; omega
  have hw2 : wrap64 (s.k + 1) = s.k + 1 := by unfold wrap64; omega
  unfold leastC
  clear hC
  cases hm : s.more with
  | true =>
    rw [hm] at d2
    go_enter Try.func30, Try.ntmps30
    go_wp2
    go_ret
    exact ⟨by simp, rfl⟩
  | false =>
    rw [hm] at d2
    go_enter Try.func30, Try.ntmps30
    go_wp2
    go_ret
    exact ⟨by simp, rfl⟩
end Go.Proofs.Ytmigjlceogofaaa
