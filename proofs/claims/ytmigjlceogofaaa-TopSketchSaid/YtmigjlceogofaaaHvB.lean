/- Contracts of heavy's New, Low, High, Total, Slack. -/
import Derived.Test.YtmigjlceogofaaaHvA
namespace Go.Proofs.Ytmigjlceogofaaa
open Go.ChangeShapes Go.WideShapes Go.ChangeAt Go.RowKit Go.Shelf Go.Sort Go.Proofs
set_option linter.unusedVariables false
set_option linter.unusedSimpArgs false

def lowV (S : CntrL) (k : ByteArray) : Int := (mget S k).getD 0
theorem look_low {w : World} {cb : Nat} {S : CntrL} (h : MapIs w strKf intVf strOk cb S) {k : ByteArray} (hk : strOk k) :
    (Instr.lookup 57 (.map (some cb)) (.string k) false).run Try.prog w = .ok (.int .i64 (lowV S k)) w := by
  have := h.look strKey Try.underlying57 zero_i64 hk
  have e : ((mget S k).map intVf).getD (.int .i64 0) = .int .i64 (lowV S k) := by
    unfold lowV
    cases mget S k <;> rfl
  rw [e] at this
  exact this
section
variable {hb cb : Nat} {room added total slack : Int} {S : CntrL} {w : World}
theorem hlow_any (h : HeavyAt w hb cb room added total slack S) (k : ByteArray) (hk : strOk k) : Calls Try.prog 31 #[.pointer (some ⟨hb, 0, none⟩), .string k] w fun e w' => e = .returned (.int .i64 (lowV S k)) ∧ w = w' := by
  obtain ⟨c0, c1, c2, c3, c4⟩ := h.cells
  have hl := look_low h.cnt hk
  go_enter Try.func31, Try.ntmps31
  go_wp2
  go_ret
  exact ⟨rfl, rfl⟩
theorem htotal_any (h : HeavyAt w hb cb room added total slack S) : Calls Try.prog 28 #[.pointer (some ⟨hb, 0, none⟩)] w fun e w' => e = .returned (.int .i64 total) ∧ w = w' := by
  obtain ⟨c0, c1, c2, c3, c4⟩ := h.cells
  go_enter Try.func28, Try.ntmps28
  go_wp2
  go_ret
  exact ⟨rfl, rfl⟩
theorem hslack_any (h : HeavyAt w hb cb room added total slack S) : Calls Try.prog 29 #[.pointer (some ⟨hb, 0, none⟩)] w fun e w' => e = .returned (.int .i64 slack) ∧ w = w' := by
  obtain ⟨c0, c1, c2, c3, c4⟩ := h.cells
  go_enter Try.func29, Try.ntmps29
  go_wp2
  go_ret
  exact ⟨rfl, rfl⟩
set_option maxHeartbeats 1000000 in
theorem hhigh_any (h : HeavyAt w hb cb room added total slack S) (k : ByteArray) (hk : strOk k) (hv : 0 ≤ lowV S k ∧ lowV S k ≤ 2199023255552) (hs : 0 ≤ slack ∧ slack ≤ 2199023255552) : Calls Try.prog 32 #[.pointer (some ⟨hb, 0, none⟩), .string k] w fun e w' => e = .returned (.int .i64 (lowV S k + slack)) ∧ Below w.heap.size w w' := by
  obtain ⟨c0, c1, c2, c3, c4⟩ := h.cells
  have hl := fun m => look_low (h.cnt.drewN m) hk
  have hw : IntKind.i64.wrap (lowV S k + slack) = lowV S k + slack := IntWalk.i64_in _ (by omega)
  generalize lowV S k = v at *
  go_enter Try.func32, Try.ntmps32
  go_wp2_with fail
  go_quiet (fail)
  go_wp2
  go_ret
  exact ⟨rfl, below_drewN (Below.refl _ _) _⟩
end
set_option maxHeartbeats 400000 in
theorem hnew_any (m : Int) (w : World) : Calls Try.prog 22 #[.int .i64 m] w fun e w' => ∃ hb cb, e = .returned (.pointer (some ⟨hb, 0, none⟩)) ∧ HeavyAt w' hb cb (min (max m 1) 4096) 0 0 0 [] ∧ w.heap.size ≤ hb ∧ w.heap.size ≤ cb ∧ cb ≠ hb ∧ Below w.heap.size w w' := by
  have hmm := @run_makeMap Try.prog
  go_enter Try.func22, Try.ntmps22
  go_wp2
  go_ret
  refine ⟨_, w.heap.size, rfl, ⟨?_, (MapIs.made w _ _ _).alloc _⟩, by omega, Nat.le_refl _, by omega, ((Below.refl _ _).alloc (Nat.le_refl _) _).alloc (by simp) _⟩
  have := heap_alloc_new (w.alloc (.map #[] 0)) (.cells #[.int .i64 (min (max m 1) 4096), .int .i64 0, .map (some w.heap.size), .int .i64 0, .int .i64 0] 126)
  simpa using this
end Go.Proofs.Ytmigjlceogofaaa
