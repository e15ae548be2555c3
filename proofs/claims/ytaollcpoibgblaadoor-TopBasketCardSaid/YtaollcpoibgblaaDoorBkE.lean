/- Contracts of the comparison that basket.Of sorts by, and of the sort: a permutation that rises. -/
import Derived.Test.YtaollcpoibgblaaDoorBkD
import Derived.Test.YtaollcpoibgblaaDoorKitSp
import Derived.Test.YtaollcpoibgblaaDoorLayB
namespace Go.Proofs.YtaollcpoibgblaaDoor
open Go.ChangeShapes Go.WideShapes Go.ChangeAt Go.RowKit Go.Shelf Go.Lib Go.Sort Go.Proofs
set_option linter.unusedVariables false
set_option linter.unusedSimpArgs false

def cmpN (x y : Int) : Int := if x < y then -1 else if y < x then 1 else 0
set_option maxHeartbeats 400000 in
theorem cmpN_any (x y : Int) (w : World) : Calls Tryd.prog 20 #[.int .i64 x, .int .i64 y] w fun e w' => e = .returned (.int .i64 (cmpN x y)) ∧ w = w' := by
  unfold cmpN
  by_cases h1 : x < y
  · rw [if_pos h1]
    go_enter Tryd.func20, Tryd.ntmps20
    go_wp2
    go_ret
    exact ⟨rfl, rfl⟩
  · rw [if_neg h1]
    by_cases h2 : y < x
    · rw [if_pos h2]
      go_enter Tryd.func20, Tryd.ntmps20
      go_wp2
      go_ret
      exact ⟨rfl, rfl⟩
    · rw [if_neg h2]
      go_enter Tryd.func20, Tryd.ntmps20
      go_wp2
      go_ret
      exact ⟨rfl, rfl⟩
def evCmp (x y : EvV) : Int := cmpN x.at_ y.at_
instance : Inhabited EvV := ⟨⟨⟨#[]⟩, 0, 0, 0, ⟨#[]⟩, ⟨#[]⟩, 0, ⟨#[]⟩⟩⟩
theorem cmpN_lt (x y : Int) : cmpN x y < 0 ↔ x < y := by
  unfold cmpN
  split
  · omega
  · split <;> omega
theorem ev_swo : SWO (ltOf evCmp) where
  irrefl := fun x => by unfold ltOf evCmp; simp [cmpN_lt]
  trans := fun x y z h1 h2 => by unfold ltOf evCmp at *; simp [cmpN_lt] at *; omega
  ntrans := fun x y z h1 h2 => by unfold ltOf evCmp at *; simp [cmpN_lt] at *; omega
theorem enters_ecmp : ∀ args w, (callFunc 19 args).run Tryd.prog w = .ok (.enter 19 args) w := by
  intro args w; kernel_rfl
set_option maxHeartbeats 4000000 in
set_option maxRecDepth 100000 in
theorem of1_any (x y : EvV) (w : World) : Calls Tryd.prog 19 #[.agg (evCells x).toArray, .agg (evCells y).toArray] w fun e w' => e = .returned (.int .i64 (evCmp x y)) ∧ Grew w w' := by
  unfold evCmp
  obtain ⟨x0, x1, x2, x3, x4, x5, x6, x7⟩ := x
  obtain ⟨y0, y1, y2, y3, y4, y5, y6, y7⟩ := y
  unfold evCells
  simp only
  have HQ := Lib.hid (fun W => cmpN_any x2 y2 W)
  have hG : Grew w ((w.alloc (.cells #[.string x0, .int .i64 x1, .int .i64 x2, .int .i64 x3, .string x4, .string x5, .int .i64 x6, .string x7] 51)).alloc (.cells #[.string y0, .int .i64 y1, .int .i64 y2, .int .i64 y3, .string y4, .string y5, .int .i64 y6, .string y7] 51)) := ((Grew.refl w).alloc _).alloc _
  have HG := Lib.hid hG
  clear hG
  go_enter Tryd.func19, Tryd.ntmps19
  go_wp2_with fail
  refine (HQ.out _).mono ?_
  rintro e w6 ⟨rfl, rfl⟩
  go_wp2_with fail
  go_ret
  exact ⟨rfl, HG.out⟩
/-- The sort: a permutation that rises. -/
theorem esort_any (base : Nat) (A : Option Addr) (cap : Nat) (R : List EvV) (w : World) (hown : w.ownsRow base 51 8 (.slice A R.length cap) R.length (evsCells R)) (hsz : R.length < 2000000) :
    Calls Tryd.prog 18 #[.slice A R.length cap, .func (.func 19) #[] #[]] w fun r w' => r = .returned (.tuple #[]) ∧ ∃ ms : List EvV, ms.Perm R ∧ ms.Pairwise (fun x y => x.at_ ≤ y.at_) ∧
      w'.ownsRow base 51 8 (.slice A R.length cap) R.length (evsCells ms) ∧ Keeps (fun j => (Value.slice A R.length cap).ownBlock = some j) w w' := by
  have q := sortKp (P := Tryd.prog) Tryd.sortE 8 (fun w => by kernel_rfl) (fun w => by kernel_rfl) evCells (fun _ => rfl) (fun x v hv => evCells_one x v hv) evCmp ev_swo 19 #[] enters_ecmp base 51 A R.length cap R rfl w hown
      (fun W x y _ => of1_any x y W) (by omega)
  refine Calls.mono q ?_
  rintro r w' ⟨rfl, ms, hp, hs, ho, hk⟩
  refine ⟨rfl, ms, hp, ?_, ho, hk⟩
  refine hs.imp (fun {x y} h => ?_)
  unfold ltOf evCmp at h
  simp [cmpN_lt] at h
  exact h
end Go.Proofs.YtaollcpoibgblaaDoor
