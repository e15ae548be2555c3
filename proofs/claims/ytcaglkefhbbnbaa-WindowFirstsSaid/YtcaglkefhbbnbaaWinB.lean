/- Contract of window.Ends: the ends that it tells, as a list. Conditions: none but that the integers fit their kind. -/
import Derived.Test.YtcaglkefhbbnbaaWinA
namespace Go.Proofs.Ytcaglkefhbbnbaa
open Go.ChangeShapes Go.WideShapes Go.ChangeAt Go.RowKit

/-- The ends: from the k-th multiple of h on, as many as there are up to 'to', at most n. -/
def endsFrom (h to : Int) : Nat → Int → List Int
  | 0, _ => []
  | n + 1, x => if x ≤ to then x :: endsFrom h to n (x + h) else []

def endsL (s h frm to : Int) : List Int :=
  if mayB s h 1 = true ∧ frm < 2199023255552 then endsFrom h (min to 2199023255552) 4096 ((max frm 0 / h + 1) * h) else []

theorem endsFrom_len (h to : Int) : ∀ (n : Nat) (x : Int), (endsFrom h to n x).length ≤ n
  | 0, _ => by simp [endsFrom]
  | n + 1, x => by
    unfold endsFrom
    split
    · have := endsFrom_len h to n (x + h); simp; omega
    · simp

theorem ends_start (h frm : Int) (h1 : 1 ≤ h) (hf : frm < 2199023255552) :
    0 ≤ max frm 0 / h ∧ max frm 0 / h ≤ 2199023255552 ∧ 1 ≤ (max frm 0 / h + 1) * h ∧ (max frm 0 / h + 1) * h ≤ 2199023255552 + h := by
  have h0 : 0 ≤ max frm 0 := by omega
  have a := Int.ediv_nonneg h0 (by omega : 0 ≤ h)
  have b := Int.ediv_le_self h h0
  have c := Int.mul_ediv_add_emod (max frm 0) h
  have d := Int.emod_nonneg (max frm 0) (by omega : h ≠ 0)
  have e : (max frm 0 / h + 1) * h = h * (max frm 0 / h) + h := by rw [Int.add_mul, Int.one_mul, Int.mul_comm]
  have f : 0 ≤ h * (max frm 0 / h) := Int.mul_nonneg (by omega) a
  omega

set_option maxHeartbeats 800000 in
theorem ends_go (s h frm to : Int) (w : World) (hm : mayB s h 1 = true) (hf : frm < 2199023255552) :
    Calls Try.prog 14 #[.agg #[.int .i64 s, .int .i64 h], .int .i64 frm, .int .i64 to] w fun e w' => ∃ A c, e = .returned (.slice A (endsL s h frm to).length c) ∧
      w'.ownsRow w.heap.size 3 1 (.slice A (endsL s h frm to).length c) (endsL s h frm to).length ((endsL s h frm to).map (Value.int .i64)) ∧ Below w.heap.size w w' := by
  have hh : 1 ≤ h ∧ h ≤ 1099511627776 := by
    simp [mayB] at hm
    exact fits_bd hm.1.2
  have hfm : ¬ (2199023255552 ≤ frm) := by omega
  go_enter Try.func14, Try.ntmps14
  have hq := ends_start h frm hh.1 hf
  generalize hx0 : (max frm 0 / h + 1) * h = x0 at hq
  go_wp2_with (go_at_call 11; refine (may_any _ _ _ (by omega) _).mono ?_; rintro e w1 ⟨rfl, hb1⟩; obtain ⟨hc1, hf1⟩ := bcell hb1)
  go_quiet (fail)
  go_wp2_with fail
  have hb0 : Below (w.heap.size + 1) (w.alloc (.cells #[.int .i64 s, .int .i64 h] 23)) (w1.drewN nq) := below_drewN (by simpa using hb1) nq
  have HE : Hid (endsL s h frm to = endsFrom h (min to 2199023255552) 4096 x0) := by
    unfold endsL
    rw [if_pos ⟨hm, hf⟩, hx0]; exact Lib.hid rfl
  have hT : min to 2199023255552 ≤ 2199023255552 := by omega
  generalize hTT : min to 2199023255552 = T at *
  clear hc1 hf1 hb1 hx0 hTT
  go_loopg [7, 8] 4096 (fun k v i wr => ∃ (ds : List Int) (A : Option Addr) (c : Nat) (x : Int), v = .slice A ds.length c ∧ i = .int .i64 x ∧ Hid (ds.length + k = 4096) ∧ 1 ≤ x ∧ x ≤ 2199023255552 + h ∧
      Hid (endsFrom h T 4096 x0 = ds ++ endsFrom h T k x) ∧ wr.ownsRow (w.heap.size + 1) 3 1 (.slice A ds.length c) ds.length (ds.map (Value.int .i64)) ∧
      Below (w.heap.size + 1) (w.alloc (.cells #[.int .i64 s, .int .i64 h] 23)) wr)
  case atStart => exact ⟨[], none, 0, x0, rfl, rfl, Lib.hid rfl, hq.2.2.1, hq.2.2.2, Lib.hid (by simp), World.ownsRow_nil _ _ _ _, hb0⟩
  case round =>
    obtain ⟨ds, A, c, x, rfl, rfl, hk, hx1, hx2, HX, hown, hb⟩ := hrel
    have hcell : wr.cell? ⟨w.heap.size, 1, none⟩ = some (.int .i64 h) := (hb.cell (by simp)).trans (by simp)
    by_cases hxT : x ≤ T
    · by_cases hl : (ds.length : Int) < 4096
      · go_wp2_with (at_builtin; refine wpList_append_cell wr rfl _ _ _ rfl (w.heap.size + 1) 3 (.int .i64 0) 8 Try.underlying26 int_info rfl A ds.length c _ rfl hown (.int .i64 x) rfl rfl (by omega) (by unfold maxLen; omega) (by have := hb.size; simpa using this) ?_; intro A' c' w' hown' hg' hb'; have hcell' : w'.cell? ⟨w.heap.size, 1, none⟩ = some (.int .i64 h) := (hb'.cell (by simp)).trans hcell)
        go_roundg (gk - 1)
        case measure => have := hk.out; omega
        case rel =>
          have hk' := hk.out
          refine ⟨ds ++ [x], A', c', x + h, by simp, rfl, Lib.hid (by simp; omega), by omega, by omega, Lib.hid ?_, by simpa using hown', hb.trans hb'⟩
          rw [HX.out]
          obtain ⟨g, rfl⟩ : ∃ g, gk = g + 1 := ⟨gk - 1, by omega⟩
          simp [endsFrom, hxT]
      · have hg0 : gk = 0 := by have := hk.out; omega
        have hl2 : ¬ ((ds.length : Int) < 4096) := by omega
        go_wp2
        go_ret
        subst hg0
        have e : endsL s h frm to = ds := by rw [HE.out, HX.out]; simp [endsFrom]
        rw [e]
        exact ⟨A, c, rfl, own_base hown (by omega), ((Below.refl _ _).alloc (Nat.le_refl _) _).trans (hb.mono (by omega))⟩
    · go_wp2
      go_ret
      have e : endsL s h frm to = ds := by
        rw [HE.out, HX.out]
        cases gk with
        | zero => simp [endsFrom]
        | succ g => simp [endsFrom]; omega
      rw [e]
      exact ⟨A, c, rfl, own_base hown (by omega), ((Below.refl _ _).alloc (Nat.le_refl _) _).trans (hb.mono (by omega))⟩

theorem endsL_none (s h frm to : Int) (hn : ¬ (mayB s h 1 = true ∧ frm < 2199023255552)) : endsL s h frm to = [] := by
  unfold endsL; rw [if_neg hn]

set_option maxHeartbeats 400000 in
theorem ends_any (s h frm to : Int) (w : World) :
    Calls Try.prog 14 #[.agg #[.int .i64 s, .int .i64 h], .int .i64 frm, .int .i64 to] w fun e w' => ∃ A c, e = .returned (.slice A (endsL s h frm to).length c) ∧
      w'.ownsRow w.heap.size 3 1 (.slice A (endsL s h frm to).length c) (endsL s h frm to).length ((endsL s h frm to).map (Value.int .i64)) ∧ Below w.heap.size w w' := by
  by_cases hm : mayB s h 1 = true
  · by_cases hf : frm < 2199023255552
    · exact ends_go s h frm to w hm hf
    · rw [endsL_none _ _ _ _ (fun h => hf h.2)]
      go_enter Try.func14, Try.ntmps14
      go_wp2_with (go_at_call 11; refine (may_any _ _ _ (by omega) _).mono ?_; rintro e w1 ⟨rfl, hb1⟩)
      go_ret
      exact ⟨none, 0, rfl, World.ownsRow_nil _ _ _ _, ((Below.refl _ _).alloc (Nat.le_refl _) _).trans (hb1.mono (by simp))⟩
  · have hm' : mayB s h 1 = false := by simpa using hm
    rw [endsL_none _ _ _ _ (fun h => hm h.1)]
    go_enter Try.func14, Try.ntmps14
    go_wp2_with (go_at_call 11; refine (may_any _ _ _ (by omega) _).mono ?_; rintro e w1 ⟨rfl, hb1⟩)
    go_ret
    exact ⟨none, 0, rfl, World.ownsRow_nil _ _ _ _, ((Below.refl _ _).alloc (Nat.le_refl _) _).trans (hb1.mono (by simp))⟩
end Go.Proofs.Ytcaglkefhbbnbaa
