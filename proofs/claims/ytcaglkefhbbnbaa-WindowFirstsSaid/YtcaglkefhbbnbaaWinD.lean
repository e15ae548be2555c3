/- Contract of the reference's Ends. -/
import Derived.Test.YtcaglkefhbbnbaaWinC
namespace Go.Proofs.Ytcaglkefhbbnbaa
open Go.ChangeShapes Go.WideShapes Go.ChangeAt Go.RowKit
set_option linter.unusedVariables false

theorem n0_big (h frm : Int) (h1 : 1 ≤ h) (hf : h ≤ frm) : max frm 0 = frm := by omega
theorem n0_small (h frm : Int) (h1 : 1 ≤ h) (hf : ¬ h ≤ frm) : max frm 0 / h = 0 := by
  apply Int.ediv_eq_zero_of_lt <;> omega

theorem endsFrom_over (h T x : Int) (hx : T < x) : ∀ k, endsFrom h T k x = []
  | 0 => rfl
  | k + 1 => by unfold endsFrom; rw [if_neg (by omega)]

theorem mul_bd (h n : Int) (h1 : 1 ≤ h) (hn : 1 ≤ n) : h ≤ n * h ∧ n ≤ n * h := by
  have a := Int.mul_le_mul_of_nonneg_right hn (by omega : 0 ≤ h)
  have b := Int.mul_le_mul_of_nonneg_left h1 (by omega : 0 ≤ n)
  omega

theorem quot_iff (h n : Int) (h1 : 1 ≤ h) : n ≤ 2199023255552 / h ↔ n * h ≤ 2199023255552 := Int.le_ediv_iff_mul_le (by omega)

theorem endsL_start (s h frm to : Int) (hm : mayB s h 1 = true) (hf : frm ≤ 2199023255552) {n : Int} (hn : n = max frm 0 / h + 1) (hh : 1 ≤ h) :
    endsL s h frm to = [] ++ endsFrom h (min to 2199023255552) 4096 (n * h) := by
  subst hn
  by_cases e : frm < 2199023255552
  · unfold endsL; rw [if_pos ⟨hm, e⟩]; simp
  · rw [endsL_none _ _ _ _ (fun x => e x.2), endsFrom_over]
    · simp
    · obtain rfl : frm = 2199023255552 := by omega
      have a := Int.mul_ediv_add_emod (max 2199023255552 0) h
      have b := Int.emod_lt_of_pos (max 2199023255552 0) (by omega : 0 < h)
      have c : (max 2199023255552 0 / h + 1) * h = h * (max 2199023255552 0 / h) + h := by rw [Int.add_mul, Int.one_mul, Int.mul_comm]
      omega

set_option maxRecDepth 20000 in
set_option maxHeartbeats 1000000 in
theorem rends_go (s h frm to : Int) (w : World) (hm : mayB s h 1 = true) (hf : frm ≤ 2199023255552) :
    Calls Try.prog 15 #[.agg #[.int .i64 s, .int .i64 h], .int .i64 frm, .int .i64 to] w fun e w' => ∃ A c, e = .returned (.slice A (endsL s h frm to).length c) ∧
      w'.ownsRow w.heap.size 3 1 (.slice A (endsL s h frm to).length c) (endsL s h frm to).length ((endsL s h frm to).map (Value.int .i64)) ∧ Below w.heap.size w w' := by
  have hh : 1 ≤ h ∧ h ≤ 1099511627776 := by
    simp [mayB] at hm
    exact fits_bd hm.1.2
  have hfm : ¬ (2199023255552 < frm) := by omega
  have hd : 0 ≤ frm → frm / h ≤ 2199023255552 ∧ 0 ≤ frm / h := fun h0 => ⟨Int.le_trans (Int.ediv_le_self h h0) hf, Int.ediv_nonneg h0 (by omega)⟩
  by_cases hfh : h ≤ frm
  · have hd' := hd (by omega)
    clear hd
    go_enter Try.func15, Try.ntmps15
    go_wp2_with (go_at_call 12; refine (rmay_any _ _ _ _).mono ?_; rintro e w1 ⟨rfl, hb1⟩; obtain ⟨hc1, hf1⟩ := bcell hb1)
    have hb0 : Below (w.heap.size + 1) (w.alloc (.cells #[.int .i64 s, .int .i64 h] 23)) w1 := ((Below.refl _ _).alloc (by simp) _).trans (hb1.mono (by simp))
    have hown0 : w1.ownsRow (w.heap.size + 1) 3 1 (.slice (some ⟨w.heap.size + 1, 0, none⟩) 0 0) 0 [] := own_empty (by omega) ((hb1.block _ (by simp)).trans (by rw [show w.heap.size + 1 = (w.alloc (.cells #[.int .i64 s, .int .i64 h] 23)).heap.size by simp]; exact heap_alloc_new _ _))
    clear hc1 hf1 hb1
    go_loopg [7, 8] 4096 (fun k v i wr => ∃ (ds : List Int) (A : Option Addr) (c : Nat) (n : Int), v = .slice A ds.length c ∧ i = .int .i64 n ∧ Hid (ds.length + k = 4096) ∧ 1 ≤ n ∧ n ≤ 2199023255554 ∧
        Hid (endsL s h frm to = ds ++ endsFrom h (min to 2199023255552) k (n * h)) ∧ wr.ownsRow (w.heap.size + 1) 3 1 (.slice A ds.length c) ds.length (ds.map (Value.int .i64)) ∧
        Below (w.heap.size + 1) (w.alloc (.cells #[.int .i64 s, .int .i64 h] 23)) wr)
    case atStart => exact ⟨[], _, 0, _, rfl, rfl, Lib.hid rfl, by omega, by omega, Lib.hid (endsL_start s h frm to hm hf (by rw [n0_big h frm hh.1 (by omega)]) hh.1), hown0, hb0⟩
    case round =>
      obtain ⟨ds, A, c, n, rfl, rfl, hk, hn1, hn2, HX, hown, hb⟩ := hrel
      have hcell : wr.cell? ⟨w.heap.size, 1, none⟩ = some (.int .i64 h) := (hb.cell (by simp)).trans (by simp)
      have HQ := Lib.hid (quot_iff h n hh.1)
      have hqp : 0 ≤ 2199023255552 / h := Int.ediv_nonneg (by omega) (by omega)
      have hqs : 2199023255552 / h ≤ 2199023255552 := Int.ediv_le_self h (by omega)
      have hmul := mul_bd h n hh.1 hn1
      generalize hQ : 2199023255552 / h = q at *
      by_cases hl : (ds.length : Int) < 4096
      · by_cases hq : n ≤ q
        · have hx := HQ.out.1 hq
          generalize hX : n * h = X at *
          by_cases ht : X ≤ to
          · go_wp2_with (at_builtin; refine wpList_append_cell wr rfl _ _ _ rfl (w.heap.size + 1) 3 (.int .i64 0) 8 Try.underlying26 int_info rfl A ds.length c _ rfl hown (.int .i64 X) rfl rfl (by omega) (by unfold maxLen; omega) (by have := hb.size; simpa using this) ?_; intro A' c' w' hown' hg' hb')
            go_roundg (gk - 1)
            case measure => have := hk.out; omega
            case rel =>
              have hk' := hk.out
              refine ⟨ds ++ [X], A', c', n + 1, by simp, rfl, Lib.hid (by simp; omega), by omega, by omega, Lib.hid ?_, by simpa using hown', hb.trans hb'⟩
              rw [HX.out]
              obtain ⟨g, rfl⟩ : ∃ g, gk = g + 1 := ⟨gk - 1, by omega⟩
              have e : (n + 1) * h = X + h := by rw [Int.add_mul, hX, Int.one_mul]
              have hT : X ≤ min to 2199023255552 := by omega
              simp [endsFrom, hT, e]
          · go_wp2
            go_ret
            have e : endsL s h frm to = ds := by rw [HX.out, endsFrom_over _ _ _ (by omega)]; simp
            rw [e]
            exact ⟨A, c, rfl, own_base hown (by omega), ((Below.refl _ _).alloc (Nat.le_refl _) _).trans (hb.mono (by omega))⟩
        · have hx := mt HQ.out.2 hq
          go_wp2
          go_ret
          have e : endsL s h frm to = ds := by rw [HX.out, endsFrom_over _ _ _ (by omega)]; simp
          rw [e]
          exact ⟨A, c, rfl, own_base hown (by omega), ((Below.refl _ _).alloc (Nat.le_refl _) _).trans (hb.mono (by omega))⟩
      · have hg0 : gk = 0 := by have := hk.out; omega
        have hl2 : ¬ ((ds.length : Int) < 4096) := by omega
        go_wp2
        go_ret
        subst hg0
        have e : endsL s h frm to = ds := by rw [HX.out]; simp [endsFrom]
        rw [e]
        exact ⟨A, c, rfl, own_base hown (by omega), ((Below.refl _ _).alloc (Nat.le_refl _) _).trans (hb.mono (by omega))⟩
  · clear hd
    go_enter Try.func15, Try.ntmps15
    go_wp2_with (go_at_call 12; refine (rmay_any _ _ _ _).mono ?_; rintro e w1 ⟨rfl, hb1⟩; obtain ⟨hc1, hf1⟩ := bcell hb1)
    have hb0 : Below (w.heap.size + 1) (w.alloc (.cells #[.int .i64 s, .int .i64 h] 23)) w1 := ((Below.refl _ _).alloc (by simp) _).trans (hb1.mono (by simp))
    have hown0 : w1.ownsRow (w.heap.size + 1) 3 1 (.slice (some ⟨w.heap.size + 1, 0, none⟩) 0 0) 0 [] := own_empty (by omega) ((hb1.block _ (by simp)).trans (by rw [show w.heap.size + 1 = (w.alloc (.cells #[.int .i64 s, .int .i64 h] 23)).heap.size by simp]; exact heap_alloc_new _ _))
    clear hc1 hf1 hb1
    go_loopg [7, 8] 4096 (fun k v i wr => ∃ (ds : List Int) (A : Option Addr) (c : Nat) (n : Int), v = .slice A ds.length c ∧ i = .int .i64 n ∧ Hid (ds.length + k = 4096) ∧ 1 ≤ n ∧ n ≤ 2199023255554 ∧
        Hid (endsL s h frm to = ds ++ endsFrom h (min to 2199023255552) k (n * h)) ∧ wr.ownsRow (w.heap.size + 1) 3 1 (.slice A ds.length c) ds.length (ds.map (Value.int .i64)) ∧
        Below (w.heap.size + 1) (w.alloc (.cells #[.int .i64 s, .int .i64 h] 23)) wr)
    case atStart => exact ⟨[], _, 0, _, rfl, rfl, Lib.hid rfl, by omega, by omega, Lib.hid (endsL_start s h frm to hm hf (by rw [n0_small h frm hh.1 (by omega)]; rfl) hh.1), hown0, hb0⟩
    case round =>
      obtain ⟨ds, A, c, n, rfl, rfl, hk, hn1, hn2, HX, hown, hb⟩ := hrel
      have hcell : wr.cell? ⟨w.heap.size, 1, none⟩ = some (.int .i64 h) := (hb.cell (by simp)).trans (by simp)
      have HQ := Lib.hid (quot_iff h n hh.1)
      have hqp : 0 ≤ 2199023255552 / h := Int.ediv_nonneg (by omega) (by omega)
      have hqs : 2199023255552 / h ≤ 2199023255552 := Int.ediv_le_self h (by omega)
      have hmul := mul_bd h n hh.1 hn1
      generalize hQ : 2199023255552 / h = q at *
      by_cases hl : (ds.length : Int) < 4096
      · by_cases hq : n ≤ q
        · have hx := HQ.out.1 hq
          generalize hX : n * h = X at *
          by_cases ht : X ≤ to
          · go_wp2_with (at_builtin; refine wpList_append_cell wr rfl _ _ _ rfl (w.heap.size + 1) 3 (.int .i64 0) 8 Try.underlying26 int_info rfl A ds.length c _ rfl hown (.int .i64 X) rfl rfl (by omega) (by unfold maxLen; omega) (by have := hb.size; simpa using this) ?_; intro A' c' w' hown' hg' hb')
            go_roundg (gk - 1)
            case measure => have := hk.out; omega
            case rel =>
              have hk' := hk.out
              refine ⟨ds ++ [X], A', c', n + 1, by simp, rfl, Lib.hid (by simp; omega), by omega, by omega, Lib.hid ?_, by simpa using hown', hb.trans hb'⟩
              rw [HX.out]
              obtain ⟨g, rfl⟩ : ∃ g, gk = g + 1 := ⟨gk - 1, by omega⟩
              have e : (n + 1) * h = X + h := by rw [Int.add_mul, hX, Int.one_mul]
              have hT : X ≤ min to 2199023255552 := by omega
              simp [endsFrom, hT, e]
          · go_wp2
            go_ret
            have e : endsL s h frm to = ds := by rw [HX.out, endsFrom_over _ _ _ (by omega)]; simp
            rw [e]
            exact ⟨A, c, rfl, own_base hown (by omega), ((Below.refl _ _).alloc (Nat.le_refl _) _).trans (hb.mono (by omega))⟩
        · have hx := mt HQ.out.2 hq
          go_wp2
          go_ret
          have e : endsL s h frm to = ds := by rw [HX.out, endsFrom_over _ _ _ (by omega)]; simp
          rw [e]
          exact ⟨A, c, rfl, own_base hown (by omega), ((Below.refl _ _).alloc (Nat.le_refl _) _).trans (hb.mono (by omega))⟩
      · have hg0 : gk = 0 := by have := hk.out; omega
        have hl2 : ¬ ((ds.length : Int) < 4096) := by omega
        go_wp2
        go_ret
        subst hg0
        have e : endsL s h frm to = ds := by rw [HX.out]; simp [endsFrom]
        rw [e]
        exact ⟨A, c, rfl, own_base hown (by omega), ((Below.refl _ _).alloc (Nat.le_refl _) _).trans (hb.mono (by omega))⟩

set_option maxHeartbeats 400000 in
theorem rends_any (s h frm to : Int) (w : World) :
    Calls Try.prog 15 #[.agg #[.int .i64 s, .int .i64 h], .int .i64 frm, .int .i64 to] w fun e w' => ∃ A c, e = .returned (.slice A (endsL s h frm to).length c) ∧
      w'.ownsRow w.heap.size 3 1 (.slice A (endsL s h frm to).length c) (endsL s h frm to).length ((endsL s h frm to).map (Value.int .i64)) ∧ Below w.heap.size w w' := by
  have fin : ∀ w1, Below ((w.alloc (.cells #[.int .i64 s, .int .i64 h] 23)).alloc (.cells #[] 3)).heap.size ((w.alloc (.cells #[.int .i64 s, .int .i64 h] 23)).alloc (.cells #[] 3)) w1 →
      w1.ownsRow w.heap.size 3 1 (.slice (some ⟨w.heap.size + 1, 0, none⟩) 0 0) 0 [] ∧ Below w.heap.size w w1 := fun w1 hb1 =>
    ⟨own_empty (by omega) ((hb1.block _ (by simp)).trans (by rw [show w.heap.size + 1 = (w.alloc (.cells #[.int .i64 s, .int .i64 h] 23)).heap.size by simp]; exact heap_alloc_new _ _)),
      (((Below.refl _ _).alloc (Nat.le_refl _) _).alloc (by simp) _).trans (hb1.mono (by simp; omega))⟩
  have FIN := Lib.hid fin
  clear fin
  by_cases hm : mayB s h 1 = true
  · by_cases hf : frm ≤ 2199023255552
    · exact rends_go s h frm to w hm hf
    · rw [endsL_none _ _ _ _ (fun h => by omega)]
      go_enter Try.func15, Try.ntmps15
      go_wp2_with (go_at_call 12; refine (rmay_any _ _ _ _).mono ?_; rintro e w1 ⟨rfl, hb1⟩)
      go_ret
      exact ⟨_, 0, rfl, FIN.out _ hb1⟩
  · have hm' : mayB s h 1 = false := by simpa using hm
    rw [endsL_none _ _ _ _ (fun h => hm h.1)]
    go_enter Try.func15, Try.ntmps15
    go_wp2_with (go_at_call 12; refine (rmay_any _ _ _ _).mono ?_; rintro e w1 ⟨rfl, hb1⟩)
    go_ret
    exact ⟨_, 0, rfl, FIN.out _ hb1⟩
end Go.Proofs.Ytcaglkefhbbnbaa
