/- Plain: over all ends each add counts as often as there are windows that hold its tick. -/
import Derived.Test.YtcaglkefhbbnbaaLawE
namespace Go.Proofs.Ytcaglkefhbbnbaa
set_option linter.unusedVariables false
set_option linter.unusedSimpArgs false

theorem heldB_iff (s a e : Int) : heldB s a e = true ↔ a < e ∧ e ≤ a + s := by
  simp [heldB]; omega

theorem fil_from (h s a T : Int) (hh : 1 ≤ h) (hT : a + s ≤ T) : ∀ (n M : Nat) (y : Int), n ≤ M → a < y → (endsFrom h T n y).length < n → (endsFrom h T n y).filter (heldB s a) = endsFrom h (a + s) M y
  | 0, M, y, _, _, hl => by simp at hl
  | n + 1, 0, y, hM, _, _ => by omega
  | n + 1, M + 1, y, hM, hy, hl => by
    rw [endsFrom] at hl ⊢
    rw [endsFrom]
    by_cases h1 : y ≤ T
    · rw [if_pos h1] at hl ⊢
      have ih := fil_from h s a T hh hT n M (y + h) (by omega) (by omega) (by simpa using hl)
      by_cases h2 : y ≤ a + s
      · rw [if_pos h2, List.filter_cons, if_pos ((heldB_iff s a y).2 ⟨hy, h2⟩), ih]
      · rw [if_neg h2, List.filter_cons, if_neg (fun e => h2 ((heldB_iff s a y).1 e).2), ih]
        cases M with
        | zero => rfl
        | succ M => rw [endsFrom, if_neg (by omega)]
    · rw [if_neg h1, if_neg (by omega)]
      rfl

theorem fil_ahead (h s a T y : Int) (hh : 1 ≤ h) (hT : a + s ≤ T) (M : Nat) (hy : y = (a / h + 1) * h) : ∀ (n : Nat) (x : Int), n ≤ M → x % h = 0 → x ≤ y → (endsFrom h T n x).length < n → (endsFrom h T n x).filter (heldB s a) = endsFrom h (a + s) M y
  | 0, x, _, _, _, hl => by simp at hl
  | n + 1, x, hM, hx, hxy, hl => by
    have ey : y = a - a % h + h := by
      have := Int.mul_ediv_add_emod a h
      rw [hy, Int.add_mul, Int.one_mul, Int.mul_comm]; omega
    have m0 := Int.emod_nonneg a (by omega : h ≠ 0)
    have m1 := Int.emod_lt_of_pos a (by omega : 0 < h)
    by_cases e : x = y
    · subst e
      exact fil_from h s a T hh hT (n + 1) M x hM (by omega) hl
    · have hle : x + h ≤ y := by
        obtain ⟨q, rfl⟩ := Int.dvd_of_emod_eq_zero hx
        rw [hy] at hxy e ⊢
        have h1 : q ≤ a / h + 1 := by
          apply Int.le_of_mul_le_mul_left (a := h) _ (by omega)
          rw [Int.mul_comm h (a / h + 1)]; exact hxy
        have h2 : q ≠ a / h + 1 := fun e2 => e (by rw [e2, Int.mul_comm])
        have h3 : q + 1 ≤ a / h + 1 := by omega
        have h4 := Int.mul_le_mul_of_nonneg_left h3 (by omega : 0 ≤ h)
        rw [Int.mul_add, Int.mul_one] at h4
        rw [Int.mul_comm (a / h + 1) h]
        exact h4
      rw [endsFrom] at hl ⊢
      by_cases h1 : x ≤ T
      · rw [if_pos h1] at hl ⊢
        have ih := fil_ahead h s a T y hh hT M hy n (x + h) (by omega) (by rw [Int.add_emod, hx]; simp) hle (by simpa using hl)
        rw [List.filter_cons, if_neg (fun e2 => by have := ((heldB_iff s a x).1 e2).1; omega), ih]
      · rw [if_neg h1]
        cases M with
        | zero => rfl
        | succ M => rw [endsFrom, if_neg (by omega)]; rfl

theorem holdsL_eq (s h a : Int) (hm : mayB s h 1 = true) (h0 : 0 ≤ a) (h1 : a ≤ 1099511627776) : holdsL s h a = endsFrom h (a + s) 4096 ((a / h + 1) * h) := by
  have hb := may_bd hm
  unfold holdsL endsL
  rw [if_pos ⟨h0, h1, hm⟩, if_pos ⟨hm, by omega⟩]
  congr 1
  · omega
  · have : max a 0 = a := by omega
    rw [this]

theorem endsL_eq (s h T : Int) (hm : mayB s h 1 = true) (hT : T ≤ 2199023255552) : endsL s h 0 T = endsFrom h T 4096 h := by
  have hb := may_bd hm
  unfold endsL
  rw [if_pos ⟨hm, by omega⟩]
  congr 1
  · omega
  · simp

/-- How often a tick is held over all ends. -/
theorem count_ends (s h a T : Int) (hm : mayB s h 1 = true) (h0 : 0 ≤ a) (h1 : a ≤ 1099511627776) (hT : a + s ≤ T) (hT2 : T ≤ 2199023255552) (hl : (endsL s h 0 T).length < 4096) :
    (endsL s h 0 T).filter (heldB s a) = holdsL s h a := by
  have hb := may_bd hm
  rw [endsL_eq s h T hm hT2] at hl ⊢
  rw [holdsL_eq s h a hm h0 h1]
  refine fil_ahead h s a T _ (by omega) hT 4096 rfl 4096 h (Nat.le_refl _) (by simp) ?_ hl
  have := Int.ediv_nonneg h0 (by omega : 0 ≤ h)
  have h2 := Int.mul_le_mul_of_nonneg_right (by omega : 1 ≤ a / h + 1) (by omega : 0 ≤ h)
  omega

theorem endsFrom_mem (h T : Int) (hh : 1 ≤ h) : ∀ (n : Nat) (x : Int), x % h = 0 → ∀ e ∈ endsFrom h T n x, x ≤ e ∧ e ≤ T ∧ e % h = 0
  | 0, x, _, e, he => by simp [endsFrom] at he
  | n + 1, x, hx, e, he => by
    rw [endsFrom] at he
    by_cases h1 : x ≤ T
    · rw [if_pos h1] at he
      rcases List.mem_cons.1 he with rfl | he
      · exact ⟨Int.le_refl _, h1, hx⟩
      · have := endsFrom_mem h T hh n (x + h) (by rw [Int.add_emod, hx]; simp) e he
        exact ⟨by omega, this.2⟩
    · rw [if_neg h1] at he; simp at he

theorem endsL_mem (s h T : Int) (hm : mayB s h 1 = true) (hT : T ≤ 2199023255552) : ∀ e ∈ endsL s h 0 T, endB h e = true := by
  have hb := may_bd hm
  intro e he
  rw [endsL_eq s h T hm hT] at he
  have := endsFrom_mem h T (by omega) 4096 h (by simp) e he
  simp [endB]
  omega

/-- The number of times a key's adds count over the ends. -/
def cntN (s h : Int) (key : ByteArray) (a : AddD) : Int := if rightB a = true ∧ a.key = key then a.n * (holdsL s h a.at_).length else 0
def cntSum (s h : Int) (key : ByteArray) (l : List AddD) : Int := (l.map (cntN s h key)).sum

theorem sum_add2 {α : Type} (E : List α) (f g : α → Int) : (E.map (fun e => f e + g e)).sum = (E.map f).sum + (E.map g).sum := by
  induction E with
  | nil => simp
  | cons a E ih => simp only [List.map_cons, List.sum_cons, ih]; omega

theorem sum_held (s a n : Int) (E : List Int) : (E.map (fun e => if heldB s a e = true then n else 0)).sum = n * (E.filter (heldB s a)).length := by
  induction E with
  | nil => simp
  | cons e E ih =>
    rw [List.map_cons, List.sum_cons, ih, List.filter_cons]
    by_cases h : heldB s a e = true
    · rw [if_pos h, if_pos h, List.length_cons]
      rw [Int.natCast_add, Int.mul_add]; simp; omega
    · rw [if_neg h, if_neg h]; omega

theorem sum_refSum (s h T : Int) (key : ByteArray) (hm : mayB s h 1 = true) (hT2 : T ≤ 2199023255552) (hl : (endsL s h 0 T).length < 4096) : ∀ l : List AddD, (∀ a ∈ l, rightB a = true → a.key = key → a.at_ + s ≤ T) →
    ((endsL s h 0 T).map (fun e => refSum s key e l)).sum = cntSum s h key l
  | [], _ => by
    rw [show (fun e => refSum s key e []) = (fun _ : Int => (0 : Int)) from rfl]
    generalize endsL s h 0 T = E
    show _ = (0 : Int)
    induction E with
    | nil => rfl
    | cons a E ih => simp only [List.map_cons, List.sum_cons, ih]; rfl
  | a :: l, ha => by
    have ih := sum_refSum s h T key hm hT2 hl l (fun b hb => ha b (by simp [hb]))
    have e1 : (fun e => refSum s key e (a :: l)) = (fun e => addN s key e a + refSum s key e l) := rfl
    have e2 : cntSum s h key (a :: l) = cntN s h key a + cntSum s h key l := rfl
    rw [e1, sum_add2, ih, e2]
    congr 1
    unfold cntN
    by_cases hr : rightB a = true ∧ a.key = key
    · have hb := right_bd hr.1
      rw [if_pos hr, ← count_ends s h a.at_ T hm (by omega) (by omega) (ha a (by simp) hr.1 hr.2) hT2 hl, ← sum_held]
      congr 1
      apply List.map_congr_left
      intro e _
      unfold addN
      by_cases hh : heldB s a.at_ e = true
      · rw [if_pos ⟨hr.1, hr.2, hh⟩, if_pos hh]
      · rw [if_neg (fun x => hh x.2.2), if_neg hh]
    · rw [if_neg hr]
      have : (fun e => addN s key e a) = (fun _ => (0 : Int)) := by
        funext e; unfold addN; rw [if_neg (fun x => hr ⟨x.1, x.2.1⟩)]
      rw [this]
      generalize endsL s h 0 T = E
      induction E with
      | nil => rfl
      | cons a E ih => simp only [List.map_cons, List.sum_cons, ih]; rfl

theorem sum_atV (wd s h T : Int) (key : ByteArray) (hm : mayB s h wd = true) (hm1 : mayB s h 1 = true) (hT2 : T ≤ 2199023255552) (hl : (endsL s h 0 T).length < 4096) (l : List AddD) (ha : ∀ a ∈ l, rightB a = true → a.key = key → a.at_ + s ≤ T) :
    ((endsL s h 0 T).map (fun e => atV wd (l.filter rightB) s h key e)).sum = cntSum s h key l := by
  rw [← sum_refSum s h T key hm1 hT2 hl l ha]
  congr 1
  apply List.map_congr_left
  intro e he
  rw [atV_refAt]
  unfold refAt
  rw [if_pos (by simp [isEndB, hm, endsL_mem s h T hm1 hT2 e he])]

theorem may_one {s h wd : Int} (hm : mayB s h wd = true) : mayB s h 1 = true := by
  simp [mayB, fitsB] at hm ⊢
  omega

/-- Windows that tumble hold each tick once, those that slide by half twice. -/
theorem holds_whole (s a : Int) (hm : mayB s s 1 = true) (h0 : 0 ≤ a) (h1 : a ≤ 1099511627776) : (holdsL s s a).length = 1 := by
  have hb := may_bd hm
  rw [holdsL_eq s s a hm h0 h1]
  have ey : (a / s + 1) * s = a - a % s + s := by
    have := Int.mul_ediv_add_emod a s
    rw [Int.add_mul, Int.one_mul, Int.mul_comm]; omega
  have m0 := Int.emod_nonneg a (by omega : s ≠ 0)
  have m1 := Int.emod_lt_of_pos a (by omega : 0 < s)
  rw [ey, show (4096 : Nat) = 4094 + 1 + 1 from rfl, endsFrom, if_pos (by omega), endsFrom, if_neg (by omega)]
  rfl
theorem holds_half (h a : Int) (hm : mayB (2 * h) h 1 = true) (h0 : 0 ≤ a) (h1 : a ≤ 1099511627776) : (holdsL (2 * h) h a).length = 2 := by
  have hb := may_bd hm
  rw [holdsL_eq (2 * h) h a hm h0 h1]
  have ey : (a / h + 1) * h = a - a % h + h := by
    have := Int.mul_ediv_add_emod a h
    rw [Int.add_mul, Int.one_mul, Int.mul_comm]; omega
  have m0 := Int.emod_nonneg a (by omega : h ≠ 0)
  have m1 := Int.emod_lt_of_pos a (by omega : 0 < h)
  rw [ey, show (4096 : Nat) = 4093 + 1 + 1 + 1 from rfl, endsFrom, if_pos (by omega), endsFrom, if_pos (by omega), endsFrom, if_neg (by omega)]
  rfl

def allN (key : ByteArray) (a : AddD) : Int := if rightB a = true ∧ a.key = key then a.n else 0
def allSum (key : ByteArray) (l : List AddD) : Int := (l.map (allN key)).sum
theorem allSum_snoc (key : ByteArray) (l : List AddD) (a : AddD) : allSum key (l ++ [a]) = allSum key l + allN key a := by simp [allSum]
theorem allSum_bd (key : ByteArray) : ∀ l : List AddD, 0 ≤ allSum key l ∧ allSum key l ≤ 1048576 * l.length
  | [] => by simp [allSum]
  | a :: l => by
    have ih := allSum_bd key l
    have e : allSum key (a :: l) = allN key a + allSum key l := rfl
    rw [e]
    simp only [List.length_cons]
    unfold allN
    split
    · rename_i h; have := right_bd h.1; omega
    · omega
theorem cnt_const (s h : Int) (key : ByteArray) (c : Nat) (hc : ∀ a, 0 ≤ a → a ≤ 1099511627776 → (holdsL s h a).length = c) : ∀ l, cntSum s h key l = c * allSum key l
  | [] => by simp [cntSum, allSum]
  | a :: l => by
    have e1 : cntSum s h key (a :: l) = cntN s h key a + cntSum s h key l := rfl
    have e2 : allSum key (a :: l) = allN key a + allSum key l := rfl
    rw [e1, e2, cnt_const s h key c hc l, Int.mul_add]
    congr 1
    unfold cntN allN
    split
    · rename_i h1
      have := right_bd h1.1
      rw [hc _ (by omega) (by omega), Int.mul_comm]
    · simp

theorem endsFrom_short (h T : Int) (hh : 1 ≤ h) : ∀ (n : Nat) (x : Int), ((endsFrom h T n x).length : Int) ≤ max 0 (T - x + 1)
  | 0, x => by simp [endsFrom]; omega
  | n + 1, x => by
    rw [endsFrom]
    by_cases h1 : x ≤ T
    · have := endsFrom_short h T hh n (x + h)
      rw [if_pos h1, List.length_cons]
      omega
    · rw [if_neg h1]; simp; omega
end Go.Proofs.Ytcaglkefhbbnbaa
