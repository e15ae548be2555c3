/- Contracts of the reference's functions on rows of counters (ciceroneref14): ahead, Minus, Plus, Sort. -/
import Derived.Test.YtpjaolablkcpmaaHvQ
import Derived.Test.YtpjaolablkcpmaaHvC
import Derived.Test.YtpjaolablkcpmaaIns
namespace Go.Proofs.Ytpjaolablkcpmaa
open Go.ChangeShapes Go.WideShapes Go.ChangeAt Go.RowKit Go.Shelf Go.Lib Go.Sort Go.Proofs
set_option linter.unusedVariables false
set_option linter.unusedSimpArgs false

theorem cntLt_is (a b : CntV) : cntLt a b = if b.n < a.n then true else if a.n = b.n then sLt a.key b.key else false := by
  have h := cntLt_iff a b
  by_cases h1 : b.n < a.n
  · rw [if_pos h1]; exact h.2 (.inl h1)
  · rw [if_neg h1]
    by_cases h2 : a.n = b.n
    · rw [if_pos h2]
      cases hs : sLt a.key b.key with
      | true => exact h.2 (.inr ⟨h2.symm, hs⟩)
      | false =>
        cases hr : cntLt a b with
        | false => rfl
        | true =>
          rcases h.1 hr with h3 | ⟨_, h3⟩
          · omega
          · rw [hs] at h3; cases h3
    · rw [if_neg h2]
      cases hr : cntLt a b with
      | false => rfl
      | true => rcases h.1 hr with h3 | ⟨h3, _⟩ <;> omega

set_option maxRecDepth 20000 in
set_option maxHeartbeats 1000000 in
theorem rahead_any (a b : CntV) (w : World) :
    Calls Try.prog 72 #[.agg #[.string a.key, .int .i64 a.n], .agg #[.string b.key, .int .i64 b.n]] w fun e w' => e = .returned (.bool (cntLt a b)) ∧ Below w.heap.size w w' := by
  have hb : ∀ o1 o2 : Obj, Below w.heap.size w ((w.alloc o1).alloc o2) := fun o1 o2 => ((Below.refl _ _).alloc (Nat.le_refl _) _).alloc (by simp) _
  have HB := Lib.hid hb
  have HL := Lib.hid (cntLt_is a b)
  clear hb
  by_cases h1 : b.n < a.n
  · go_enter Try.func72, Try.ntmps72
    go_wp2
    go_ret
    exact ⟨ret_bool (by rw [HL.out, if_pos h1]), HB.out _ _⟩
  · by_cases h2 : a.n = b.n
    · have h2' : (a.n == b.n) = true := by simpa using h2
      have H2 := Lib.hid h2
      have H1 := Lib.hid h1
      clear h2
      go_enter Try.func72, Try.ntmps72
      go_wp2
      go_ret
      exact ⟨ret_bool (by rw [HL.out, if_neg (by have := H1.out; omega), if_pos H2.out]; rfl), HB.out _ _⟩
    · have h2' : (a.n == b.n) = false := by simpa using h2
      have H1 := Lib.hid h1
      have H2 := Lib.hid h2
      clear h2
      go_enter Try.func72, Try.ntmps72
      go_wp2
      go_ret
      exact ⟨ret_bool (by rw [HL.out, if_neg (by have := H1.out; omega), if_neg H2.out]), HB.out _ _⟩

/-- A row of counters is handed back; what was there stays. -/
def RowC (w : World) (ts : List CntV) (e : Ending) (w' : World) : Prop :=
  ∃ g c, e = .returned (.slice (some ⟨g, 0, none⟩) ts.length c) ∧ w'.ownsRow w.heap.size 28 2 (.slice (some ⟨g, 0, none⟩) ts.length c) ts.length (ts.flatMap cntEnc) ∧ Below w.heap.size w w'
theorem row_start (w : World) : (w.alloc (.cells #[] 28)).ownsRow w.heap.size 28 2 (.slice (some ⟨w.heap.size, 0, none⟩) 0 0) 0 [] := own_empty (Nat.le_refl _) (heap_alloc_new w _)

set_option maxRecDepth 20000 in
set_option maxHeartbeats 4000000 in
theorem rminus_any (A : Option Addr) (B c0 : Nat) (l : List CntV) (c : Int) (w : World) (hat : CntsAt w B A l) (hB : B ≤ w.heap.size) (hl : (l.length : Int) ≤ 100000) (hc : 0 ≤ c ∧ c ≤ 2199023255552) (hv : ∀ x ∈ l, 0 ≤ x.n ∧ x.n ≤ 2199023255552) :
    Calls Try.prog 51 #[.slice A l.length c0, .int .i64 c] w (RowC w (minusC l c)) := by
  have ho0 := row_start w
  have hb0 : Below w.heap.size w (w.alloc (.cells #[] 28)) := (Below.refl _ _).alloc (Nat.le_refl _) _
  have HAT := Lib.hid hat
  have HV := Lib.hid hv
  clear hat hv
  go_enter Try.func51, Try.ntmps51
  go_wp2_with fail
  generalize w.alloc (.cells #[] 28) = W0 at *
  go_loopg [5, 6] l.length (fun rest s i wr => ∃ (k g : Nat) (c4 : Nat) (out : List CntV), i = .int .i64 k ∧ Hid (k + rest = l.length) ∧ s = .slice (some ⟨g, 0, none⟩) out.length c4 ∧ Hid (out = minusC (l.take k) c) ∧
    wr.ownsRow w.heap.size 28 2 (.slice (some ⟨g, 0, none⟩) out.length c4) out.length (out.flatMap cntEnc) ∧ Below w.heap.size w wr)
  case atStart => exact ⟨0, _, 0, [], rfl, Lib.hid (by simp), rfl, Lib.hid (by simp [minusC]), ho0, hb0⟩
  case round =>
    clear ho0 hb0
    obtain ⟨k, g, c4, out, rfl, HK, rfl, HO, hown, hb⟩ := hrel
    have hol : (out.length : Int) ≤ (k : Int) := by
      have h1 := minusC_len (l.take k) c
      have h2 := List.length_take_le k l
      rw [← HO.out] at h1
      omega
    have hzr := hb.size
    by_cases hk : (k : Int) < (l.length : Int)
    · have hkl : k < l.length := by omega
      obtain ⟨b, o, rfl, hbl, d1, d2⟩ := (HAT.out.below (hb.mono hB)).one hkl
      have hvy := HV.out _ (List.getElem_mem hkl)
      have hsn : minusC (l.take (k + 1)) c = out ++ (if c < (l[k]).n then [⟨(l[k]).key, (l[k]).n - c⟩] else []) := by
        rw [List.take_succ_eq_append_getElem hkl, minusC_snoc, ← HO.out]
      have HSN := Lib.hid hsn
      clear hsn
      generalize l[k] = y at *
      by_cases hy : c < y.n
      · have HSN2 : Hid (minusC (l.take (k + 1)) c = out ++ [⟨y.key, y.n - c⟩]) := Lib.hid (by rw [HSN.out, if_pos hy])
        have hbw : b < wr.heap.size := by omega
        have hw1 : IntKind.i64.wrap (y.n - c) = y.n - c := IntWalk.i64_in _ (by omega)
        go_wp2_with fail
        have hKe : Below wr.heap.size wr wr.drew := (Below.refl _ _).drew
        refine heldStart 16 (S := fun W => W.cell? ⟨b, o + k * 2, none⟩ = some (.string y.key) ∧ W.cell? ⟨b, o + k * 2 + 1, none⟩ = some (.int .i64 y.n)) (by kernel_rfl) ?_ (fun hHeld => ?_)
        · first | exact ⟨(hb6.cell (p := ⟨b, o + k * 2, none⟩) (by show b < _; omega)).trans d1, (hb6.cell (p := ⟨b, o + k * 2 + 1, none⟩) (by show b < _; omega)).trans d2⟩ | exact ⟨(Below.cell (p := ⟨b, o + k * 2, none⟩) (by repeat (first | exact Below.refl _ _ | refine Below.alloc ?_ (by simp) _ | refine Below.drew ?_)) hbw).trans d1, (Below.cell (p := ⟨b, o + k * 2 + 1, none⟩) (by repeat (first | exact Below.refl _ _ | refine Below.alloc ?_ (by simp) _ | refine Below.drew ?_)) hbw).trans d2⟩
        refine heldTake 0 (v := ?_) (by simp only [List.getElem?_toArray, List.getElem?_cons_succ, List.getElem?_cons_zero]; rfl) (by kernel_rfl) (by intro _ _ _ h; exact h) (by rfl) (by assumption) ?_ ?_
        rotate_left
        · intro W hSw; (try dsimp only at hSw); go_simp; try with_reducible rfl
        simp only [Act.put, List.setIfInBounds_toArray, List.set_cons_zero, List.set_cons_succ]
        refine heldTake 1 (v := ?_) (by simp only [List.getElem?_toArray, List.getElem?_cons_succ, List.getElem?_cons_zero]; rfl) (by kernel_rfl) (by intro _ _ _ h; exact h) (by rfl) (by assumption) ?_ ?_
        rotate_left
        · intro W hSw; (try dsimp only at hSw); go_simp; try with_reducible rfl
        simp only [Act.put, List.setIfInBounds_toArray, List.set_cons_zero, List.set_cons_succ]
        refine heldTake 2 (v := ?_) (by simp only [List.getElem?_toArray, List.getElem?_cons_succ, List.getElem?_cons_zero]; rfl) (by kernel_rfl) (by intro _ _ _ h; exact h) (by rfl) (by assumption) ?_ ?_
        rotate_left
        · intro W hSw; (try dsimp only at hSw); go_simp; try with_reducible rfl
        simp only [Act.put, List.setIfInBounds_toArray, List.set_cons_zero, List.set_cons_succ]
        refine heldTake 3 (v := ?_) (by simp only [List.getElem?_toArray, List.getElem?_cons_succ, List.getElem?_cons_zero]; rfl) (by kernel_rfl) (by intro _ _ _ h; exact h) (by rfl) (by assumption) ?_ ?_
        rotate_left
        · intro W hSw; (try dsimp only at hSw); go_simp; try with_reducible rfl
        simp only [Act.put, List.setIfInBounds_toArray, List.set_cons_zero, List.set_cons_succ]
        refine heldTake 4 (v := ?_) (by simp only [List.getElem?_toArray, List.getElem?_cons_succ, List.getElem?_cons_zero]; rfl) (by kernel_rfl) (by intro _ _ _ h; exact h) (by rfl) (by assumption) ?_ ?_
        rotate_left
        · intro W hSw; (try dsimp only at hSw); go_simp; try with_reducible rfl
        simp only [Act.put, List.setIfInBounds_toArray, List.set_cons_zero, List.set_cons_succ]
        refine heldTake 5 (v := ?_) (by simp only [List.getElem?_toArray, List.getElem?_cons_succ, List.getElem?_cons_zero]; rfl) (by kernel_rfl) (by intro _ _ _ h; exact h) (by rfl) (by assumption) ?_ ?_
        rotate_left
        · intro W hSw; (try dsimp only at hSw); go_simp; try with_reducible rfl
        simp only [Act.put, List.setIfInBounds_toArray, List.set_cons_zero, List.set_cons_succ]
        refine heldTake 6 (v := ?_) (by simp only [List.getElem?_toArray, List.getElem?_cons_succ, List.getElem?_cons_zero]; rfl) (by kernel_rfl) (by intro _ _ _ h; exact h) (by rfl) (by assumption) ?_ ?_
        rotate_left
        · intro W hSw; (try dsimp only at hSw); go_simp; try with_reducible rfl
        simp only [Act.put, List.setIfInBounds_toArray, List.set_cons_zero, List.set_cons_succ]
        refine heldTake 7 (v := ?_) (by simp only [List.getElem?_toArray, List.getElem?_cons_succ, List.getElem?_cons_zero]; rfl) (by kernel_rfl) (by intro _ _ _ h; exact h) (by rfl) (by assumption) ?_ ?_
        rotate_left
        · intro W hSw; (try dsimp only at hSw); go_simp; try with_reducible rfl
        simp only [Act.put, List.setIfInBounds_toArray, List.set_cons_zero, List.set_cons_succ]
        refine heldTake 8 (v := ?_) (by simp only [List.getElem?_toArray, List.getElem?_cons_succ, List.getElem?_cons_zero]; rfl) (by kernel_rfl) (by intro _ _ _ h; exact h) (by rfl) (by assumption) ?_ ?_
        rotate_left
        · intro W hSw; (try dsimp only at hSw); go_simp; try with_reducible rfl
        simp only [Act.put, List.setIfInBounds_toArray, List.set_cons_zero, List.set_cons_succ]
        refine heldTake 9 (v := ?_) (by simp only [List.getElem?_toArray, List.getElem?_cons_succ, List.getElem?_cons_zero]; rfl) (by kernel_rfl) (by intro _ _ _ h; exact h) (by rfl) (by assumption) ?_ ?_
        rotate_left
        · intro W hSw; (try dsimp only at hSw); go_simp; try with_reducible rfl
        simp only [Act.put, List.setIfInBounds_toArray, List.set_cons_zero, List.set_cons_succ]
        refine heldTake 10 (v := ?_) (by simp only [List.getElem?_toArray, List.getElem?_cons_succ, List.getElem?_cons_zero]; rfl) (by kernel_rfl) (by intro _ _ _ h; exact h) (by rfl) (by assumption) ?_ ?_
        rotate_left
        · intro W hSw; (try dsimp only at hSw); go_simp; try with_reducible rfl
        simp only [Act.put, List.setIfInBounds_toArray, List.set_cons_zero, List.set_cons_succ]
        refine heldTake 11 (v := ?_) (by simp only [List.getElem?_toArray, List.getElem?_cons_succ, List.getElem?_cons_zero]; rfl) (by kernel_rfl) (by intro _ _ _ h; exact h) (by rfl) (by assumption) ?_ ?_
        rotate_left
        · intro W hSw; (try dsimp only at hSw); go_simp; try with_reducible rfl
        simp only [Act.put, List.setIfInBounds_toArray, List.set_cons_zero, List.set_cons_succ]
        refine heldTake 12 (v := ?_) (by simp only [List.getElem?_toArray, List.getElem?_cons_succ, List.getElem?_cons_zero]; rfl) (by kernel_rfl) (by intro _ _ _ h; exact h) (by rfl) (by assumption) ?_ ?_
        rotate_left
        · intro W hSw; (try dsimp only at hSw); go_simp; try with_reducible rfl
        simp only [Act.put, List.setIfInBounds_toArray, List.set_cons_zero, List.set_cons_succ]
        refine heldTake 13 (v := ?_) (by simp only [List.getElem?_toArray, List.getElem?_cons_succ, List.getElem?_cons_zero]; rfl) (by kernel_rfl) (by intro _ _ _ h; exact h) (by rfl) (by assumption) ?_ ?_
        rotate_left
        · intro W hSw; (try dsimp only at hSw); go_simp; try with_reducible rfl
        simp only [Act.put, List.setIfInBounds_toArray, List.set_cons_zero, List.set_cons_succ]
        refine heldCall 14 (by simp only [List.getElem?_toArray, List.getElem?_cons_succ, List.getElem?_cons_zero]; rfl) (by kernel_rfl) (fun K hK => ?_)
        go_simp
        refine hK.out _ _ ?_ (fun hHeld => ?_)
        · first | exact ⟨(hb6.cell (p := ⟨b, o + k * 2, none⟩) (by show b < _; omega)).trans d1, (hb6.cell (p := ⟨b, o + k * 2 + 1, none⟩) (by show b < _; omega)).trans d2⟩ | exact ⟨(Below.cell (p := ⟨b, o + k * 2, none⟩) (by repeat (first | exact Below.refl _ _ | refine Below.alloc ?_ (by simp) _ | refine Below.drew ?_)) hbw).trans d1, (Below.cell (p := ⟨b, o + k * 2 + 1, none⟩) (by repeat (first | exact Below.refl _ _ | refine Below.alloc ?_ (by simp) _ | refine Below.drew ?_)) hbw).trans d2⟩
        clear hK K
        (try simp only [Act.put, List.setIfInBounds_toArray, List.set_cons_zero, List.set_cons_succ])
        refine heldLaw 15 (by simp only [List.getElem?_toArray, List.getElem?_cons_succ, List.getElem?_cons_zero]; rfl) (by kernel_rfl) (by rfl) (fun K hK => ?_)
        refine wp_append_one _ (.tmp 21) (.tmp 35) _ rfl w.heap.size 28 (.agg #[.string ByteArray.empty, .int .i64 0]) 2 24 Try.underlying22 cnt_info rfl (by decide) (some ⟨g, 0, none⟩) out.length c4 _ rfl hown.drew [.string y.key, .int .i64 (y.n - c)] rfl rfl (by intro u hu; simp at hu; rcases hu with rfl | rfl <;> rfl) (by omega) (by unfold maxLen; omega) (show w.heap.size ≤ wr.drew.heap.size from hzr) ?_
        intro A6 c6 w6 hown6 hg6 hb6 _
        refine hK.out _ _ ?_ (fun hHeld => ?_)
        · first | exact ⟨(hb6.cell (p := ⟨b, o + k * 2, none⟩) (by show b < _; omega)).trans d1, (hb6.cell (p := ⟨b, o + k * 2 + 1, none⟩) (by show b < _; omega)).trans d2⟩ | exact ⟨(Below.cell (p := ⟨b, o + k * 2, none⟩) (by repeat (first | exact Below.refl _ _ | refine Below.alloc ?_ (by simp) _ | refine Below.drew ?_)) hbw).trans d1, (Below.cell (p := ⟨b, o + k * 2 + 1, none⟩) (by repeat (first | exact Below.refl _ _ | refine Below.alloc ?_ (by simp) _ | refine Below.drew ?_)) hbw).trans d2⟩
        clear hK K
        (try simp only [Act.put, List.setIfInBounds_toArray, List.set_cons_zero, List.set_cons_succ])
        refine heldTake 16 (v := ?_) (by simp only [List.getElem?_toArray, List.getElem?_cons_succ, List.getElem?_cons_zero]; rfl) (by kernel_rfl) (by intro _ _ _ h; exact h) (by rfl) (by assumption) ?_ ?_
        rotate_left
        · intro W hSw; (try dsimp only at hSw); go_simp; try with_reducible rfl
        simp only [Act.put, List.setIfInBounds_toArray, List.set_cons_zero, List.set_cons_succ]
        refine heldDone (by kernel_rfl) ?_ _
        have hb7 : Below w.heap.size w w6 := (hb.drew).trans hb6
        obtain ⟨g6, cap6, hv6, _, _⟩ := hown6.form (by omega)
        injection hv6 with hv6 _ hc6
        subst hv6
        subst hc6
        go_wp2
        go_roundg (gk - 1)
        case measure => have := HK.out; omega
        case rel =>
          refine ⟨k + 1, g6, c6, out ++ [⟨y.key, y.n - c⟩], by go_num, Lib.hid (by have := HK.out; omega), by simp, Lib.hid HSN2.out.symm, ?_, hb7⟩
          rw [show (out ++ [(⟨y.key, y.n - c⟩ : CntV)]).length = out.length + 1 by simp, List.flatMap_append]
          exact hown6
      · have HSN2 : Hid (minusC (l.take (k + 1)) c = out) := Lib.hid (by rw [HSN.out, if_neg hy]; simp)
        go_wp2
        go_roundg (gk - 1)
        case measure => have := HK.out; omega
        case rel => exact ⟨k + 1, g, c4, out, by go_num, Lib.hid (by have := HK.out; omega), rfl, Lib.hid HSN2.out.symm, hown, hb⟩
    · have hall : l.take k = l := List.take_of_length_le (by omega)
      have HO2 : Hid (out = minusC l c) := Lib.hid (by rw [HO.out, hall])
      go_wp2
      go_ret
      rw [← HO2.out]
      exact ⟨g, c4, rfl, hown, hb⟩

set_option maxRecDepth 20000 in
set_option maxHeartbeats 4000000 in
theorem rplus_any (A : Option Addr) (B c0 : Nat) (l : List CntV) (key : ByteArray) (n : Int) (w : World) (hat : CntsAt w B A l) (hB : B ≤ w.heap.size) (hl : (l.length : Int) ≤ 100000) (hn : 0 ≤ n ∧ n ≤ 2199023255552) (hv : ∀ x ∈ l, 0 ≤ x.n ∧ x.n ≤ 2199023255552) :
    Calls Try.prog 41 #[.slice A l.length c0, .string key, .int .i64 n] w (RowC w (plusC l key n)) := by
  have ho0 := row_start w
  have hb0 : Below w.heap.size w (w.alloc (.cells #[] 28)) := (Below.refl _ _).alloc (Nat.le_refl _) _
  have hnz : (n == 0) = decide (n = 0) := int_beq n 0
  have HAT := Lib.hid hat
  have HV := Lib.hid hv
  have HP : Hid (plusC l key n = bumpC l key n ++ (if (decide (n = 0) || hasC l key) = true then [] else [⟨key, n⟩])) := Lib.hid rfl
  clear hat hv
  generalize hnd : decide (n = 0) = nz at *
  have HND := Lib.hid hnd
  clear hnd
  go_enter Try.func41, Try.ntmps41
  go_wp2_with fail
  generalize w.alloc (.cells #[] 28) = W0 at *
  go_loopg [7, 8, 9] l.length (fun rest s d i wr => ∃ (k g : Nat) (c4 : Nat) (out : List CntV), i = .int .i64 k ∧ Hid (k + rest = l.length) ∧ s = .slice (some ⟨g, 0, none⟩) out.length c4 ∧ d = .bool (nz || hasC (l.take k) key) ∧ Hid (out = bumpC (l.take k) key n) ∧
    wr.ownsRow w.heap.size 28 2 (.slice (some ⟨g, 0, none⟩) out.length c4) out.length (out.flatMap cntEnc) ∧ Below w.heap.size w wr)
  case atStart => exact ⟨0, _, 0, [], rfl, Lib.hid (by simp), rfl, by simp [hasC], Lib.hid (by simp [bumpC]), ho0, hb0⟩
  case round =>
    clear ho0 hb0
    obtain ⟨k, g, c4, out, rfl, HK, rfl, rfl, HO, hown, hb⟩ := hrel
    have hol : (out.length : Int) ≤ (k : Int) := by
      have h1 := bumpC_len (l.take k) key n
      have h2 := List.length_take_le k l
      rw [← HO.out] at h1
      omega
    have hzr := hb.size
    by_cases hk : (k : Int) < (l.length : Int)
    · have hkl : k < l.length := by omega
      obtain ⟨b, o, rfl, hbl, d1, d2⟩ := (HAT.out.below (hb.mono hB)).one hkl
      have hvy := HV.out _ (List.getElem_mem hkl)
      have hsn : bumpC (l.take (k + 1)) key n = out ++ [if (l[k]).key = key then ⟨(l[k]).key, (l[k]).n + n⟩ else l[k]] := by
        rw [List.take_succ_eq_append_getElem hkl, bumpC_snoc, ← HO.out]
      have hhn : hasC (l.take (k + 1)) key = (hasC (l.take k) key || decide ((l[k]).key = key)) := by
        rw [List.take_succ_eq_append_getElem hkl, hasC_snoc]
      have HSN := Lib.hid hsn
      have HHN := Lib.hid hhn
      clear hsn hhn
      generalize l[k] = y at *
      have hbw : b < wr.heap.size := by omega
      generalize hasC (l.take k) key = hh at *
      have hbx : ∀ o1 : Obj, Below w.heap.size w (wr.alloc o1) := fun o1 => hb.alloc hzr _
      by_cases hy : y.key = key
      · have he : (y.key.toList == key.toList) = true := by rw [str_beq]; simpa using hy
        have HSN2 : Hid (bumpC (l.take (k + 1)) key n = out ++ [⟨y.key, y.n + n⟩]) := Lib.hid (by rw [HSN.out, if_pos hy])
        have HHN2 : Hid (hasC (l.take (k + 1)) key = true) := Lib.hid (by rw [HHN.out, decide_eq_true hy, Bool.or_true])
        have hw1 : wrap64 (y.n + n) = y.n + n := by unfold wrap64; omega
        clear hy HSN HHN
        have HBW1 : Hid (Below w.heap.size w (wr.alloc (Obj.cells #[Value.string y.key, Value.int .i64 (y.n + n)] 28))) := Lib.hid (hbx _)
        have hsz1 : (wr.alloc (Obj.cells #[Value.string y.key, Value.int .i64 (y.n + n)] 28)).heap.size = wr.heap.size + 1 := (by simp)
        obtain ⟨W9, hW9⟩ : ∃ W9, W9 = (wr.alloc (Obj.cells #[Value.string y.key, Value.int .i64 (y.n + n)] 28)).alloc (Obj.cells #[Value.string y.key, Value.int .i64 (y.n + n)] 28) := ⟨_, rfl⟩
        have HOW9 : Hid (W9.ownsRow w.heap.size 28 2 (.slice (some ⟨g, 0, none⟩) out.length c4) out.length (out.flatMap cntEnc)) := Lib.hid (by rw [hW9]; exact (hown.alloc _).alloc _)
        have HBW9 : Hid (Below w.heap.size w W9) := Lib.hid (by rw [hW9]; exact HBW1.out.alloc HBW1.out.size _)
        have hbk9 : W9.heap[wr.heap.size + 1]? = some (Obj.cells #[Value.string y.key, Value.int .i64 (y.n + n)] 28) := by rw [hW9, ← hsz1]; exact heap_alloc_new _ _
        have HRD9 : Hid (Reads W9 (wr.heap.size + 1 + 1) 2 (some ⟨wr.heap.size + 1, 0, none⟩) 1 [.string y.key, .int .i64 (y.n + n)]) := Lib.hid (reads_blk hbk9 rfl)
        have HZ9 : Hid (w.heap.size ≤ W9.heap.size) := Lib.hid HBW9.out.size
        clear hbk9 hsz1
        go_wp2_with (at_builtin; rw [← hW9]; refine wpList_append_to W9 (by rfl) (.tmp 33) (.tmp 35) _ rfl w.heap.size 28 (.agg #[.string ByteArray.empty, .int .i64 0]) 2 24 Try.underlying22 cnt_info rfl (by decide) (some ⟨g, 0, none⟩) out.length c4 _ rfl HOW9.out (some ⟨wr.heap.size + 1, 0, none⟩) (wr.heap.size + 1 + 1) 1 1 [.string y.key, .int .i64 (y.n + n)] rfl HRD9.out (fun h => by cases h) (by intro u hu; simp at hu; rcases hu with rfl | rfl <;> rfl) (out.length + 1) rfl (by unfold maxLen; omega) (by omega) HZ9.out ?_; intro A6 c6 w6 hown6 hg6 hb6)
        have hb7 : Below w.heap.size w w6 := HBW9.out.trans hb6
        obtain ⟨g6, cap6, hv6, _, _⟩ := hown6.form (by omega)
        injection hv6 with hv6 _ hc6
        subst hv6
        subst hc6
        go_wp2
        go_roundg (gk - 1)
        case measure => have := HK.out; omega
        case rel =>
          refine ⟨k + 1, g6, c6, out ++ [⟨y.key, y.n + n⟩], by go_num, Lib.hid (by have := HK.out; omega), by simp, by rw [HHN2.out]; simp, Lib.hid HSN2.out.symm, ?_, hb7⟩
          rw [show (out ++ [(⟨y.key, y.n + n⟩ : CntV)]).length = out.length + 1 by simp, List.flatMap_append]
          exact hown6
      · have he : (y.key.toList == key.toList) = false := by rw [str_beq]; simpa using hy
        have HSN2 : Hid (bumpC (l.take (k + 1)) key n = out ++ [y]) := Lib.hid (by rw [HSN.out, if_neg hy])
        have HHN2 : Hid (hasC (l.take (k + 1)) key = hh) := Lib.hid (by rw [HHN.out, decide_eq_false hy, Bool.or_false])
        clear hy HSN HHN
        have HBW1 : Hid (Below w.heap.size w (wr.alloc (Obj.cells #[Value.string y.key, Value.int .i64 y.n] 28))) := Lib.hid (hbx _)
        have hsz1 : (wr.alloc (Obj.cells #[Value.string y.key, Value.int .i64 y.n] 28)).heap.size = wr.heap.size + 1 := (by simp)
        obtain ⟨W9, hW9⟩ : ∃ W9, W9 = (wr.alloc (Obj.cells #[Value.string y.key, Value.int .i64 y.n] 28)).alloc (Obj.cells #[Value.string y.key, Value.int .i64 y.n] 28) := ⟨_, rfl⟩
        have HOW9 : Hid (W9.ownsRow w.heap.size 28 2 (.slice (some ⟨g, 0, none⟩) out.length c4) out.length (out.flatMap cntEnc)) := Lib.hid (by rw [hW9]; exact ((hown.alloc _)).alloc _)
        have HBW9 : Hid (Below w.heap.size w W9) := Lib.hid (by rw [hW9]; exact HBW1.out.alloc HBW1.out.size _)
        have hbk9 : W9.heap[wr.heap.size + 1]? = some (Obj.cells #[Value.string y.key, Value.int .i64 y.n] 28) := by rw [hW9, ← hsz1]; exact heap_alloc_new _ _
        have HRD9 : Hid (Reads W9 (wr.heap.size + 1 + 1) 2 (some ⟨wr.heap.size + 1, 0, none⟩) 1 [.string y.key, .int .i64 y.n]) := Lib.hid (reads_blk hbk9 rfl)
        have HZ9 : Hid (w.heap.size ≤ W9.heap.size) := Lib.hid HBW9.out.size
        clear hbk9 hsz1
        go_wp2_with (at_builtin; rw [← hW9]; refine wpList_append_to W9 (by rfl) (.tmp 33) (.tmp 35) _ rfl w.heap.size 28 (.agg #[.string ByteArray.empty, .int .i64 0]) 2 24 Try.underlying22 cnt_info rfl (by decide) (some ⟨g, 0, none⟩) out.length c4 _ rfl HOW9.out (some ⟨wr.heap.size + 1, 0, none⟩) (wr.heap.size + 1 + 1) 1 1 [.string y.key, .int .i64 y.n] rfl HRD9.out (fun h => by cases h) (by intro u hu; simp at hu; rcases hu with rfl | rfl <;> rfl) (out.length + 1) rfl (by unfold maxLen; omega) (by omega) HZ9.out ?_; intro A6 c6 w6 hown6 hg6 hb6)
        have hb7 : Below w.heap.size w w6 := HBW9.out.trans hb6
        obtain ⟨g6, cap6, hv6, _, _⟩ := hown6.form (by omega)
        injection hv6 with hv6 _ hc6
        subst hv6
        subst hc6
        go_wp2
        go_roundg (gk - 1)
        case measure => have := HK.out; omega
        case rel =>
          refine ⟨k + 1, g6, c6, out ++ [y], by go_num, Lib.hid (by have := HK.out; omega), by simp, by rw [HHN2.out], Lib.hid HSN2.out.symm, ?_, hb7⟩
          rw [show (out ++ [(y : CntV)]).length = out.length + 1 by simp, List.flatMap_append]
          exact hown6
    · have hall : l.take k = l := List.take_of_length_le (by omega)
      have HO2 : Hid (out = bumpC l key n) := Lib.hid (by rw [HO.out, hall])
      rw [hall]
      have HF : Hid (plusC l key n = out ++ (if (nz || hasC l key) = true then [] else [⟨key, n⟩])) := Lib.hid (by rw [HP.out, ← HO2.out])
      clear HP
      generalize hasC l key = hh at *
      have hkb : (k : Int) ≤ (l.length : Int) := by have := HK.out; omega
      cases hq : nz || hh with
      | true =>
        have HF2 : Hid (plusC l key n = out) := Lib.hid (by rw [HF.out, hq, if_pos rfl, List.append_nil])
        go_wp2
        go_ret
        rw [HF2.out]
        exact ⟨g, c4, rfl, hown, hb⟩
      | false =>
        have HF2 : Hid (plusC l key n = out ++ [⟨key, n⟩]) := Lib.hid (by rw [HF.out, hq, if_neg (by simp)])
        go_wp2_with (at_builtin; refine wpList_append_one wr rfl _ _ _ rfl w.heap.size 28 (.agg #[.string ByteArray.empty, .int .i64 0]) 2 24 Try.underlying22 cnt_info rfl (by decide) (some ⟨g, 0, none⟩) out.length c4 _ rfl hown [.string key, .int .i64 n] rfl rfl (by intro u hu; simp at hu; rcases hu with rfl | rfl <;> rfl) (by omega) (by unfold maxLen; omega) (by omega) ?_; intro A6 c6 w6 hown6 hg6 hb6)
        have hb7 : Below w.heap.size w w6 := hb.trans hb6
        obtain ⟨g6, cap6, hv6, _, _⟩ := hown6.form (by omega)
        injection hv6 with hv6 _ hc6
        subst hv6
        subst hc6
        go_wp2
        go_ret
        rw [HF2.out]
        refine ⟨g6, c6, by simp, ?_, hb7⟩
        rw [show (out ++ [(⟨key, n⟩ : CntV)]).length = out.length + 1 by simp, List.flatMap_append]
        exact hown6

/-- Put in from the end. -/
theorem ins_end {out : List CntV} (hs : out.Pairwise (fun x y => cntLt x y = true)) {x : CntV} {m : Nat} (hm : m ≤ out.length) (h1 : ∀ j (hj : j < out.length), m ≤ j → cntLt x out[j] = true) (h2 : ∀ (hj : m - 1 < out.length), 0 < m → cntLt x out[m - 1] = false) (hx : x ∉ out) :
    (out.take m ++ [x] ++ out.drop m).Pairwise (fun x y => cntLt x y = true) := by
  have hp := List.pairwise_iff_getElem.1 hs
  rw [List.append_assoc, List.pairwise_append]
  refine ⟨hs.sublist (List.take_sublist _ _), ?_, ?_⟩
  · rw [List.singleton_append, List.pairwise_cons]
    refine ⟨fun y hy => ?_, hs.sublist (List.drop_sublist _ _)⟩
    obtain ⟨j, hj, rfl⟩ := List.mem_iff_getElem.1 hy
    rw [List.length_drop] at hj
    rw [List.getElem_drop]
    exact h1 (m + j) (by omega) (by omega)
  · intro a ha b hb
    obtain ⟨i, hi, rfl⟩ := List.mem_iff_getElem.1 ha
    rw [List.length_take] at hi
    rw [List.getElem_take]
    have hax : cntLt out[i] x = true := by
      have hm1 : m - 1 < out.length := by omega
      have h3 := h2 hm1 (by omega)
      have h4 : cntLt out[m - 1] x = true := by
        cases hc : cntLt out[m - 1] x with
        | true => rfl
        | false => exact absurd (cntLt_tot _ _ h3 hc ▸ List.getElem_mem hm1) hx
      rcases Nat.lt_or_ge i (m - 1) with h | h
      · exact cntLt_tr _ _ _ (hp i (m - 1) (by omega) hm1 h) h4
      · have e : i = m - 1 := by omega
        subst e
        exact h4
    rcases List.mem_append.1 hb with hb | hb
    · simp at hb; subst hb; exact hax
    · obtain ⟨j, hj, rfl⟩ := List.mem_iff_getElem.1 hb
      rw [List.length_drop] at hj
      rw [List.getElem_drop]
      exact cntLt_tr _ _ _ hax (h1 (m + j) (by omega) (by omega))
theorem ins_perm {α : Type} (out : List α) (x : α) (m : Nat) : (out.take m ++ [x] ++ out.drop m).Perm (x :: out) := by
  have h1 : (out.take m ++ [x] ++ out.drop m).Perm (x :: (out.take m ++ out.drop m)) := by
    rw [List.append_assoc, List.singleton_append]
    exact List.perm_middle
  rwa [List.take_append_drop] at h1

theorem flat_dropE {α : Type} {e : α → List Value} {k : Nat} (he : ∀ a, (e a).length = k) : ∀ (l : List α) (m : Nat), (l.flatMap e).drop (m * k) = (l.drop m).flatMap e
  | [], m => by simp
  | a :: l, 0 => by simp
  | a :: l, m + 1 => by
    rw [List.flatMap_cons, List.drop_append, he a, show (m + 1) * k - k = m * k by rw [Nat.add_mul]; omega, flat_dropE he l m, List.drop_succ_cons]
    rw [List.drop_eq_nil_of_le (by rw [he a, Nat.add_mul]; omega), List.nil_append]
set_option maxRecDepth 20000 in
set_option maxHeartbeats 8000000 in
theorem rsort_any (A : Option Addr) (B c0 : Nat) (l : List CntV) (w : World) (hat : CntsAt w B A l) (hB : B ≤ w.heap.size) (hl : (l.length : Int) ≤ 100000) (hnd : l.Nodup) :
    Calls Try.prog 50 #[.slice A l.length c0] w fun e w' => ∃ ts, l.Perm ts ∧ ts.Pairwise (fun x y => cntLt x y = true) ∧ RowC w ts e w' := by
  have ho0 := row_start w
  have hb0 : Below w.heap.size w (w.alloc (.cells #[] 28)) := (Below.refl _ _).alloc (Nat.le_refl _) _
  have HAT := Lib.hid hat
  have HND := Lib.hid hnd
  clear hat hnd
  go_enter Try.func50, Try.ntmps50
  go_wp2_with fail
  generalize w.alloc (.cells #[] 28) = W0 at *
  go_loopg [3, 4] l.length (fun rest s i wr => ∃ (k g : Nat) (cq : Nat) (out : List CntV), i = .int .i64 k ∧ Hid (k + rest = l.length) ∧ s = .slice (some ⟨g, 0, none⟩) out.length cq ∧ Hid ((l.take k).Perm out ∧ out.Pairwise (fun x y => cntLt x y = true)) ∧
    wr.ownsRow w.heap.size 28 2 (.slice (some ⟨g, 0, none⟩) out.length cq) out.length (out.flatMap cntEnc) ∧ Below w.heap.size w wr)
  case atStart => exact ⟨0, _, 0, [], rfl, Lib.hid (by simp), rfl, Lib.hid ⟨by simp, List.Pairwise.nil⟩, ho0, hb0⟩
  case round =>
    clear ho0 hb0
    obtain ⟨k, g, cq, out, rfl, HK, rfl, HO, hown, hb⟩ := hrel
    have hol0 : (out.length : Int) ≤ (k : Int) := by
      have h1 := HO.out.1.length_eq
      have h2 := List.length_take_le k l
      omega
    have hzr := hb.size
    have hcap := own_capC hown
    have hol : (out.length : Int) ≤ (cq : Int) := by omega
    by_cases hk : (k : Int) < (l.length : Int)
    · have hkl : k < l.length := by omega
      obtain ⟨b, o, rfl, hbl, d1, d2⟩ := (HAT.out.below (hb.mono hB)).one hkl
      have hkt : l.take (k + 1) = l.take k ++ [l[k]] := List.take_succ_eq_append_getElem hkl
      have hno : l[k] ∉ out := fun hm => by
        have h1 := (HO.out.1.mem_iff).2 hm
        have h2 : (l.take (k + 1)).Nodup := HND.out.sublist (List.take_sublist _ _)
        rw [hkt, List.nodup_append] at h2
        exact h2.2.2 _ h1 _ (by simp) rfl
      have hins : ∀ m, m ≤ out.length → (∀ j (hj : j < out.length), m ≤ j → cntLt l[k] out[j] = true) → (∀ (hj : m - 1 < out.length), 0 < m → cntLt l[k] out[m - 1] = false) → (l.take (k + 1)).Perm (out.take m ++ [l[k]] ++ out.drop m) ∧ (out.take m ++ [l[k]] ++ out.drop m).Pairwise (fun x y => cntLt x y = true) := by
        intro m hm h1 h2
        refine ⟨?_, ins_end HO.out.2 hm h1 h2 hno⟩
        rw [hkt]
        exact ((HO.out.1.append_right _).trans List.perm_append_comm).trans (ins_perm out l[k] m).symm
      have HINS := Lib.hid hins
      clear hins hno hkt
      generalize l[k] = x at *
      have hbw : b < wr.heap.size := by omega
      have hcat : CntsAt wr wr.heap.size (some ⟨g, 0, none⟩) out := Reads.of_own hown
      have HCAT := Lib.hid hcat
      have HB2 := Lib.hid hb
      clear hown hcat hcap HO hb
      go_wp2_with fail
      generalize wr = w2 at *
      generalize gk = g2 at *
      go_loopg [5] out.length (fun rest a wx => ∃ m : Nat, a = .int .i64 m ∧ Hid (m = rest) ∧ Hid (m ≤ out.length) ∧ Hid (∀ j (hj : j < out.length), m ≤ j → cntLt x out[j] = true) ∧ Below w2.heap.size w2 wx)
      case atStart => exact ⟨out.length, rfl, Lib.hid rfl, Lib.hid (Nat.le_refl _), Lib.hid (fun j hj h => by omega), Below.refl _ _⟩
      case round =>
        obtain ⟨m, rfl, HM, HML, HG, hbm⟩ := hrel
        have hz6 := hbm.size
        have e1 := (hbm.cell (p := ⟨b, o + k * 2, none⟩) hbw).trans d1
        have e2 := (hbm.cell (p := ⟨b, o + k * 2 + 1, none⟩) hbw).trans d2
        have hmle : m ≤ out.length := HML.out
        by_cases h0 : m = 0
        · have HIN := Lib.hid (HINS.out m hmle HG.out (fun _ h => by omega))
          have hgt : decide (0 < (m : Int)) = false := by simp; omega
          have hgtN : decide (0 < m) = false := by simp; omega
          have hgtP : ¬ 0 < m := by omega
          have hgtI : ¬ (0 : Int) < (m : Int) := by omega
          have hKe : Below wr.heap.size wr wr.drew := (Below.refl _ _).drew
          clear h0
          go_wp2_with fail
          refine heldStart 14 (S := fun W => W.cell? ⟨b, o + k * 2, none⟩ = some (.string x.key)) (by kernel_rfl) ?_ (fun hHeld => ?_)
          · exact e1
          refine heldTake 0 (v := ?_) (by simp only [List.getElem?_toArray, List.getElem?_cons_succ, List.getElem?_cons_zero]; rfl) (by kernel_rfl) (by intro _ _ _ h; exact h) (by rfl) (by assumption) ?_ ?_
          rotate_left
          · intro W hSw; (try dsimp only at hSw); go_simp; try with_reducible rfl
          simp only [Act.put, List.setIfInBounds_toArray, List.set_cons_zero, List.set_cons_succ]
          refine heldTake 1 (v := ?_) (by simp only [List.getElem?_toArray, List.getElem?_cons_succ, List.getElem?_cons_zero]; rfl) (by kernel_rfl) (by intro _ _ _ h; exact h) (by rfl) (by assumption) ?_ ?_
          rotate_left
          · intro W hSw; (try dsimp only at hSw); go_simp; try with_reducible rfl
          simp only [Act.put, List.setIfInBounds_toArray, List.set_cons_zero, List.set_cons_succ]
          refine heldTake 2 (v := ?_) (by simp only [List.getElem?_toArray, List.getElem?_cons_succ, List.getElem?_cons_zero]; rfl) (by kernel_rfl) (by intro _ _ _ h; exact h) (by rfl) (by assumption) ?_ ?_
          rotate_left
          · intro W hSw; (try dsimp only at hSw); go_simp; try with_reducible rfl
          simp only [Act.put, List.setIfInBounds_toArray, List.set_cons_zero, List.set_cons_succ]
          refine heldSkip 3 (by simp only [List.getElem?_toArray, List.getElem?_cons_succ, List.getElem?_cons_zero]; rfl) (by kernel_rfl) (by intro _ _ _ h; exact h) (by rfl) (by assumption) ?_
          simp only [Act.put, List.setIfInBounds_toArray, List.set_cons_zero, List.set_cons_succ]
          refine heldSkip 4 (by simp only [List.getElem?_toArray, List.getElem?_cons_succ, List.getElem?_cons_zero]; rfl) (by kernel_rfl) (by intro _ _ _ h; exact h) (by rfl) (by assumption) ?_
          simp only [Act.put, List.setIfInBounds_toArray, List.set_cons_zero, List.set_cons_succ]
          refine heldSkip 5 (by simp only [List.getElem?_toArray, List.getElem?_cons_succ, List.getElem?_cons_zero]; rfl) (by kernel_rfl) (by intro _ _ _ h; exact h) (by rfl) (by assumption) ?_
          simp only [Act.put, List.setIfInBounds_toArray, List.set_cons_zero, List.set_cons_succ]
          refine heldSkip 6 (by simp only [List.getElem?_toArray, List.getElem?_cons_succ, List.getElem?_cons_zero]; rfl) (by kernel_rfl) (by intro _ _ _ h; exact h) (by rfl) (by assumption) ?_
          simp only [Act.put, List.setIfInBounds_toArray, List.set_cons_zero, List.set_cons_succ]
          refine heldSkip 7 (by simp only [List.getElem?_toArray, List.getElem?_cons_succ, List.getElem?_cons_zero]; rfl) (by kernel_rfl) (by intro _ _ _ h; exact h) (by rfl) (by assumption) ?_
          simp only [Act.put, List.setIfInBounds_toArray, List.set_cons_zero, List.set_cons_succ]
          refine heldSkip 8 (by simp only [List.getElem?_toArray, List.getElem?_cons_succ, List.getElem?_cons_zero]; rfl) (by kernel_rfl) (by intro _ _ _ h; exact h) (by rfl) (by assumption) ?_
          simp only [Act.put, List.setIfInBounds_toArray, List.set_cons_zero, List.set_cons_succ]
          refine heldSkip 9 (by simp only [List.getElem?_toArray, List.getElem?_cons_succ, List.getElem?_cons_zero]; rfl) (by kernel_rfl) (by intro _ _ _ h; exact h) (by rfl) (by assumption) ?_
          simp only [Act.put, List.setIfInBounds_toArray, List.set_cons_zero, List.set_cons_succ]
          refine heldSkip 10 (by simp only [List.getElem?_toArray, List.getElem?_cons_succ, List.getElem?_cons_zero]; rfl) (by kernel_rfl) (by intro _ _ _ h; exact h) (by rfl) (by assumption) ?_
          simp only [Act.put, List.setIfInBounds_toArray, List.set_cons_zero, List.set_cons_succ]
          refine heldSkip 11 (by simp only [List.getElem?_toArray, List.getElem?_cons_succ, List.getElem?_cons_zero]; rfl) (by kernel_rfl) (by intro _ _ _ h; exact h) (by rfl) (by assumption) ?_
          simp only [Act.put, List.setIfInBounds_toArray, List.set_cons_zero, List.set_cons_succ]
          refine heldSkip 12 (by simp only [List.getElem?_toArray, List.getElem?_cons_succ, List.getElem?_cons_zero]; rfl) (by kernel_rfl) (by intro _ _ _ h; exact h) (by rfl) (by assumption) ?_
          simp only [Act.put, List.setIfInBounds_toArray, List.set_cons_zero, List.set_cons_succ]
          refine heldTake 13 (v := ?_) (by simp only [List.getElem?_toArray, List.getElem?_cons_succ, List.getElem?_cons_zero]; rfl) (by kernel_rfl) (by intro _ _ _ h; exact h) (by rfl) (by assumption) ?_ ?_
          rotate_left
          · intro W hSw; (try dsimp only at hSw); go_simp; try with_reducible rfl
          simp only [Act.put, List.setIfInBounds_toArray, List.set_cons_zero, List.set_cons_succ]
          refine heldDone (by kernel_rfl) ?_ _
          have hbm2 : Below w2.heap.size w2 wr.drew := hbm.drew
          clear hKe hHeld e1 e2 hbm hz6 HG HINS
          go_wp2_with fail
          generalize wr.drew = w6 at *
          have hbm := hbm2
          clear hbm2
          have hz6 := hbm.size
          have e1 := (hbm.cell (p := ⟨b, o + k * 2, none⟩) hbw).trans d1
          have e2 := (hbm.cell (p := ⟨b, o + k * 2 + 1, none⟩) hbw).trans d2
          have hbl6 : b < w6.heap.size := by omega
          have hrA : Reads w6 w6.heap.size 2 (some ⟨g, 0, none⟩) out.length (out.flatMap cntEnc) := Reads.more (HCAT.out.below hbm) hz6
          have hmc : (m : Int) ≤ (cq : Int) := by omega
          have hrO : Reads w6 w6.heap.size 2 (some ⟨g, 0, none⟩) m ((out.take m).flatMap cntEnc) := by
            have := hrA.take hmle
            rw [flat_take2 cntEnc (fun _ => rfl)] at this
            exact this
          refine heldStart 11 (S := fun W => W.cell? ⟨b, o + k * 2, none⟩ = some (.string x.key) ∧ W.cell? ⟨b, o + k * 2 + 1, none⟩ = some (.int .i64 x.n)) (by kernel_rfl) ?_ (fun hHeld => ?_)
          · exact ⟨(Below.cell (p := ⟨b, o + k * 2, none⟩) (by repeat (first | exact Below.refl _ _ | exact hB4 | exact hB5 | refine Below.alloc ?_ (by first | (simp; done) | (have := hB4.size; simp; omega) | (have := hB4.size; omega)) _ | refine Below.drew ?_)) hbl6).trans e1, (Below.cell (p := ⟨b, o + k * 2 + 1, none⟩) (by repeat (first | exact Below.refl _ _ | exact hB4 | exact hB5 | refine Below.alloc ?_ (by first | (simp; done) | (have := hB4.size; simp; omega) | (have := hB4.size; omega)) _ | refine Below.drew ?_)) hbl6).trans e2⟩
          refine heldTake 1 (v := ?_) (by simp only [List.getElem?_toArray, List.getElem?_cons_succ, List.getElem?_cons_zero]; rfl) (by kernel_rfl) (by intro _ _ _ h; exact h) (by rfl) (by assumption) ?_ ?_
          rotate_left
          · intro W hSw; (try dsimp only at hSw); go_simp; try with_reducible rfl
          simp only [Act.put, List.setIfInBounds_toArray, List.set_cons_zero, List.set_cons_succ]
          refine heldTake 2 (v := ?_) (by simp only [List.getElem?_toArray, List.getElem?_cons_succ, List.getElem?_cons_zero]; rfl) (by kernel_rfl) (by intro _ _ _ h; exact h) (by rfl) (by assumption) ?_ ?_
          rotate_left
          · intro W hSw; (try dsimp only at hSw); go_simp; try with_reducible rfl
          simp only [Act.put, List.setIfInBounds_toArray, List.set_cons_zero, List.set_cons_succ]
          refine heldTake 3 (v := ?_) (by simp only [List.getElem?_toArray, List.getElem?_cons_succ, List.getElem?_cons_zero]; rfl) (by kernel_rfl) (by intro _ _ _ h; exact h) (by rfl) (by assumption) ?_ ?_
          rotate_left
          · intro W hSw; (try dsimp only at hSw); go_simp; try with_reducible rfl
          simp only [Act.put, List.setIfInBounds_toArray, List.set_cons_zero, List.set_cons_succ]
          refine heldTake 5 (v := ?_) (by simp only [List.getElem?_toArray, List.getElem?_cons_succ, List.getElem?_cons_zero]; rfl) (by kernel_rfl) (by intro _ _ _ h; exact h) (by rfl) (by assumption) ?_ ?_
          rotate_left
          · intro W hSw; (try dsimp only at hSw); go_simp; try with_reducible rfl
          simp only [Act.put, List.setIfInBounds_toArray, List.set_cons_zero, List.set_cons_succ]
          refine heldTake 6 (v := ?_) (by simp only [List.getElem?_toArray, List.getElem?_cons_succ, List.getElem?_cons_zero]; rfl) (by kernel_rfl) (by intro _ _ _ h; exact h) (by rfl) (by assumption) ?_ ?_
          rotate_left
          · intro W hSw; (try dsimp only at hSw); go_simp; try with_reducible rfl
          simp only [Act.put, List.setIfInBounds_toArray, List.set_cons_zero, List.set_cons_succ]
          refine heldTake 7 (v := ?_) (by simp only [List.getElem?_toArray, List.getElem?_cons_succ, List.getElem?_cons_zero]; rfl) (by kernel_rfl) (by intro _ _ _ h; exact h) (by rfl) (by assumption) ?_ ?_
          rotate_left
          · intro W hSw; (try dsimp only at hSw); go_simp; try with_reducible rfl
          simp only [Act.put, List.setIfInBounds_toArray, List.set_cons_zero, List.set_cons_succ]
          refine heldTake 8 (v := ?_) (by simp only [List.getElem?_toArray, List.getElem?_cons_succ, List.getElem?_cons_zero]; rfl) (by kernel_rfl) (by intro _ _ _ h; exact h) (by rfl) (by assumption) ?_ ?_
          rotate_left
          · intro W hSw; (try dsimp only at hSw); go_simp; try with_reducible rfl
          simp only [Act.put, List.setIfInBounds_toArray, List.set_cons_zero, List.set_cons_succ]
          refine heldFork 0 9 (by kernel_rfl) ?_ ?_
          · refine heldOp 0 (by simp only [List.getElem?_toArray, List.getElem?_cons_succ, List.getElem?_cons_zero]; rfl) (fun K hK => ?_)
            go_simp
            refine hK.out _ _ ?_ (fun hHeld => ?_)
            · exact ⟨(Below.cell (p := ⟨b, o + k * 2, none⟩) (by repeat (first | exact Below.refl _ _ | exact hB4 | exact hB5 | refine Below.alloc ?_ (by first | (simp; done) | (have := hB4.size; simp; omega) | (have := hB4.size; omega)) _ | refine Below.drew ?_)) hbl6).trans e1, (Below.cell (p := ⟨b, o + k * 2 + 1, none⟩) (by repeat (first | exact Below.refl _ _ | exact hB4 | exact hB5 | refine Below.alloc ?_ (by first | (simp; done) | (have := hB4.size; simp; omega) | (have := hB4.size; omega)) _ | refine Below.drew ?_)) hbl6).trans e2⟩
            clear hK K
            (try simp only [Act.put, List.setIfInBounds_toArray, List.set_cons_zero, List.set_cons_succ])
            refine heldFork 4 9 (by kernel_rfl) ?_ ?_
            · refine heldOpLaw 4 (by simp only [List.getElem?_toArray, List.getElem?_cons_succ, List.getElem?_cons_zero]; rfl) (by rfl) (fun K hK => ?_)
              refine wp_append_to _ (.tmp 32) (.tmp 35) _ rfl w6.heap.size 28 (.agg #[.string ByteArray.empty, .int .i64 0]) 2 24 Try.underlying22 cnt_info rfl (by omega) (some ⟨_, 0, none⟩) 0 0 [] rfl (own_empty (by simp) (by first | exact heapN1 _ _ | exact heapN3 _ _ _ | exact heapN2 _ _ _)) (some ⟨g, 0, none⟩) w6.heap.size m cq ((out.take m).flatMap cntEnc) rfl (hrO.below (by repeat (first | exact Below.refl _ _ | exact hB4 | exact hB5 | refine Below.alloc ?_ (by first | (simp; done) | (have := hB4.size; simp; omega) | (have := hB4.size; omega)) _ | refine Below.drew ?_))) (fun h => by first | rfl | cases h) (cnts_one _) m (by omega) (by unfold maxLen; omega) (by omega) (by first | (simp; done) | (simp; omega)) ?_
              intro A4 c4 w4 hown4 hg4 hb4
              have hB4 : Below w6.heap.size w6 w4 := Below.trans (by repeat (first | exact Below.refl _ _ | exact hB4 | exact hB5 | refine Below.alloc ?_ (by first | (simp; done) | (have := hB4.size; simp; omega) | (have := hB4.size; omega)) _ | refine Below.drew ?_)) hb4
              simp only [List.nil_append] at hown4
              refine hK.out _ _ ?_ (fun hHeld => ?_)
              · exact ⟨(Below.cell (p := ⟨b, o + k * 2, none⟩) (by repeat (first | exact Below.refl _ _ | exact hB4 | exact hB5 | refine Below.alloc ?_ (by first | (simp; done) | (have := hB4.size; simp; omega) | (have := hB4.size; omega)) _ | refine Below.drew ?_)) hbl6).trans e1, (Below.cell (p := ⟨b, o + k * 2 + 1, none⟩) (by repeat (first | exact Below.refl _ _ | exact hB4 | exact hB5 | refine Below.alloc ?_ (by first | (simp; done) | (have := hB4.size; simp; omega) | (have := hB4.size; omega)) _ | refine Below.drew ?_)) hbl6).trans e2⟩
              clear hK K
              (try simp only [Act.put, List.setIfInBounds_toArray, List.set_cons_zero, List.set_cons_succ])
              refine heldCall 9 (by simp only [List.getElem?_toArray, List.getElem?_cons_succ, List.getElem?_cons_zero]; rfl) (by kernel_rfl) (fun K hK => ?_)
              go_simp
              refine hK.out _ _ ?_ (fun hHeld => ?_)
              · exact ⟨(Below.cell (p := ⟨b, o + k * 2, none⟩) (by repeat (first | exact Below.refl _ _ | exact hB4 | exact hB5 | refine Below.alloc ?_ (by first | (simp; done) | (have := hB4.size; simp; omega) | (have := hB4.size; omega)) _ | refine Below.drew ?_)) hbl6).trans e1, (Below.cell (p := ⟨b, o + k * 2 + 1, none⟩) (by repeat (first | exact Below.refl _ _ | exact hB4 | exact hB5 | refine Below.alloc ?_ (by first | (simp; done) | (have := hB4.size; simp; omega) | (have := hB4.size; omega)) _ | refine Below.drew ?_)) hbl6).trans e2⟩
              clear hK K
              (try simp only [Act.put, List.setIfInBounds_toArray, List.set_cons_zero, List.set_cons_succ])
              refine heldLaw 10 (by simp only [List.getElem?_toArray, List.getElem?_cons_succ, List.getElem?_cons_zero]; rfl) (by kernel_rfl) (by rfl) (fun K hK => ?_)
              refine wp_append_to _ (.tmp 36) (.tmp 41) _ rfl w6.heap.size 28 (.agg #[.string ByteArray.empty, .int .i64 0]) 2 24 Try.underlying22 cnt_info rfl (by omega) A4 m c4 ((out.take m).flatMap cntEnc) rfl (hown4.alloc _) (some ⟨_, 0, none⟩) _ 1 1 [.string x.key, .int .i64 x.n] rfl (reads_blk (t := 28) (fr := (0, 0)) (heapM1 _ _) rfl) (fun h => by cases h) (by intro u hu; simp at hu; rcases hu with rfl | rfl <;> rfl) (m + 1) rfl (by unfold maxLen; omega) (by omega) (by have := hB4.size; first | (simp; done) | (simp; omega) | omega) ?_
              intro A5 c5 w5 hown5 hg5 hb5
              have hB5 : Below w6.heap.size w6 w5 := Below.trans (by repeat (first | exact Below.refl _ _ | exact hB4 | exact hB5 | refine Below.alloc ?_ (by first | (simp; done) | (have := hB4.size; simp; omega) | (have := hB4.size; omega)) _ | refine Below.drew ?_)) hb5
              refine hK.out _ _ ?_ (fun hHeld => ?_)
              · exact ⟨(Below.cell (p := ⟨b, o + k * 2, none⟩) (by repeat (first | exact Below.refl _ _ | exact hB4 | exact hB5 | refine Below.alloc ?_ (by first | (simp; done) | (have := hB4.size; simp; omega) | (have := hB4.size; omega)) _ | refine Below.drew ?_)) hbl6).trans e1, (Below.cell (p := ⟨b, o + k * 2 + 1, none⟩) (by repeat (first | exact Below.refl _ _ | exact hB4 | exact hB5 | refine Below.alloc ?_ (by first | (simp; done) | (have := hB4.size; simp; omega) | (have := hB4.size; omega)) _ | refine Below.drew ?_)) hbl6).trans e2⟩
              clear hK K
              (try simp only [Act.put, List.setIfInBounds_toArray, List.set_cons_zero, List.set_cons_succ])
              refine heldTake 11 (v := ?_) (by simp only [List.getElem?_toArray, List.getElem?_cons_succ, List.getElem?_cons_zero]; rfl) (by kernel_rfl) (by intro _ _ _ h; exact h) (by rfl) (by assumption) ?_ ?_
              rotate_left
              · intro W hSw; (try dsimp only at hSw); go_simp; try with_reducible rfl
              simp only [Act.put, List.setIfInBounds_toArray, List.set_cons_zero, List.set_cons_succ]
              refine heldDone (by kernel_rfl) ?_ _
              have hz5 : w6.heap.size ≤ w5.heap.size := hB5.size
              have hrD := hrA.below hB5
              by_cases hq : cq = m
              · have hR1 : Reads w5 w6.heap.size 2 (some ⟨g, 0, none⟩) (out.length - m) ((out.drop m).flatMap cntEnc) := ⟨by rw [flat_len (e := cntEnc) (k := 2) (fun _ => rfl), List.length_drop], fun hp => by omega⟩
                have hR2 : Reads w5 w6.heap.size 2 (some ⟨g, 0, none⟩) 0 ((out.drop m).flatMap cntEnc) := ⟨by rw [flat_len (e := cntEnc) (k := 2) (fun _ => rfl), List.length_drop, show out.length - m = 0 by omega], fun hp => by omega⟩
                go_wp2_with (at_builtin; refine wpList_append_to w5 (by rfl) (.tmp 43) (.tmp 46) _ rfl w6.heap.size 28 (.agg #[.string ByteArray.empty, .int .i64 0]) 2 24 Try.underlying22 cnt_info rfl (by omega) A5 (m + 1) c5 _ rfl hown5 _ w6.heap.size _ _ ((out.drop m).flatMap cntEnc) rfl (by first | exact hR1 | exact hR2) (fun h => by cases h) (cnts_one _) (out.length + 1) (by omega) (by unfold maxLen; omega) (by omega) (by omega) ?_; intro A7 c7 w7 hown7 hg7 hb7)
                obtain ⟨g7, cap7, hv7, _, _⟩ := hown7.form (by omega)
                injection hv7 with hv7
                subst hv7
                go_roundg (g2 - 1)
                case measure => have := HK.out; omega
                case rel =>
                  have hln : (out.take m ++ [x] ++ out.drop m).length = out.length + 1 := by simp; omega
                  refine ⟨k + 1, g7, c7, out.take m ++ [x] ++ out.drop m, by go_num, Lib.hid (by have := HK.out; omega), by rw [hln], HIN, ?_, HB2.out.trans ((hbm.mono hzr).trans ((hB5.mono (Nat.le_trans hzr hz6)).trans (hb7.mono (Nat.le_trans hzr hz6))))⟩
                  rw [hln, List.flatMap_append, List.flatMap_append]
                  exact own_base hown7 (Nat.le_trans hzr hz6)
              · have hR1 := hrD.drop (m := m) (c := cq) (by omega) (by omega) rfl
                rw [if_neg hq] at hR1
                rw [flat_dropE (e := cntEnc) (k := 2) (fun _ => rfl), Nat.zero_add] at hR1
                have hR2 := hR1
                go_wp2_with (at_builtin; refine wpList_append_to w5 (by rfl) (.tmp 43) (.tmp 46) _ rfl w6.heap.size 28 (.agg #[.string ByteArray.empty, .int .i64 0]) 2 24 Try.underlying22 cnt_info rfl (by omega) A5 (m + 1) c5 _ rfl hown5 _ w6.heap.size _ _ ((out.drop m).flatMap cntEnc) rfl (by first | exact hR1 | exact hR2) (fun h => by cases h) (cnts_one _) (out.length + 1) (by omega) (by unfold maxLen; omega) (by omega) (by omega) ?_; intro A7 c7 w7 hown7 hg7 hb7)
                obtain ⟨g7, cap7, hv7, _, _⟩ := hown7.form (by omega)
                injection hv7 with hv7
                subst hv7
                go_roundg (g2 - 1)
                case measure => have := HK.out; omega
                case rel =>
                  have hln : (out.take m ++ [x] ++ out.drop m).length = out.length + 1 := by simp; omega
                  refine ⟨k + 1, g7, c7, out.take m ++ [x] ++ out.drop m, by go_num, Lib.hid (by have := HK.out; omega), by rw [hln], HIN, ?_, HB2.out.trans ((hbm.mono hzr).trans ((hB5.mono (Nat.le_trans hzr hz6)).trans (hb7.mono (Nat.le_trans hzr hz6))))⟩
                  rw [hln, List.flatMap_append, List.flatMap_append]
                  exact own_base hown7 (Nat.le_trans hzr hz6)
            · refine heldOp 9 (by simp only [List.getElem?_toArray, List.getElem?_cons_succ, List.getElem?_cons_zero]; rfl) (fun K hK => ?_)
              go_simp
              refine hK.out _ _ ?_ (fun hHeld => ?_)
              · exact ⟨(Below.cell (p := ⟨b, o + k * 2, none⟩) (by repeat (first | exact Below.refl _ _ | exact hB4 | exact hB5 | refine Below.alloc ?_ (by first | (simp; done) | (have := hB4.size; simp; omega) | (have := hB4.size; omega)) _ | refine Below.drew ?_)) hbl6).trans e1, (Below.cell (p := ⟨b, o + k * 2 + 1, none⟩) (by repeat (first | exact Below.refl _ _ | exact hB4 | exact hB5 | refine Below.alloc ?_ (by first | (simp; done) | (have := hB4.size; simp; omega) | (have := hB4.size; omega)) _ | refine Below.drew ?_)) hbl6).trans e2⟩
              clear hK K
              (try simp only [Act.put, List.setIfInBounds_toArray, List.set_cons_zero, List.set_cons_succ])
              refine heldLaw 4 (by simp only [List.getElem?_toArray, List.getElem?_cons_succ, List.getElem?_cons_zero]; rfl) (by kernel_rfl) (by rfl) (fun K hK => ?_)
              refine wp_append_to _ (.tmp 32) (.tmp 35) _ rfl w6.heap.size 28 (.agg #[.string ByteArray.empty, .int .i64 0]) 2 24 Try.underlying22 cnt_info rfl (by omega) (some ⟨_, 0, none⟩) 0 0 [] rfl (own_empty (by simp) (by first | exact heapN1 _ _ | exact heapN3 _ _ _ | exact heapN2 _ _ _)) (some ⟨g, 0, none⟩) w6.heap.size m cq ((out.take m).flatMap cntEnc) rfl (hrO.below (by repeat (first | exact Below.refl _ _ | exact hB4 | exact hB5 | refine Below.alloc ?_ (by first | (simp; done) | (have := hB4.size; simp; omega) | (have := hB4.size; omega)) _ | refine Below.drew ?_))) (fun h => by first | rfl | cases h) (cnts_one _) m (by omega) (by unfold maxLen; omega) (by omega) (by first | (simp; done) | (simp; omega)) ?_
              intro A4 c4 w4 hown4 hg4 hb4
              have hB4 : Below w6.heap.size w6 w4 := Below.trans (by repeat (first | exact Below.refl _ _ | exact hB4 | exact hB5 | refine Below.alloc ?_ (by first | (simp; done) | (have := hB4.size; simp; omega) | (have := hB4.size; omega)) _ | refine Below.drew ?_)) hb4
              simp only [List.nil_append] at hown4
              refine hK.out _ _ ?_ (fun hHeld => ?_)
              · exact ⟨(Below.cell (p := ⟨b, o + k * 2, none⟩) (by repeat (first | exact Below.refl _ _ | exact hB4 | exact hB5 | refine Below.alloc ?_ (by first | (simp; done) | (have := hB4.size; simp; omega) | (have := hB4.size; omega)) _ | refine Below.drew ?_)) hbl6).trans e1, (Below.cell (p := ⟨b, o + k * 2 + 1, none⟩) (by repeat (first | exact Below.refl _ _ | exact hB4 | exact hB5 | refine Below.alloc ?_ (by first | (simp; done) | (have := hB4.size; simp; omega) | (have := hB4.size; omega)) _ | refine Below.drew ?_)) hbl6).trans e2⟩
              clear hK K
              (try simp only [Act.put, List.setIfInBounds_toArray, List.set_cons_zero, List.set_cons_succ])
              refine heldLaw 10 (by simp only [List.getElem?_toArray, List.getElem?_cons_succ, List.getElem?_cons_zero]; rfl) (by kernel_rfl) (by rfl) (fun K hK => ?_)
              refine wp_append_to _ (.tmp 36) (.tmp 41) _ rfl w6.heap.size 28 (.agg #[.string ByteArray.empty, .int .i64 0]) 2 24 Try.underlying22 cnt_info rfl (by omega) A4 m c4 ((out.take m).flatMap cntEnc) rfl hown4 (some ⟨_, 0, none⟩) _ 1 1 [.string x.key, .int .i64 x.n] rfl (reads_blk (t := 28) (fr := (0, 0)) ((hg4.block _ (by first | (simp; done) | (simp; omega)) (by simp [Value.ownBlock])).trans (by first | exact heapN2 _ _ _ | exact heapN3 _ _ _)) rfl) (fun h => by cases h) (by intro u hu; simp at hu; rcases hu with rfl | rfl <;> rfl) (m + 1) rfl (by unfold maxLen; omega) (by omega) (by have := hB4.size; first | (simp; done) | (simp; omega) | omega) ?_
              intro A5 c5 w5 hown5 hg5 hb5
              have hB5 : Below w6.heap.size w6 w5 := Below.trans (by repeat (first | exact Below.refl _ _ | exact hB4 | exact hB5 | refine Below.alloc ?_ (by first | (simp; done) | (have := hB4.size; simp; omega) | (have := hB4.size; omega)) _ | refine Below.drew ?_)) hb5
              refine hK.out _ _ ?_ (fun hHeld => ?_)
              · exact ⟨(Below.cell (p := ⟨b, o + k * 2, none⟩) (by repeat (first | exact Below.refl _ _ | exact hB4 | exact hB5 | refine Below.alloc ?_ (by first | (simp; done) | (have := hB4.size; simp; omega) | (have := hB4.size; omega)) _ | refine Below.drew ?_)) hbl6).trans e1, (Below.cell (p := ⟨b, o + k * 2 + 1, none⟩) (by repeat (first | exact Below.refl _ _ | exact hB4 | exact hB5 | refine Below.alloc ?_ (by first | (simp; done) | (have := hB4.size; simp; omega) | (have := hB4.size; omega)) _ | refine Below.drew ?_)) hbl6).trans e2⟩
              clear hK K
              (try simp only [Act.put, List.setIfInBounds_toArray, List.set_cons_zero, List.set_cons_succ])
              refine heldTake 11 (v := ?_) (by simp only [List.getElem?_toArray, List.getElem?_cons_succ, List.getElem?_cons_zero]; rfl) (by kernel_rfl) (by intro _ _ _ h; exact h) (by rfl) (by assumption) ?_ ?_
              rotate_left
              · intro W hSw; (try dsimp only at hSw); go_simp; try with_reducible rfl
              simp only [Act.put, List.setIfInBounds_toArray, List.set_cons_zero, List.set_cons_succ]
              refine heldDone (by kernel_rfl) ?_ _
              have hz5 : w6.heap.size ≤ w5.heap.size := hB5.size
              have hrD := hrA.below hB5
              by_cases hq : cq = m
              · have hR1 : Reads w5 w6.heap.size 2 (some ⟨g, 0, none⟩) (out.length - m) ((out.drop m).flatMap cntEnc) := ⟨by rw [flat_len (e := cntEnc) (k := 2) (fun _ => rfl), List.length_drop], fun hp => by omega⟩
                have hR2 : Reads w5 w6.heap.size 2 (some ⟨g, 0, none⟩) 0 ((out.drop m).flatMap cntEnc) := ⟨by rw [flat_len (e := cntEnc) (k := 2) (fun _ => rfl), List.length_drop, show out.length - m = 0 by omega], fun hp => by omega⟩
                go_wp2_with (at_builtin; refine wpList_append_to w5 (by rfl) (.tmp 43) (.tmp 46) _ rfl w6.heap.size 28 (.agg #[.string ByteArray.empty, .int .i64 0]) 2 24 Try.underlying22 cnt_info rfl (by omega) A5 (m + 1) c5 _ rfl hown5 _ w6.heap.size _ _ ((out.drop m).flatMap cntEnc) rfl (by first | exact hR1 | exact hR2) (fun h => by cases h) (cnts_one _) (out.length + 1) (by omega) (by unfold maxLen; omega) (by omega) (by omega) ?_; intro A7 c7 w7 hown7 hg7 hb7)
                obtain ⟨g7, cap7, hv7, _, _⟩ := hown7.form (by omega)
                injection hv7 with hv7
                subst hv7
                go_roundg (g2 - 1)
                case measure => have := HK.out; omega
                case rel =>
                  have hln : (out.take m ++ [x] ++ out.drop m).length = out.length + 1 := by simp; omega
                  refine ⟨k + 1, g7, c7, out.take m ++ [x] ++ out.drop m, by go_num, Lib.hid (by have := HK.out; omega), by rw [hln], HIN, ?_, HB2.out.trans ((hbm.mono hzr).trans ((hB5.mono (Nat.le_trans hzr hz6)).trans (hb7.mono (Nat.le_trans hzr hz6))))⟩
                  rw [hln, List.flatMap_append, List.flatMap_append]
                  exact own_base hown7 (Nat.le_trans hzr hz6)
              · have hR1 := hrD.drop (m := m) (c := cq) (by omega) (by omega) rfl
                rw [if_neg hq] at hR1
                rw [flat_dropE (e := cntEnc) (k := 2) (fun _ => rfl), Nat.zero_add] at hR1
                have hR2 := hR1
                go_wp2_with (at_builtin; refine wpList_append_to w5 (by rfl) (.tmp 43) (.tmp 46) _ rfl w6.heap.size 28 (.agg #[.string ByteArray.empty, .int .i64 0]) 2 24 Try.underlying22 cnt_info rfl (by omega) A5 (m + 1) c5 _ rfl hown5 _ w6.heap.size _ _ ((out.drop m).flatMap cntEnc) rfl (by first | exact hR1 | exact hR2) (fun h => by cases h) (cnts_one _) (out.length + 1) (by omega) (by unfold maxLen; omega) (by omega) (by omega) ?_; intro A7 c7 w7 hown7 hg7 hb7)
                obtain ⟨g7, cap7, hv7, _, _⟩ := hown7.form (by omega)
                injection hv7 with hv7
                subst hv7
                go_roundg (g2 - 1)
                case measure => have := HK.out; omega
                case rel =>
                  have hln : (out.take m ++ [x] ++ out.drop m).length = out.length + 1 := by simp; omega
                  refine ⟨k + 1, g7, c7, out.take m ++ [x] ++ out.drop m, by go_num, Lib.hid (by have := HK.out; omega), by rw [hln], HIN, ?_, HB2.out.trans ((hbm.mono hzr).trans ((hB5.mono (Nat.le_trans hzr hz6)).trans (hb7.mono (Nat.le_trans hzr hz6))))⟩
                  rw [hln, List.flatMap_append, List.flatMap_append]
                  exact own_base hown7 (Nat.le_trans hzr hz6)
          · refine heldOp 9 (by simp only [List.getElem?_toArray, List.getElem?_cons_succ, List.getElem?_cons_zero]; rfl) (fun K hK => ?_)
            go_simp
            refine hK.out _ _ ?_ (fun hHeld => ?_)
            · exact ⟨(Below.cell (p := ⟨b, o + k * 2, none⟩) (by repeat (first | exact Below.refl _ _ | exact hB4 | exact hB5 | refine Below.alloc ?_ (by first | (simp; done) | (have := hB4.size; simp; omega) | (have := hB4.size; omega)) _ | refine Below.drew ?_)) hbl6).trans e1, (Below.cell (p := ⟨b, o + k * 2 + 1, none⟩) (by repeat (first | exact Below.refl _ _ | exact hB4 | exact hB5 | refine Below.alloc ?_ (by first | (simp; done) | (have := hB4.size; simp; omega) | (have := hB4.size; omega)) _ | refine Below.drew ?_)) hbl6).trans e2⟩
            clear hK K
            (try simp only [Act.put, List.setIfInBounds_toArray, List.set_cons_zero, List.set_cons_succ])
            refine heldCall 0 (by simp only [List.getElem?_toArray, List.getElem?_cons_succ, List.getElem?_cons_zero]; rfl) (by kernel_rfl) (fun K hK => ?_)
            go_simp
            refine hK.out _ _ ?_ (fun hHeld => ?_)
            · exact ⟨(Below.cell (p := ⟨b, o + k * 2, none⟩) (by repeat (first | exact Below.refl _ _ | exact hB4 | exact hB5 | refine Below.alloc ?_ (by first | (simp; done) | (have := hB4.size; simp; omega) | (have := hB4.size; omega)) _ | refine Below.drew ?_)) hbl6).trans e1, (Below.cell (p := ⟨b, o + k * 2 + 1, none⟩) (by repeat (first | exact Below.refl _ _ | exact hB4 | exact hB5 | refine Below.alloc ?_ (by first | (simp; done) | (have := hB4.size; simp; omega) | (have := hB4.size; omega)) _ | refine Below.drew ?_)) hbl6).trans e2⟩
            clear hK K
            (try simp only [Act.put, List.setIfInBounds_toArray, List.set_cons_zero, List.set_cons_succ])
            refine heldLaw 4 (by simp only [List.getElem?_toArray, List.getElem?_cons_succ, List.getElem?_cons_zero]; rfl) (by kernel_rfl) (by rfl) (fun K hK => ?_)
            refine wp_append_to _ (.tmp 32) (.tmp 35) _ rfl w6.heap.size 28 (.agg #[.string ByteArray.empty, .int .i64 0]) 2 24 Try.underlying22 cnt_info rfl (by omega) (some ⟨_, 0, none⟩) 0 0 [] rfl (own_empty (by simp) (by first | exact heapN1 _ _ | exact heapN3 _ _ _ | exact heapN2 _ _ _)) (some ⟨g, 0, none⟩) w6.heap.size m cq ((out.take m).flatMap cntEnc) rfl (hrO.below (by repeat (first | exact Below.refl _ _ | exact hB4 | exact hB5 | refine Below.alloc ?_ (by first | (simp; done) | (have := hB4.size; simp; omega) | (have := hB4.size; omega)) _ | refine Below.drew ?_))) (fun h => by first | rfl | cases h) (cnts_one _) m (by omega) (by unfold maxLen; omega) (by omega) (by first | (simp; done) | (simp; omega)) ?_
            intro A4 c4 w4 hown4 hg4 hb4
            have hB4 : Below w6.heap.size w6 w4 := Below.trans (by repeat (first | exact Below.refl _ _ | exact hB4 | exact hB5 | refine Below.alloc ?_ (by first | (simp; done) | (have := hB4.size; simp; omega) | (have := hB4.size; omega)) _ | refine Below.drew ?_)) hb4
            simp only [List.nil_append] at hown4
            refine hK.out _ _ ?_ (fun hHeld => ?_)
            · exact ⟨(Below.cell (p := ⟨b, o + k * 2, none⟩) (by repeat (first | exact Below.refl _ _ | exact hB4 | exact hB5 | refine Below.alloc ?_ (by first | (simp; done) | (have := hB4.size; simp; omega) | (have := hB4.size; omega)) _ | refine Below.drew ?_)) hbl6).trans e1, (Below.cell (p := ⟨b, o + k * 2 + 1, none⟩) (by repeat (first | exact Below.refl _ _ | exact hB4 | exact hB5 | refine Below.alloc ?_ (by first | (simp; done) | (have := hB4.size; simp; omega) | (have := hB4.size; omega)) _ | refine Below.drew ?_)) hbl6).trans e2⟩
            clear hK K
            (try simp only [Act.put, List.setIfInBounds_toArray, List.set_cons_zero, List.set_cons_succ])
            refine heldLaw 10 (by simp only [List.getElem?_toArray, List.getElem?_cons_succ, List.getElem?_cons_zero]; rfl) (by kernel_rfl) (by rfl) (fun K hK => ?_)
            refine wp_append_to _ (.tmp 36) (.tmp 41) _ rfl w6.heap.size 28 (.agg #[.string ByteArray.empty, .int .i64 0]) 2 24 Try.underlying22 cnt_info rfl (by omega) A4 m c4 ((out.take m).flatMap cntEnc) rfl hown4 (some ⟨_, 0, none⟩) _ 1 1 [.string x.key, .int .i64 x.n] rfl (reads_blk (t := 28) (fr := (0, 0)) ((hg4.block _ (by first | (simp; done) | (simp; omega)) (by simp [Value.ownBlock])).trans (by first | exact heapN2 _ _ _ | exact heapN3 _ _ _)) rfl) (fun h => by cases h) (by intro u hu; simp at hu; rcases hu with rfl | rfl <;> rfl) (m + 1) rfl (by unfold maxLen; omega) (by omega) (by have := hB4.size; first | (simp; done) | (simp; omega) | omega) ?_
            intro A5 c5 w5 hown5 hg5 hb5
            have hB5 : Below w6.heap.size w6 w5 := Below.trans (by repeat (first | exact Below.refl _ _ | exact hB4 | exact hB5 | refine Below.alloc ?_ (by first | (simp; done) | (have := hB4.size; simp; omega) | (have := hB4.size; omega)) _ | refine Below.drew ?_)) hb5
            refine hK.out _ _ ?_ (fun hHeld => ?_)
            · exact ⟨(Below.cell (p := ⟨b, o + k * 2, none⟩) (by repeat (first | exact Below.refl _ _ | exact hB4 | exact hB5 | refine Below.alloc ?_ (by first | (simp; done) | (have := hB4.size; simp; omega) | (have := hB4.size; omega)) _ | refine Below.drew ?_)) hbl6).trans e1, (Below.cell (p := ⟨b, o + k * 2 + 1, none⟩) (by repeat (first | exact Below.refl _ _ | exact hB4 | exact hB5 | refine Below.alloc ?_ (by first | (simp; done) | (have := hB4.size; simp; omega) | (have := hB4.size; omega)) _ | refine Below.drew ?_)) hbl6).trans e2⟩
            clear hK K
            (try simp only [Act.put, List.setIfInBounds_toArray, List.set_cons_zero, List.set_cons_succ])
            refine heldTake 11 (v := ?_) (by simp only [List.getElem?_toArray, List.getElem?_cons_succ, List.getElem?_cons_zero]; rfl) (by kernel_rfl) (by intro _ _ _ h; exact h) (by rfl) (by assumption) ?_ ?_
            rotate_left
            · intro W hSw; (try dsimp only at hSw); go_simp; try with_reducible rfl
            simp only [Act.put, List.setIfInBounds_toArray, List.set_cons_zero, List.set_cons_succ]
            refine heldDone (by kernel_rfl) ?_ _
            have hz5 : w6.heap.size ≤ w5.heap.size := hB5.size
            have hrD := hrA.below hB5
            by_cases hq : cq = m
            · have hR1 : Reads w5 w6.heap.size 2 (some ⟨g, 0, none⟩) (out.length - m) ((out.drop m).flatMap cntEnc) := ⟨by rw [flat_len (e := cntEnc) (k := 2) (fun _ => rfl), List.length_drop], fun hp => by omega⟩
              have hR2 : Reads w5 w6.heap.size 2 (some ⟨g, 0, none⟩) 0 ((out.drop m).flatMap cntEnc) := ⟨by rw [flat_len (e := cntEnc) (k := 2) (fun _ => rfl), List.length_drop, show out.length - m = 0 by omega], fun hp => by omega⟩
              go_wp2_with (at_builtin; refine wpList_append_to w5 (by rfl) (.tmp 43) (.tmp 46) _ rfl w6.heap.size 28 (.agg #[.string ByteArray.empty, .int .i64 0]) 2 24 Try.underlying22 cnt_info rfl (by omega) A5 (m + 1) c5 _ rfl hown5 _ w6.heap.size _ _ ((out.drop m).flatMap cntEnc) rfl (by first | exact hR1 | exact hR2) (fun h => by cases h) (cnts_one _) (out.length + 1) (by omega) (by unfold maxLen; omega) (by omega) (by omega) ?_; intro A7 c7 w7 hown7 hg7 hb7)
              obtain ⟨g7, cap7, hv7, _, _⟩ := hown7.form (by omega)
              injection hv7 with hv7
              subst hv7
              go_roundg (g2 - 1)
              case measure => have := HK.out; omega
              case rel =>
                have hln : (out.take m ++ [x] ++ out.drop m).length = out.length + 1 := by simp; omega
                refine ⟨k + 1, g7, c7, out.take m ++ [x] ++ out.drop m, by go_num, Lib.hid (by have := HK.out; omega), by rw [hln], HIN, ?_, HB2.out.trans ((hbm.mono hzr).trans ((hB5.mono (Nat.le_trans hzr hz6)).trans (hb7.mono (Nat.le_trans hzr hz6))))⟩
                rw [hln, List.flatMap_append, List.flatMap_append]
                exact own_base hown7 (Nat.le_trans hzr hz6)
            · have hR1 := hrD.drop (m := m) (c := cq) (by omega) (by omega) rfl
              rw [if_neg hq] at hR1
              rw [flat_dropE (e := cntEnc) (k := 2) (fun _ => rfl), Nat.zero_add] at hR1
              have hR2 := hR1
              go_wp2_with (at_builtin; refine wpList_append_to w5 (by rfl) (.tmp 43) (.tmp 46) _ rfl w6.heap.size 28 (.agg #[.string ByteArray.empty, .int .i64 0]) 2 24 Try.underlying22 cnt_info rfl (by omega) A5 (m + 1) c5 _ rfl hown5 _ w6.heap.size _ _ ((out.drop m).flatMap cntEnc) rfl (by first | exact hR1 | exact hR2) (fun h => by cases h) (cnts_one _) (out.length + 1) (by omega) (by unfold maxLen; omega) (by omega) (by omega) ?_; intro A7 c7 w7 hown7 hg7 hb7)
              obtain ⟨g7, cap7, hv7, _, _⟩ := hown7.form (by omega)
              injection hv7 with hv7
              subst hv7
              go_roundg (g2 - 1)
              case measure => have := HK.out; omega
              case rel =>
                have hln : (out.take m ++ [x] ++ out.drop m).length = out.length + 1 := by simp; omega
                refine ⟨k + 1, g7, c7, out.take m ++ [x] ++ out.drop m, by go_num, Lib.hid (by have := HK.out; omega), by rw [hln], HIN, ?_, HB2.out.trans ((hbm.mono hzr).trans ((hB5.mono (Nat.le_trans hzr hz6)).trans (hb7.mono (Nat.le_trans hzr hz6))))⟩
                rw [hln, List.flatMap_append, List.flatMap_append]
                exact own_base hown7 (Nat.le_trans hzr hz6)
        · have hm1 : m - 1 < out.length := by omega
          obtain ⟨b', o', e', hbl', f1, f2⟩ := (HCAT.out.below hbm).one hm1
          injection e' with e'
          injection e' with e3 e4
          subst e3 e4
          rw [Nat.zero_add] at f1 f2
          have hj3 : ((m : Int) - 1).toNat = m - 1 := by omega
          have hw1 : IntKind.i64.wrap ((m : Int) - 1) = (m : Int) - 1 := IntWalk.i64_in _ (by omega)
          have hw2 : wrap64 ((m : Int) - 1) = (m : Int) - 1 := by unfold wrap64; omega
          have hgt : decide (0 < (m : Int)) = true := by simp; omega
          have hgtN : decide (0 < m) = true := by simp; omega
          have hgtP : 0 < m := by omega
          have hgtI : (0 : Int) < (m : Int) := by omega
          have hix1 : (0 : Int) ≤ (m : Int) - 1 := by omega
          have hix3 : (1 : Int) ≤ (m : Int) := by omega
          have hix2 : (m : Int) - 1 < (out.length : Int) := by omega
          have HLT : Hid (cntLt x out[m - 1] = cntLt x out[m - 1]) := Lib.hid rfl
          have hif : ∀ (h : cntLt x out[m - 1] = false), (l.take (k + 1)).Perm (out.take m ++ [x] ++ out.drop m) ∧ (out.take m ++ [x] ++ out.drop m).Pairwise (fun x y => cntLt x y = true) := fun h => HINS.out m hmle HG.out (fun _ _ => h)
          have hgo : ∀ (h : cntLt x out[m - 1] = true), (∀ j (hj : j < out.length), m - 1 ≤ j → cntLt x out[j] = true) := fun h j hj hmj => by
            by_cases e : j = m - 1
            · subst e; exact h
            · exact HG.out j hj (by omega)
          have HIF := Lib.hid hif
          have HGO := Lib.hid hgo
          clear hif hgo HLT
          generalize hy : out[m - 1] = y at *
          clear hy
          have hbg : g < wr.heap.size := by omega
          have hbw6 : b < wr.heap.size := by omega
          have hKe : Below wr.heap.size wr wr.drew := (Below.refl _ _).drew
          go_wp2_with fail
          refine heldStart 14 (S := fun W => W.cell? ⟨b, o + k * 2, none⟩ = some (.string x.key) ∧ W.cell? ⟨b, o + k * 2 + 1, none⟩ = some (.int .i64 x.n) ∧ W.cell? ⟨g, (m - 1) * 2, none⟩ = some (.string y.key) ∧ W.cell? ⟨g, (m - 1) * 2 + 1, none⟩ = some (.int .i64 y.n)) (by kernel_rfl) ?_ (fun hHeld => ?_)
          · exact ⟨(hKe.cell (p := ⟨b, o + k * 2, none⟩) hbw6).trans e1, (hKe.cell (p := ⟨b, o + k * 2 + 1, none⟩) hbw6).trans e2, (hKe.cell (p := ⟨g, (m - 1) * 2, none⟩) hbg).trans f1, (hKe.cell (p := ⟨g, (m - 1) * 2 + 1, none⟩) hbg).trans f2⟩
          refine heldTake 0 (v := ?_) (by simp only [List.getElem?_toArray, List.getElem?_cons_succ, List.getElem?_cons_zero]; rfl) (by kernel_rfl) (by intro _ _ _ h; exact h) (by rfl) (by assumption) ?_ ?_
          rotate_left
          · intro W hSw; (try dsimp only at hSw); go_simp; try with_reducible rfl
          simp only [Act.put, List.setIfInBounds_toArray, List.set_cons_zero, List.set_cons_succ]
          refine heldTake 1 (v := ?_) (by simp only [List.getElem?_toArray, List.getElem?_cons_succ, List.getElem?_cons_zero]; rfl) (by kernel_rfl) (by intro _ _ _ h; exact h) (by rfl) (by assumption) ?_ ?_
          rotate_left
          · intro W hSw; (try dsimp only at hSw); go_simp; try with_reducible rfl
          simp only [Act.put, List.setIfInBounds_toArray, List.set_cons_zero, List.set_cons_succ]
          refine heldTake 2 (v := ?_) (by simp only [List.getElem?_toArray, List.getElem?_cons_succ, List.getElem?_cons_zero]; rfl) (by kernel_rfl) (by intro _ _ _ h; exact h) (by rfl) (by assumption) ?_ ?_
          rotate_left
          · intro W hSw; (try dsimp only at hSw); go_simp; try with_reducible rfl
          simp only [Act.put, List.setIfInBounds_toArray, List.set_cons_zero, List.set_cons_succ]
          refine heldTake 3 (v := ?_) (by simp only [List.getElem?_toArray, List.getElem?_cons_succ, List.getElem?_cons_zero]; rfl) (by kernel_rfl) (by intro _ _ _ h; exact h) (by rfl) (by assumption) ?_ ?_
          rotate_left
          · intro W hSw; (try dsimp only at hSw); go_simp; try with_reducible rfl
          simp only [Act.put, List.setIfInBounds_toArray, List.set_cons_zero, List.set_cons_succ]
          refine heldTake 4 (v := ?_) (by simp only [List.getElem?_toArray, List.getElem?_cons_succ, List.getElem?_cons_zero]; rfl) (by kernel_rfl) (by intro _ _ _ h; exact h) (by rfl) (by assumption) ?_ ?_
          rotate_left
          · intro W hSw; (try dsimp only at hSw); go_simp; try with_reducible rfl
          simp only [Act.put, List.setIfInBounds_toArray, List.set_cons_zero, List.set_cons_succ]
          refine heldTake 5 (v := ?_) (by simp only [List.getElem?_toArray, List.getElem?_cons_succ, List.getElem?_cons_zero]; rfl) (by kernel_rfl) (by intro _ _ _ h; exact h) (by rfl) (by assumption) ?_ ?_
          rotate_left
          · intro W hSw; (try dsimp only at hSw); go_simp; try with_reducible rfl
          simp only [Act.put, List.setIfInBounds_toArray, List.set_cons_zero, List.set_cons_succ]
          refine heldTake 6 (v := ?_) (by simp only [List.getElem?_toArray, List.getElem?_cons_succ, List.getElem?_cons_zero]; rfl) (by kernel_rfl) (by intro _ _ _ h; exact h) (by rfl) (by assumption) ?_ ?_
          rotate_left
          · intro W hSw; (try dsimp only at hSw); go_simp; try with_reducible rfl
          simp only [Act.put, List.setIfInBounds_toArray, List.set_cons_zero, List.set_cons_succ]
          refine heldTake 7 (v := ?_) (by simp only [List.getElem?_toArray, List.getElem?_cons_succ, List.getElem?_cons_zero]; rfl) (by kernel_rfl) (by intro _ _ _ h; exact h) (by rfl) (by assumption) ?_ ?_
          rotate_left
          · intro W hSw; (try dsimp only at hSw); go_simp; try with_reducible rfl
          simp only [Act.put, List.setIfInBounds_toArray, List.set_cons_zero, List.set_cons_succ]
          refine heldTake 8 (v := ?_) (by simp only [List.getElem?_toArray, List.getElem?_cons_succ, List.getElem?_cons_zero]; rfl) (by kernel_rfl) (by intro _ _ _ h; exact h) (by rfl) (by assumption) ?_ ?_
          rotate_left
          · intro W hSw; (try dsimp only at hSw); go_simp; try with_reducible rfl
          simp only [Act.put, List.setIfInBounds_toArray, List.set_cons_zero, List.set_cons_succ]
          refine heldTake 9 (v := ?_) (by simp only [List.getElem?_toArray, List.getElem?_cons_succ, List.getElem?_cons_zero]; rfl) (by kernel_rfl) (by intro _ _ _ h; exact h) (by rfl) (by assumption) ?_ ?_
          rotate_left
          · intro W hSw; (try dsimp only at hSw); go_simp; try with_reducible rfl
          simp only [Act.put, List.setIfInBounds_toArray, List.set_cons_zero, List.set_cons_succ]
          refine heldTake 10 (v := ?_) (by simp only [List.getElem?_toArray, List.getElem?_cons_succ, List.getElem?_cons_zero]; rfl) (by kernel_rfl) (by intro _ _ _ h; exact h) (by rfl) (by assumption) ?_ ?_
          rotate_left
          · intro W hSw; (try dsimp only at hSw); go_simp; try with_reducible rfl
          simp only [Act.put, List.setIfInBounds_toArray, List.set_cons_zero, List.set_cons_succ]
          refine heldTake 11 (v := ?_) (by simp only [List.getElem?_toArray, List.getElem?_cons_succ, List.getElem?_cons_zero]; rfl) (by kernel_rfl) (by intro _ _ _ h; exact h) (by rfl) (by assumption) ?_ ?_
          rotate_left
          · intro W hSw; (try dsimp only at hSw); go_simp; try with_reducible rfl
          simp only [Act.put, List.setIfInBounds_toArray, List.set_cons_zero, List.set_cons_succ]
          refine heldCall 12 (by simp only [List.getElem?_toArray, List.getElem?_cons_succ, List.getElem?_cons_zero]; rfl) (by kernel_rfl) (fun K hK => ?_)
          go_simp
          refine (rahead_any x y _).mono ?_
          rintro e w9 ⟨rfl, hb9⟩
          have hK0 : Below wr.heap.size wr w9 := hKe.trans (hb9.mono hKe.size)
          clear hKe hb9
          have hKe := hK0
          clear hK0
          go_wp2_with fail
          refine hK.out _ _ ?_ (fun hHeld => ?_)
          · exact ⟨(hKe.cell (p := ⟨b, o + k * 2, none⟩) hbw6).trans e1, (hKe.cell (p := ⟨b, o + k * 2 + 1, none⟩) hbw6).trans e2, (hKe.cell (p := ⟨g, (m - 1) * 2, none⟩) hbg).trans f1, (hKe.cell (p := ⟨g, (m - 1) * 2 + 1, none⟩) hbg).trans f2⟩
          clear hK K
          (try simp only [Act.put, List.setIfInBounds_toArray, List.set_cons_zero, List.set_cons_succ])
          refine heldTake 13 (v := ?_) (by simp only [List.getElem?_toArray, List.getElem?_cons_succ, List.getElem?_cons_zero]; rfl) (by kernel_rfl) (by intro _ _ _ h; exact h) (by rfl) (by assumption) ?_ ?_
          rotate_left
          · intro W hSw; (try dsimp only at hSw); go_simp; try with_reducible rfl
          simp only [Act.put, List.setIfInBounds_toArray, List.set_cons_zero, List.set_cons_succ]
          refine heldDone (by kernel_rfl) ?_ _
          have hbm9 : Below w2.heap.size w2 w9 := hbm.trans (hKe.mono hz6)
          clear hKe hHeld e1 e2 f1 f2 hbm hz6 hbl'
          cases hrl : cntLt x y with
          | true =>
            have HG2 := Lib.hid (HGO.out hrl)
            clear HIF HGO HG HINS
            go_wp2
            go_roundg (gk - 1)
            case measure => have := HM.out; omega
            case rel => exact ⟨m - 1, by go_num, Lib.hid (by have := HM.out; omega), Lib.hid (by omega), HG2, hbm9⟩
          | false =>
            have HIN := Lib.hid (HIF.out hrl)
            clear HIF HGO HG HINS hrl
            go_wp2_with fail
            obtain ⟨w6, rfl⟩ : ∃ w6, w6 = w9 := ⟨_, rfl⟩
            have hbm := hbm9
            clear hbm9
            have hz6 := hbm.size
            have e1 := (hbm.cell (p := ⟨b, o + k * 2, none⟩) hbw).trans d1
            have e2 := (hbm.cell (p := ⟨b, o + k * 2 + 1, none⟩) hbw).trans d2
            have hbl6 : b < w6.heap.size := by omega
            have hrA : Reads w6 w6.heap.size 2 (some ⟨g, 0, none⟩) out.length (out.flatMap cntEnc) := Reads.more (HCAT.out.below hbm) hz6
            have hmc : (m : Int) ≤ (cq : Int) := by omega
            have hrO : Reads w6 w6.heap.size 2 (some ⟨g, 0, none⟩) m ((out.take m).flatMap cntEnc) := by
              have := hrA.take hmle
              rw [flat_take2 cntEnc (fun _ => rfl)] at this
              exact this
            refine heldStart 11 (S := fun W => W.cell? ⟨b, o + k * 2, none⟩ = some (.string x.key) ∧ W.cell? ⟨b, o + k * 2 + 1, none⟩ = some (.int .i64 x.n)) (by kernel_rfl) ?_ (fun hHeld => ?_)
            · exact ⟨(Below.cell (p := ⟨b, o + k * 2, none⟩) (by repeat (first | exact Below.refl _ _ | exact hB4 | exact hB5 | refine Below.alloc ?_ (by first | (simp; done) | (have := hB4.size; simp; omega) | (have := hB4.size; omega)) _ | refine Below.drew ?_)) hbl6).trans e1, (Below.cell (p := ⟨b, o + k * 2 + 1, none⟩) (by repeat (first | exact Below.refl _ _ | exact hB4 | exact hB5 | refine Below.alloc ?_ (by first | (simp; done) | (have := hB4.size; simp; omega) | (have := hB4.size; omega)) _ | refine Below.drew ?_)) hbl6).trans e2⟩
            refine heldTake 1 (v := ?_) (by simp only [List.getElem?_toArray, List.getElem?_cons_succ, List.getElem?_cons_zero]; rfl) (by kernel_rfl) (by intro _ _ _ h; exact h) (by rfl) (by assumption) ?_ ?_
            rotate_left
            · intro W hSw; (try dsimp only at hSw); go_simp; try with_reducible rfl
            simp only [Act.put, List.setIfInBounds_toArray, List.set_cons_zero, List.set_cons_succ]
            refine heldTake 2 (v := ?_) (by simp only [List.getElem?_toArray, List.getElem?_cons_succ, List.getElem?_cons_zero]; rfl) (by kernel_rfl) (by intro _ _ _ h; exact h) (by rfl) (by assumption) ?_ ?_
            rotate_left
            · intro W hSw; (try dsimp only at hSw); go_simp; try with_reducible rfl
            simp only [Act.put, List.setIfInBounds_toArray, List.set_cons_zero, List.set_cons_succ]
            refine heldTake 3 (v := ?_) (by simp only [List.getElem?_toArray, List.getElem?_cons_succ, List.getElem?_cons_zero]; rfl) (by kernel_rfl) (by intro _ _ _ h; exact h) (by rfl) (by assumption) ?_ ?_
            rotate_left
            · intro W hSw; (try dsimp only at hSw); go_simp; try with_reducible rfl
            simp only [Act.put, List.setIfInBounds_toArray, List.set_cons_zero, List.set_cons_succ]
            refine heldTake 5 (v := ?_) (by simp only [List.getElem?_toArray, List.getElem?_cons_succ, List.getElem?_cons_zero]; rfl) (by kernel_rfl) (by intro _ _ _ h; exact h) (by rfl) (by assumption) ?_ ?_
            rotate_left
            · intro W hSw; (try dsimp only at hSw); go_simp; try with_reducible rfl
            simp only [Act.put, List.setIfInBounds_toArray, List.set_cons_zero, List.set_cons_succ]
            refine heldTake 6 (v := ?_) (by simp only [List.getElem?_toArray, List.getElem?_cons_succ, List.getElem?_cons_zero]; rfl) (by kernel_rfl) (by intro _ _ _ h; exact h) (by rfl) (by assumption) ?_ ?_
            rotate_left
            · intro W hSw; (try dsimp only at hSw); go_simp; try with_reducible rfl
            simp only [Act.put, List.setIfInBounds_toArray, List.set_cons_zero, List.set_cons_succ]
            refine heldTake 7 (v := ?_) (by simp only [List.getElem?_toArray, List.getElem?_cons_succ, List.getElem?_cons_zero]; rfl) (by kernel_rfl) (by intro _ _ _ h; exact h) (by rfl) (by assumption) ?_ ?_
            rotate_left
            · intro W hSw; (try dsimp only at hSw); go_simp; try with_reducible rfl
            simp only [Act.put, List.setIfInBounds_toArray, List.set_cons_zero, List.set_cons_succ]
            refine heldTake 8 (v := ?_) (by simp only [List.getElem?_toArray, List.getElem?_cons_succ, List.getElem?_cons_zero]; rfl) (by kernel_rfl) (by intro _ _ _ h; exact h) (by rfl) (by assumption) ?_ ?_
            rotate_left
            · intro W hSw; (try dsimp only at hSw); go_simp; try with_reducible rfl
            simp only [Act.put, List.setIfInBounds_toArray, List.set_cons_zero, List.set_cons_succ]
            refine heldFork 0 9 (by kernel_rfl) ?_ ?_
            · refine heldOp 0 (by simp only [List.getElem?_toArray, List.getElem?_cons_succ, List.getElem?_cons_zero]; rfl) (fun K hK => ?_)
              go_simp
              refine hK.out _ _ ?_ (fun hHeld => ?_)
              · exact ⟨(Below.cell (p := ⟨b, o + k * 2, none⟩) (by repeat (first | exact Below.refl _ _ | exact hB4 | exact hB5 | refine Below.alloc ?_ (by first | (simp; done) | (have := hB4.size; simp; omega) | (have := hB4.size; omega)) _ | refine Below.drew ?_)) hbl6).trans e1, (Below.cell (p := ⟨b, o + k * 2 + 1, none⟩) (by repeat (first | exact Below.refl _ _ | exact hB4 | exact hB5 | refine Below.alloc ?_ (by first | (simp; done) | (have := hB4.size; simp; omega) | (have := hB4.size; omega)) _ | refine Below.drew ?_)) hbl6).trans e2⟩
              clear hK K
              (try simp only [Act.put, List.setIfInBounds_toArray, List.set_cons_zero, List.set_cons_succ])
              refine heldFork 4 9 (by kernel_rfl) ?_ ?_
              · refine heldOpLaw 4 (by simp only [List.getElem?_toArray, List.getElem?_cons_succ, List.getElem?_cons_zero]; rfl) (by rfl) (fun K hK => ?_)
                refine wp_append_to _ (.tmp 32) (.tmp 35) _ rfl w6.heap.size 28 (.agg #[.string ByteArray.empty, .int .i64 0]) 2 24 Try.underlying22 cnt_info rfl (by omega) (some ⟨_, 0, none⟩) 0 0 [] rfl (own_empty (by simp) (by first | exact heapN1 _ _ | exact heapN3 _ _ _ | exact heapN2 _ _ _)) (some ⟨g, 0, none⟩) w6.heap.size m cq ((out.take m).flatMap cntEnc) rfl (hrO.below (by repeat (first | exact Below.refl _ _ | exact hB4 | exact hB5 | refine Below.alloc ?_ (by first | (simp; done) | (have := hB4.size; simp; omega) | (have := hB4.size; omega)) _ | refine Below.drew ?_))) (fun h => by first | rfl | cases h) (cnts_one _) m (by omega) (by unfold maxLen; omega) (by omega) (by first | (simp; done) | (simp; omega)) ?_
                intro A4 c4 w4 hown4 hg4 hb4
                have hB4 : Below w6.heap.size w6 w4 := Below.trans (by repeat (first | exact Below.refl _ _ | exact hB4 | exact hB5 | refine Below.alloc ?_ (by first | (simp; done) | (have := hB4.size; simp; omega) | (have := hB4.size; omega)) _ | refine Below.drew ?_)) hb4
                simp only [List.nil_append] at hown4
                refine hK.out _ _ ?_ (fun hHeld => ?_)
                · exact ⟨(Below.cell (p := ⟨b, o + k * 2, none⟩) (by repeat (first | exact Below.refl _ _ | exact hB4 | exact hB5 | refine Below.alloc ?_ (by first | (simp; done) | (have := hB4.size; simp; omega) | (have := hB4.size; omega)) _ | refine Below.drew ?_)) hbl6).trans e1, (Below.cell (p := ⟨b, o + k * 2 + 1, none⟩) (by repeat (first | exact Below.refl _ _ | exact hB4 | exact hB5 | refine Below.alloc ?_ (by first | (simp; done) | (have := hB4.size; simp; omega) | (have := hB4.size; omega)) _ | refine Below.drew ?_)) hbl6).trans e2⟩
                clear hK K
                (try simp only [Act.put, List.setIfInBounds_toArray, List.set_cons_zero, List.set_cons_succ])
                refine heldCall 9 (by simp only [List.getElem?_toArray, List.getElem?_cons_succ, List.getElem?_cons_zero]; rfl) (by kernel_rfl) (fun K hK => ?_)
                go_simp
                refine hK.out _ _ ?_ (fun hHeld => ?_)
                · exact ⟨(Below.cell (p := ⟨b, o + k * 2, none⟩) (by repeat (first | exact Below.refl _ _ | exact hB4 | exact hB5 | refine Below.alloc ?_ (by first | (simp; done) | (have := hB4.size; simp; omega) | (have := hB4.size; omega)) _ | refine Below.drew ?_)) hbl6).trans e1, (Below.cell (p := ⟨b, o + k * 2 + 1, none⟩) (by repeat (first | exact Below.refl _ _ | exact hB4 | exact hB5 | refine Below.alloc ?_ (by first | (simp; done) | (have := hB4.size; simp; omega) | (have := hB4.size; omega)) _ | refine Below.drew ?_)) hbl6).trans e2⟩
                clear hK K
                (try simp only [Act.put, List.setIfInBounds_toArray, List.set_cons_zero, List.set_cons_succ])
                refine heldLaw 10 (by simp only [List.getElem?_toArray, List.getElem?_cons_succ, List.getElem?_cons_zero]; rfl) (by kernel_rfl) (by rfl) (fun K hK => ?_)
                refine wp_append_to _ (.tmp 36) (.tmp 41) _ rfl w6.heap.size 28 (.agg #[.string ByteArray.empty, .int .i64 0]) 2 24 Try.underlying22 cnt_info rfl (by omega) A4 m c4 ((out.take m).flatMap cntEnc) rfl (hown4.alloc _) (some ⟨_, 0, none⟩) _ 1 1 [.string x.key, .int .i64 x.n] rfl (reads_blk (t := 28) (fr := (0, 0)) (heapM1 _ _) rfl) (fun h => by cases h) (by intro u hu; simp at hu; rcases hu with rfl | rfl <;> rfl) (m + 1) rfl (by unfold maxLen; omega) (by omega) (by have := hB4.size; first | (simp; done) | (simp; omega) | omega) ?_
                intro A5 c5 w5 hown5 hg5 hb5
                have hB5 : Below w6.heap.size w6 w5 := Below.trans (by repeat (first | exact Below.refl _ _ | exact hB4 | exact hB5 | refine Below.alloc ?_ (by first | (simp; done) | (have := hB4.size; simp; omega) | (have := hB4.size; omega)) _ | refine Below.drew ?_)) hb5
                refine hK.out _ _ ?_ (fun hHeld => ?_)
                · exact ⟨(Below.cell (p := ⟨b, o + k * 2, none⟩) (by repeat (first | exact Below.refl _ _ | exact hB4 | exact hB5 | refine Below.alloc ?_ (by first | (simp; done) | (have := hB4.size; simp; omega) | (have := hB4.size; omega)) _ | refine Below.drew ?_)) hbl6).trans e1, (Below.cell (p := ⟨b, o + k * 2 + 1, none⟩) (by repeat (first | exact Below.refl _ _ | exact hB4 | exact hB5 | refine Below.alloc ?_ (by first | (simp; done) | (have := hB4.size; simp; omega) | (have := hB4.size; omega)) _ | refine Below.drew ?_)) hbl6).trans e2⟩
                clear hK K
                (try simp only [Act.put, List.setIfInBounds_toArray, List.set_cons_zero, List.set_cons_succ])
                refine heldTake 11 (v := ?_) (by simp only [List.getElem?_toArray, List.getElem?_cons_succ, List.getElem?_cons_zero]; rfl) (by kernel_rfl) (by intro _ _ _ h; exact h) (by rfl) (by assumption) ?_ ?_
                rotate_left
                · intro W hSw; (try dsimp only at hSw); go_simp; try with_reducible rfl
                simp only [Act.put, List.setIfInBounds_toArray, List.set_cons_zero, List.set_cons_succ]
                refine heldDone (by kernel_rfl) ?_ _
                have hz5 : w6.heap.size ≤ w5.heap.size := hB5.size
                have hrD := hrA.below hB5
                by_cases hq : cq = m
                · have hR1 : Reads w5 w6.heap.size 2 (some ⟨g, 0, none⟩) (out.length - m) ((out.drop m).flatMap cntEnc) := ⟨by rw [flat_len (e := cntEnc) (k := 2) (fun _ => rfl), List.length_drop], fun hp => by omega⟩
                  have hR2 : Reads w5 w6.heap.size 2 (some ⟨g, 0, none⟩) 0 ((out.drop m).flatMap cntEnc) := ⟨by rw [flat_len (e := cntEnc) (k := 2) (fun _ => rfl), List.length_drop, show out.length - m = 0 by omega], fun hp => by omega⟩
                  go_wp2_with (at_builtin; refine wpList_append_to w5 (by rfl) (.tmp 43) (.tmp 46) _ rfl w6.heap.size 28 (.agg #[.string ByteArray.empty, .int .i64 0]) 2 24 Try.underlying22 cnt_info rfl (by omega) A5 (m + 1) c5 _ rfl hown5 _ w6.heap.size _ _ ((out.drop m).flatMap cntEnc) rfl (by first | exact hR1 | exact hR2) (fun h => by cases h) (cnts_one _) (out.length + 1) (by omega) (by unfold maxLen; omega) (by omega) (by omega) ?_; intro A7 c7 w7 hown7 hg7 hb7)
                  obtain ⟨g7, cap7, hv7, _, _⟩ := hown7.form (by omega)
                  injection hv7 with hv7
                  subst hv7
                  go_roundg (g2 - 1)
                  case measure => have := HK.out; omega
                  case rel =>
                    have hln : (out.take m ++ [x] ++ out.drop m).length = out.length + 1 := by simp; omega
                    refine ⟨k + 1, g7, c7, out.take m ++ [x] ++ out.drop m, by go_num, Lib.hid (by have := HK.out; omega), by rw [hln], HIN, ?_, HB2.out.trans ((hbm.mono hzr).trans ((hB5.mono (Nat.le_trans hzr hz6)).trans (hb7.mono (Nat.le_trans hzr hz6))))⟩
                    rw [hln, List.flatMap_append, List.flatMap_append]
                    exact own_base hown7 (Nat.le_trans hzr hz6)
                · have hR1 := hrD.drop (m := m) (c := cq) (by omega) (by omega) rfl
                  rw [if_neg hq] at hR1
                  rw [flat_dropE (e := cntEnc) (k := 2) (fun _ => rfl), Nat.zero_add] at hR1
                  have hR2 := hR1
                  go_wp2_with (at_builtin; refine wpList_append_to w5 (by rfl) (.tmp 43) (.tmp 46) _ rfl w6.heap.size 28 (.agg #[.string ByteArray.empty, .int .i64 0]) 2 24 Try.underlying22 cnt_info rfl (by omega) A5 (m + 1) c5 _ rfl hown5 _ w6.heap.size _ _ ((out.drop m).flatMap cntEnc) rfl (by first | exact hR1 | exact hR2) (fun h => by cases h) (cnts_one _) (out.length + 1) (by omega) (by unfold maxLen; omega) (by omega) (by omega) ?_; intro A7 c7 w7 hown7 hg7 hb7)
                  obtain ⟨g7, cap7, hv7, _, _⟩ := hown7.form (by omega)
                  injection hv7 with hv7
                  subst hv7
                  go_roundg (g2 - 1)
                  case measure => have := HK.out; omega
                  case rel =>
                    have hln : (out.take m ++ [x] ++ out.drop m).length = out.length + 1 := by simp; omega
                    refine ⟨k + 1, g7, c7, out.take m ++ [x] ++ out.drop m, by go_num, Lib.hid (by have := HK.out; omega), by rw [hln], HIN, ?_, HB2.out.trans ((hbm.mono hzr).trans ((hB5.mono (Nat.le_trans hzr hz6)).trans (hb7.mono (Nat.le_trans hzr hz6))))⟩
                    rw [hln, List.flatMap_append, List.flatMap_append]
                    exact own_base hown7 (Nat.le_trans hzr hz6)
              · refine heldOp 9 (by simp only [List.getElem?_toArray, List.getElem?_cons_succ, List.getElem?_cons_zero]; rfl) (fun K hK => ?_)
                go_simp
                refine hK.out _ _ ?_ (fun hHeld => ?_)
                · exact ⟨(Below.cell (p := ⟨b, o + k * 2, none⟩) (by repeat (first | exact Below.refl _ _ | exact hB4 | exact hB5 | refine Below.alloc ?_ (by first | (simp; done) | (have := hB4.size; simp; omega) | (have := hB4.size; omega)) _ | refine Below.drew ?_)) hbl6).trans e1, (Below.cell (p := ⟨b, o + k * 2 + 1, none⟩) (by repeat (first | exact Below.refl _ _ | exact hB4 | exact hB5 | refine Below.alloc ?_ (by first | (simp; done) | (have := hB4.size; simp; omega) | (have := hB4.size; omega)) _ | refine Below.drew ?_)) hbl6).trans e2⟩
                clear hK K
                (try simp only [Act.put, List.setIfInBounds_toArray, List.set_cons_zero, List.set_cons_succ])
                refine heldLaw 4 (by simp only [List.getElem?_toArray, List.getElem?_cons_succ, List.getElem?_cons_zero]; rfl) (by kernel_rfl) (by rfl) (fun K hK => ?_)
                refine wp_append_to _ (.tmp 32) (.tmp 35) _ rfl w6.heap.size 28 (.agg #[.string ByteArray.empty, .int .i64 0]) 2 24 Try.underlying22 cnt_info rfl (by omega) (some ⟨_, 0, none⟩) 0 0 [] rfl (own_empty (by simp) (by first | exact heapN1 _ _ | exact heapN3 _ _ _ | exact heapN2 _ _ _)) (some ⟨g, 0, none⟩) w6.heap.size m cq ((out.take m).flatMap cntEnc) rfl (hrO.below (by repeat (first | exact Below.refl _ _ | exact hB4 | exact hB5 | refine Below.alloc ?_ (by first | (simp; done) | (have := hB4.size; simp; omega) | (have := hB4.size; omega)) _ | refine Below.drew ?_))) (fun h => by first | rfl | cases h) (cnts_one _) m (by omega) (by unfold maxLen; omega) (by omega) (by first | (simp; done) | (simp; omega)) ?_
                intro A4 c4 w4 hown4 hg4 hb4
                have hB4 : Below w6.heap.size w6 w4 := Below.trans (by repeat (first | exact Below.refl _ _ | exact hB4 | exact hB5 | refine Below.alloc ?_ (by first | (simp; done) | (have := hB4.size; simp; omega) | (have := hB4.size; omega)) _ | refine Below.drew ?_)) hb4
                simp only [List.nil_append] at hown4
                refine hK.out _ _ ?_ (fun hHeld => ?_)
                · exact ⟨(Below.cell (p := ⟨b, o + k * 2, none⟩) (by repeat (first | exact Below.refl _ _ | exact hB4 | exact hB5 | refine Below.alloc ?_ (by first | (simp; done) | (have := hB4.size; simp; omega) | (have := hB4.size; omega)) _ | refine Below.drew ?_)) hbl6).trans e1, (Below.cell (p := ⟨b, o + k * 2 + 1, none⟩) (by repeat (first | exact Below.refl _ _ | exact hB4 | exact hB5 | refine Below.alloc ?_ (by first | (simp; done) | (have := hB4.size; simp; omega) | (have := hB4.size; omega)) _ | refine Below.drew ?_)) hbl6).trans e2⟩
                clear hK K
                (try simp only [Act.put, List.setIfInBounds_toArray, List.set_cons_zero, List.set_cons_succ])
                refine heldLaw 10 (by simp only [List.getElem?_toArray, List.getElem?_cons_succ, List.getElem?_cons_zero]; rfl) (by kernel_rfl) (by rfl) (fun K hK => ?_)
                refine wp_append_to _ (.tmp 36) (.tmp 41) _ rfl w6.heap.size 28 (.agg #[.string ByteArray.empty, .int .i64 0]) 2 24 Try.underlying22 cnt_info rfl (by omega) A4 m c4 ((out.take m).flatMap cntEnc) rfl hown4 (some ⟨_, 0, none⟩) _ 1 1 [.string x.key, .int .i64 x.n] rfl (reads_blk (t := 28) (fr := (0, 0)) ((hg4.block _ (by first | (simp; done) | (simp; omega)) (by simp [Value.ownBlock])).trans (by first | exact heapN2 _ _ _ | exact heapN3 _ _ _)) rfl) (fun h => by cases h) (by intro u hu; simp at hu; rcases hu with rfl | rfl <;> rfl) (m + 1) rfl (by unfold maxLen; omega) (by omega) (by have := hB4.size; first | (simp; done) | (simp; omega) | omega) ?_
                intro A5 c5 w5 hown5 hg5 hb5
                have hB5 : Below w6.heap.size w6 w5 := Below.trans (by repeat (first | exact Below.refl _ _ | exact hB4 | exact hB5 | refine Below.alloc ?_ (by first | (simp; done) | (have := hB4.size; simp; omega) | (have := hB4.size; omega)) _ | refine Below.drew ?_)) hb5
                refine hK.out _ _ ?_ (fun hHeld => ?_)
                · exact ⟨(Below.cell (p := ⟨b, o + k * 2, none⟩) (by repeat (first | exact Below.refl _ _ | exact hB4 | exact hB5 | refine Below.alloc ?_ (by first | (simp; done) | (have := hB4.size; simp; omega) | (have := hB4.size; omega)) _ | refine Below.drew ?_)) hbl6).trans e1, (Below.cell (p := ⟨b, o + k * 2 + 1, none⟩) (by repeat (first | exact Below.refl _ _ | exact hB4 | exact hB5 | refine Below.alloc ?_ (by first | (simp; done) | (have := hB4.size; simp; omega) | (have := hB4.size; omega)) _ | refine Below.drew ?_)) hbl6).trans e2⟩
                clear hK K
                (try simp only [Act.put, List.setIfInBounds_toArray, List.set_cons_zero, List.set_cons_succ])
                refine heldTake 11 (v := ?_) (by simp only [List.getElem?_toArray, List.getElem?_cons_succ, List.getElem?_cons_zero]; rfl) (by kernel_rfl) (by intro _ _ _ h; exact h) (by rfl) (by assumption) ?_ ?_
                rotate_left
                · intro W hSw; (try dsimp only at hSw); go_simp; try with_reducible rfl
                simp only [Act.put, List.setIfInBounds_toArray, List.set_cons_zero, List.set_cons_succ]
                refine heldDone (by kernel_rfl) ?_ _
                have hz5 : w6.heap.size ≤ w5.heap.size := hB5.size
                have hrD := hrA.below hB5
                by_cases hq : cq = m
                · have hR1 : Reads w5 w6.heap.size 2 (some ⟨g, 0, none⟩) (out.length - m) ((out.drop m).flatMap cntEnc) := ⟨by rw [flat_len (e := cntEnc) (k := 2) (fun _ => rfl), List.length_drop], fun hp => by omega⟩
                  have hR2 : Reads w5 w6.heap.size 2 (some ⟨g, 0, none⟩) 0 ((out.drop m).flatMap cntEnc) := ⟨by rw [flat_len (e := cntEnc) (k := 2) (fun _ => rfl), List.length_drop, show out.length - m = 0 by omega], fun hp => by omega⟩
                  go_wp2_with (at_builtin; refine wpList_append_to w5 (by rfl) (.tmp 43) (.tmp 46) _ rfl w6.heap.size 28 (.agg #[.string ByteArray.empty, .int .i64 0]) 2 24 Try.underlying22 cnt_info rfl (by omega) A5 (m + 1) c5 _ rfl hown5 _ w6.heap.size _ _ ((out.drop m).flatMap cntEnc) rfl (by first | exact hR1 | exact hR2) (fun h => by cases h) (cnts_one _) (out.length + 1) (by omega) (by unfold maxLen; omega) (by omega) (by omega) ?_; intro A7 c7 w7 hown7 hg7 hb7)
                  obtain ⟨g7, cap7, hv7, _, _⟩ := hown7.form (by omega)
                  injection hv7 with hv7
                  subst hv7
                  go_roundg (g2 - 1)
                  case measure => have := HK.out; omega
                  case rel =>
                    have hln : (out.take m ++ [x] ++ out.drop m).length = out.length + 1 := by simp; omega
                    refine ⟨k + 1, g7, c7, out.take m ++ [x] ++ out.drop m, by go_num, Lib.hid (by have := HK.out; omega), by rw [hln], HIN, ?_, HB2.out.trans ((hbm.mono hzr).trans ((hB5.mono (Nat.le_trans hzr hz6)).trans (hb7.mono (Nat.le_trans hzr hz6))))⟩
                    rw [hln, List.flatMap_append, List.flatMap_append]
                    exact own_base hown7 (Nat.le_trans hzr hz6)
                · have hR1 := hrD.drop (m := m) (c := cq) (by omega) (by omega) rfl
                  rw [if_neg hq] at hR1
                  rw [flat_dropE (e := cntEnc) (k := 2) (fun _ => rfl), Nat.zero_add] at hR1
                  have hR2 := hR1
                  go_wp2_with (at_builtin; refine wpList_append_to w5 (by rfl) (.tmp 43) (.tmp 46) _ rfl w6.heap.size 28 (.agg #[.string ByteArray.empty, .int .i64 0]) 2 24 Try.underlying22 cnt_info rfl (by omega) A5 (m + 1) c5 _ rfl hown5 _ w6.heap.size _ _ ((out.drop m).flatMap cntEnc) rfl (by first | exact hR1 | exact hR2) (fun h => by cases h) (cnts_one _) (out.length + 1) (by omega) (by unfold maxLen; omega) (by omega) (by omega) ?_; intro A7 c7 w7 hown7 hg7 hb7)
                  obtain ⟨g7, cap7, hv7, _, _⟩ := hown7.form (by omega)
                  injection hv7 with hv7
                  subst hv7
                  go_roundg (g2 - 1)
                  case measure => have := HK.out; omega
                  case rel =>
                    have hln : (out.take m ++ [x] ++ out.drop m).length = out.length + 1 := by simp; omega
                    refine ⟨k + 1, g7, c7, out.take m ++ [x] ++ out.drop m, by go_num, Lib.hid (by have := HK.out; omega), by rw [hln], HIN, ?_, HB2.out.trans ((hbm.mono hzr).trans ((hB5.mono (Nat.le_trans hzr hz6)).trans (hb7.mono (Nat.le_trans hzr hz6))))⟩
                    rw [hln, List.flatMap_append, List.flatMap_append]
                    exact own_base hown7 (Nat.le_trans hzr hz6)
            · refine heldOp 9 (by simp only [List.getElem?_toArray, List.getElem?_cons_succ, List.getElem?_cons_zero]; rfl) (fun K hK => ?_)
              go_simp
              refine hK.out _ _ ?_ (fun hHeld => ?_)
              · exact ⟨(Below.cell (p := ⟨b, o + k * 2, none⟩) (by repeat (first | exact Below.refl _ _ | exact hB4 | exact hB5 | refine Below.alloc ?_ (by first | (simp; done) | (have := hB4.size; simp; omega) | (have := hB4.size; omega)) _ | refine Below.drew ?_)) hbl6).trans e1, (Below.cell (p := ⟨b, o + k * 2 + 1, none⟩) (by repeat (first | exact Below.refl _ _ | exact hB4 | exact hB5 | refine Below.alloc ?_ (by first | (simp; done) | (have := hB4.size; simp; omega) | (have := hB4.size; omega)) _ | refine Below.drew ?_)) hbl6).trans e2⟩
              clear hK K
              (try simp only [Act.put, List.setIfInBounds_toArray, List.set_cons_zero, List.set_cons_succ])
              refine heldCall 0 (by simp only [List.getElem?_toArray, List.getElem?_cons_succ, List.getElem?_cons_zero]; rfl) (by kernel_rfl) (fun K hK => ?_)
              go_simp
              refine hK.out _ _ ?_ (fun hHeld => ?_)
              · exact ⟨(Below.cell (p := ⟨b, o + k * 2, none⟩) (by repeat (first | exact Below.refl _ _ | exact hB4 | exact hB5 | refine Below.alloc ?_ (by first | (simp; done) | (have := hB4.size; simp; omega) | (have := hB4.size; omega)) _ | refine Below.drew ?_)) hbl6).trans e1, (Below.cell (p := ⟨b, o + k * 2 + 1, none⟩) (by repeat (first | exact Below.refl _ _ | exact hB4 | exact hB5 | refine Below.alloc ?_ (by first | (simp; done) | (have := hB4.size; simp; omega) | (have := hB4.size; omega)) _ | refine Below.drew ?_)) hbl6).trans e2⟩
              clear hK K
              (try simp only [Act.put, List.setIfInBounds_toArray, List.set_cons_zero, List.set_cons_succ])
              refine heldLaw 4 (by simp only [List.getElem?_toArray, List.getElem?_cons_succ, List.getElem?_cons_zero]; rfl) (by kernel_rfl) (by rfl) (fun K hK => ?_)
              refine wp_append_to _ (.tmp 32) (.tmp 35) _ rfl w6.heap.size 28 (.agg #[.string ByteArray.empty, .int .i64 0]) 2 24 Try.underlying22 cnt_info rfl (by omega) (some ⟨_, 0, none⟩) 0 0 [] rfl (own_empty (by simp) (by first | exact heapN1 _ _ | exact heapN3 _ _ _ | exact heapN2 _ _ _)) (some ⟨g, 0, none⟩) w6.heap.size m cq ((out.take m).flatMap cntEnc) rfl (hrO.below (by repeat (first | exact Below.refl _ _ | exact hB4 | exact hB5 | refine Below.alloc ?_ (by first | (simp; done) | (have := hB4.size; simp; omega) | (have := hB4.size; omega)) _ | refine Below.drew ?_))) (fun h => by first | rfl | cases h) (cnts_one _) m (by omega) (by unfold maxLen; omega) (by omega) (by first | (simp; done) | (simp; omega)) ?_
              intro A4 c4 w4 hown4 hg4 hb4
              have hB4 : Below w6.heap.size w6 w4 := Below.trans (by repeat (first | exact Below.refl _ _ | exact hB4 | exact hB5 | refine Below.alloc ?_ (by first | (simp; done) | (have := hB4.size; simp; omega) | (have := hB4.size; omega)) _ | refine Below.drew ?_)) hb4
              simp only [List.nil_append] at hown4
              refine hK.out _ _ ?_ (fun hHeld => ?_)
              · exact ⟨(Below.cell (p := ⟨b, o + k * 2, none⟩) (by repeat (first | exact Below.refl _ _ | exact hB4 | exact hB5 | refine Below.alloc ?_ (by first | (simp; done) | (have := hB4.size; simp; omega) | (have := hB4.size; omega)) _ | refine Below.drew ?_)) hbl6).trans e1, (Below.cell (p := ⟨b, o + k * 2 + 1, none⟩) (by repeat (first | exact Below.refl _ _ | exact hB4 | exact hB5 | refine Below.alloc ?_ (by first | (simp; done) | (have := hB4.size; simp; omega) | (have := hB4.size; omega)) _ | refine Below.drew ?_)) hbl6).trans e2⟩
              clear hK K
              (try simp only [Act.put, List.setIfInBounds_toArray, List.set_cons_zero, List.set_cons_succ])
              refine heldLaw 10 (by simp only [List.getElem?_toArray, List.getElem?_cons_succ, List.getElem?_cons_zero]; rfl) (by kernel_rfl) (by rfl) (fun K hK => ?_)
              refine wp_append_to _ (.tmp 36) (.tmp 41) _ rfl w6.heap.size 28 (.agg #[.string ByteArray.empty, .int .i64 0]) 2 24 Try.underlying22 cnt_info rfl (by omega) A4 m c4 ((out.take m).flatMap cntEnc) rfl hown4 (some ⟨_, 0, none⟩) _ 1 1 [.string x.key, .int .i64 x.n] rfl (reads_blk (t := 28) (fr := (0, 0)) ((hg4.block _ (by first | (simp; done) | (simp; omega)) (by simp [Value.ownBlock])).trans (by first | exact heapN2 _ _ _ | exact heapN3 _ _ _)) rfl) (fun h => by cases h) (by intro u hu; simp at hu; rcases hu with rfl | rfl <;> rfl) (m + 1) rfl (by unfold maxLen; omega) (by omega) (by have := hB4.size; first | (simp; done) | (simp; omega) | omega) ?_
              intro A5 c5 w5 hown5 hg5 hb5
              have hB5 : Below w6.heap.size w6 w5 := Below.trans (by repeat (first | exact Below.refl _ _ | exact hB4 | exact hB5 | refine Below.alloc ?_ (by first | (simp; done) | (have := hB4.size; simp; omega) | (have := hB4.size; omega)) _ | refine Below.drew ?_)) hb5
              refine hK.out _ _ ?_ (fun hHeld => ?_)
              · exact ⟨(Below.cell (p := ⟨b, o + k * 2, none⟩) (by repeat (first | exact Below.refl _ _ | exact hB4 | exact hB5 | refine Below.alloc ?_ (by first | (simp; done) | (have := hB4.size; simp; omega) | (have := hB4.size; omega)) _ | refine Below.drew ?_)) hbl6).trans e1, (Below.cell (p := ⟨b, o + k * 2 + 1, none⟩) (by repeat (first | exact Below.refl _ _ | exact hB4 | exact hB5 | refine Below.alloc ?_ (by first | (simp; done) | (have := hB4.size; simp; omega) | (have := hB4.size; omega)) _ | refine Below.drew ?_)) hbl6).trans e2⟩
              clear hK K
              (try simp only [Act.put, List.setIfInBounds_toArray, List.set_cons_zero, List.set_cons_succ])
              refine heldTake 11 (v := ?_) (by simp only [List.getElem?_toArray, List.getElem?_cons_succ, List.getElem?_cons_zero]; rfl) (by kernel_rfl) (by intro _ _ _ h; exact h) (by rfl) (by assumption) ?_ ?_
              rotate_left
              · intro W hSw; (try dsimp only at hSw); go_simp; try with_reducible rfl
              simp only [Act.put, List.setIfInBounds_toArray, List.set_cons_zero, List.set_cons_succ]
              refine heldDone (by kernel_rfl) ?_ _
              have hz5 : w6.heap.size ≤ w5.heap.size := hB5.size
              have hrD := hrA.below hB5
              by_cases hq : cq = m
              · have hR1 : Reads w5 w6.heap.size 2 (some ⟨g, 0, none⟩) (out.length - m) ((out.drop m).flatMap cntEnc) := ⟨by rw [flat_len (e := cntEnc) (k := 2) (fun _ => rfl), List.length_drop], fun hp => by omega⟩
                have hR2 : Reads w5 w6.heap.size 2 (some ⟨g, 0, none⟩) 0 ((out.drop m).flatMap cntEnc) := ⟨by rw [flat_len (e := cntEnc) (k := 2) (fun _ => rfl), List.length_drop, show out.length - m = 0 by omega], fun hp => by omega⟩
                go_wp2_with (at_builtin; refine wpList_append_to w5 (by rfl) (.tmp 43) (.tmp 46) _ rfl w6.heap.size 28 (.agg #[.string ByteArray.empty, .int .i64 0]) 2 24 Try.underlying22 cnt_info rfl (by omega) A5 (m + 1) c5 _ rfl hown5 _ w6.heap.size _ _ ((out.drop m).flatMap cntEnc) rfl (by first | exact hR1 | exact hR2) (fun h => by cases h) (cnts_one _) (out.length + 1) (by omega) (by unfold maxLen; omega) (by omega) (by omega) ?_; intro A7 c7 w7 hown7 hg7 hb7)
                obtain ⟨g7, cap7, hv7, _, _⟩ := hown7.form (by omega)
                injection hv7 with hv7
                subst hv7
                go_roundg (g2 - 1)
                case measure => have := HK.out; omega
                case rel =>
                  have hln : (out.take m ++ [x] ++ out.drop m).length = out.length + 1 := by simp; omega
                  refine ⟨k + 1, g7, c7, out.take m ++ [x] ++ out.drop m, by go_num, Lib.hid (by have := HK.out; omega), by rw [hln], HIN, ?_, HB2.out.trans ((hbm.mono hzr).trans ((hB5.mono (Nat.le_trans hzr hz6)).trans (hb7.mono (Nat.le_trans hzr hz6))))⟩
                  rw [hln, List.flatMap_append, List.flatMap_append]
                  exact own_base hown7 (Nat.le_trans hzr hz6)
              · have hR1 := hrD.drop (m := m) (c := cq) (by omega) (by omega) rfl
                rw [if_neg hq] at hR1
                rw [flat_dropE (e := cntEnc) (k := 2) (fun _ => rfl), Nat.zero_add] at hR1
                have hR2 := hR1
                go_wp2_with (at_builtin; refine wpList_append_to w5 (by rfl) (.tmp 43) (.tmp 46) _ rfl w6.heap.size 28 (.agg #[.string ByteArray.empty, .int .i64 0]) 2 24 Try.underlying22 cnt_info rfl (by omega) A5 (m + 1) c5 _ rfl hown5 _ w6.heap.size _ _ ((out.drop m).flatMap cntEnc) rfl (by first | exact hR1 | exact hR2) (fun h => by cases h) (cnts_one _) (out.length + 1) (by omega) (by unfold maxLen; omega) (by omega) (by omega) ?_; intro A7 c7 w7 hown7 hg7 hb7)
                obtain ⟨g7, cap7, hv7, _, _⟩ := hown7.form (by omega)
                injection hv7 with hv7
                subst hv7
                go_roundg (g2 - 1)
                case measure => have := HK.out; omega
                case rel =>
                  have hln : (out.take m ++ [x] ++ out.drop m).length = out.length + 1 := by simp; omega
                  refine ⟨k + 1, g7, c7, out.take m ++ [x] ++ out.drop m, by go_num, Lib.hid (by have := HK.out; omega), by rw [hln], HIN, ?_, HB2.out.trans ((hbm.mono hzr).trans ((hB5.mono (Nat.le_trans hzr hz6)).trans (hb7.mono (Nat.le_trans hzr hz6))))⟩
                  rw [hln, List.flatMap_append, List.flatMap_append]
                  exact own_base hown7 (Nat.le_trans hzr hz6)
    · have hall : l.take k = l := List.take_of_length_le (by omega)
      have HO2 : Hid (l.Perm out ∧ out.Pairwise (fun x y => cntLt x y = true)) := Lib.hid (by have := HO.out; rw [hall] at this; exact this)
      go_wp2
      go_ret
      exact ⟨out, HO2.out.1, HO2.out.2, g, cq, rfl, hown, hb⟩
end Go.Proofs.Ytpjaolablkcpmaa
