/- Contracts of the reference's number, Ranges, Next. -/
import Derived.Test.YtcladmcbhnmhiaaDeA
import Derived.Deep.DeepCutAuto
namespace Go.Proofs.Ytcladmcbhnmhiaa
open Go.ChangeShapes Go.WideShapes Go.ChangeAt Go.RowKit Go.Shelf Go.Lib Go.Sort Go.Proofs
set_option linter.unusedVariables false
set_option linter.unusedSimpArgs false

theorem keepN {w w' : World} (h : Below w.heap.size w w') : Below w.heap.size w w'.drew := h.drew
set_option maxHeartbeats 8000000 in
set_option maxRecDepth 100000 in
theorem rnum_small (n : Nat) (w : World) (hs : n < 128) : Calls Try.prog 44 #[.int .i64 n] w (ByNew w ⟨(numB n).toArray⟩) := by
  have hnb : numB n = [UInt8.ofNat n] := numB_small hs
  rw [hnb]
  have hs2 : (n : Int) < 128 := by omega
  have hu : Value.int .u8 (n : Int) = .int .u8 ((UInt8.ofNat n).toNat : Int) := by
    have : (UInt8.ofNat n).toNat = n := by simp; omega
    rw [this]
  have hcv := conv_one (w.alloc (.cells #[.int .u8 (n : Int)] 5)) (UInt8.ofNat n) _ hu (heap_alloc_new w _)
  have e256 : (n : Int) % 256 = (n : Int) := by omega
  have hB : Below w.heap.size w (w.alloc (.cells #[.int .u8 (n : Int)] 5)) := (Below.refl _ w).alloc (Nat.le_refl _) _
  have HB := Lib.hid hB
  clear hB hnb hu
  go_enter Try.func44, Try.ntmps44
  go_wp2
  go_ret
  exact ⟨rfl, HB.out⟩

set_option maxHeartbeats 8000000 in
set_option maxRecDepth 100000 in
theorem rnum_any : ∀ (f n : Nat) (w : World), n < 128 ^ (f + 1) → (n : Int) ≤ 4398046511103 → Calls Try.prog 44 #[.int .i64 n] w (ByNew w ⟨(numB n).toArray⟩) := by
  intro f
  induction f with
  | zero =>
    intro n w hf hn
    exact rnum_small n w (by simpa using hf)
  | succ g ihg =>
    intro n w hf hn
    by_cases hs : n < 128
    · exact rnum_small n w hs
    · skip
      have hq : n / 128 < 128 ^ (g + 1) := by
        rw [Nat.div_lt_iff_lt_mul (by omega)]
        rw [Nat.pow_succ] at hf
        exact hf
      have hnb : numB n = UInt8.ofNat (128 + n % 128) :: numB (n / 128) := by rw [numB, dif_neg hs]
      have ih := fun W => ihg (n / 128) W hq (by omega)
      have hl6 : (numB (n / 128)).length ≤ 6 := numB_le6 (by omega)
      have hst : (⟨#[UInt8.ofNat (128 + n % 128)]⟩ : ByteArray) ++ ⟨(numB (n / 128)).toArray⟩ = ⟨(numB n).toArray⟩ := by
        rw [ByteArray.mk_append_mk, hnb]
        simp
      obtain ⟨sa, hsa⟩ : ∃ sa : ByteArray, sa = ⟨#[UInt8.ofNat (128 + n % 128)]⟩ := ⟨_, rfl⟩
      obtain ⟨sb, hsb⟩ : ∃ sb : ByteArray, sb = ⟨(numB (n / 128)).toArray⟩ := ⟨_, rfl⟩
      have hz1 : sa.size = 1 := by rw [hsa]; rfl
      have hz2 : sb.size ≤ 6 := by
        rw [hsb]
        show (numB (n / 128)).toArray.size ≤ 6
        simpa using hl6
      have hadd : ∀ W, (Op.stringOp .add sa sb).run Try.prog W = .ok (.string (sa ++ sb)) W := fun W => run_string_add_sum (P := Try.prog) W sa sb (by omega)
      have hif : ¬ 9223372036854775807 < sa.size + sb.size := by omega
      rw [← hsa, ← hsb] at hst
      rw [hst] at hadd
      rw [← hsb] at ih
      have HSA := Lib.hid hsa
      clear hsa hsb hz1 hz2
      have hs2 : ¬ (n : Int) < 128 := by omega
      have hd : decide ((n : Int) < 128) = false := decide_eq_false hs2
      have w1 : (n : Int).tdiv 128 = ((n / 128 : Nat) : Int) := by rw [Int.tdiv_eq_ediv_of_nonneg (by omega)]; omega
      have w2 : (n : Int).tmod 128 = ((n % 128 : Nat) : Int) := by rw [Int.tmod_eq_emod_of_nonneg (by omega)]; omega
      have w5 : IntKind.i64.wrap ((n / 128 : Nat) : Int) = ((n / 128 : Nat) : Int) := IntWalk.i64_in _ (by omega)
      have hv4 : Value.int .u8 (IntKind.u8.wrap (IntKind.i64.wrap (128 + (n : Int) % 128))) = .int .u8 ((UInt8.ofNat (128 + n % 128)).toNat : Int) := by
        have e1 : (UInt8.ofNat (128 + n % 128)).toNat = 128 + n % 128 := by simp; omega
        rw [e1, IntWalk.i64_in _ (by omega)]
        congr 1
        simp [IntKind.wrap, IntKind.bits, IntKind.signed]
        omega
      have HV4 := Lib.hid hv4
      clear hv4
      have IH := Lib.hid ih
      clear ih hnb hl6
      generalize n / 128 = m at *
      obtain ⟨st, hstd⟩ : ∃ st : ByteArray, st = ⟨(numB n).toArray⟩ := ⟨_, rfl⟩
      rw [← hstd] at hst hadd ⊢
      clear hstd
      go_enter Try.func44, Try.ntmps44
      go_wp2_with fail
      have hKe : Below w.heap.size w w.drew := (Below.refl _ _).drew
      refine heldStart 10 (S := fun W => True) (by kernel_rfl) ?_ (fun hHeld => ?_)
      · trivial
      refine heldTake 0 (v := ?_) (by simp only [List.getElem?_toArray, List.getElem?_cons_succ, List.getElem?_cons_zero]; rfl) (by kernel_rfl) (by intro _ _ _ h; exact h) (by rfl) (by assumption) ?_ ?_
      rotate_left
      · intro W hSw; (try dsimp only at hSw); go_simp; try with_reducible rfl
      simp only [Act.put, List.setIfInBounds_toArray, List.set_cons_zero, List.set_cons_succ]
      refine heldTake 1 (v := ?_) (by simp only [List.getElem?_toArray, List.getElem?_cons_succ, List.getElem?_cons_zero]; rfl) (by kernel_rfl) (by intro _ _ _ h; exact h) (by rfl) (by assumption) ?_ ?_
      rotate_left
      · intro W hSw; (try dsimp only at hSw); go_simp; try with_reducible rfl
      simp only [Act.put, List.setIfInBounds_toArray, List.set_cons_zero, List.set_cons_succ]
      refine heldTake 2 (v := ?_) (by simp only [List.getElem?_toArray, List.getElem?_cons_succ, List.getElem?_cons_zero]; rfl) (by kernel_rfl) (by intro _ _ _ h; exact h) (by rfl) (by assumption) ?_ ?_
      rotate_left
      · intro W hSw; (try dsimp only at hSw); go_simp; try with_reducible rfl
      simp only [Act.put, List.setIfInBounds_toArray, List.set_cons_zero, List.set_cons_succ]
      refine heldTake 3 (v := ?_) (by simp only [List.getElem?_toArray, List.getElem?_cons_succ, List.getElem?_cons_zero]; rfl) (by kernel_rfl) (by intro _ _ _ h; exact h) (by rfl) (by assumption) ?_ ?_
      rotate_left
      · intro W hSw; (try dsimp only at hSw); go_simp; try with_reducible rfl
      simp only [Act.put, List.setIfInBounds_toArray, List.set_cons_zero, List.set_cons_succ]
      refine heldTake 6 (v := ?_) (by simp only [List.getElem?_toArray, List.getElem?_cons_succ, List.getElem?_cons_zero]; rfl) (by kernel_rfl) (by intro _ _ _ h; exact h) (by rfl) (by assumption) ?_ ?_
      rotate_left
      · intro W hSw; (try dsimp only at hSw); go_simp; try with_reducible rfl
      simp only [Act.put, List.setIfInBounds_toArray, List.set_cons_zero, List.set_cons_succ]
      refine heldTake 7 (v := ?_) (by simp only [List.getElem?_toArray, List.getElem?_cons_succ, List.getElem?_cons_zero]; rfl) (by kernel_rfl) (by intro _ _ _ h; exact h) (by rfl) (by assumption) ?_ ?_
      rotate_left
      · intro W hSw; (try dsimp only at hSw); go_simp; try with_reducible rfl
      simp only [Act.put, List.setIfInBounds_toArray, List.set_cons_zero, List.set_cons_succ]
      refine heldFork 4 8 (by kernel_rfl) ?_ ?_
      · refine heldOp 4 (by simp only [List.getElem?_toArray, List.getElem?_cons_succ, List.getElem?_cons_zero]; rfl) (fun K hK => ?_)
        go_simp
        clear hKe
        have hblk : (w.alloc (.cells #[.int .u8 (IntKind.u8.wrap (IntKind.i64.wrap (128 + (n : Int) % 128)))] 5)).drew.heap[w.heap.size]? = some (.cells #[.int .u8 (IntKind.u8.wrap (IntKind.i64.wrap (128 + (n : Int) % 128)))] 5 (0, 0)) := heap_alloc_new w _
        have hKe : Below w.heap.size w (w.alloc (.cells #[.int .u8 (IntKind.u8.wrap (IntKind.i64.wrap (128 + (n : Int) % 128)))] 5)).drew := ((Below.refl _ w).alloc (Nat.le_refl _) _).drew
        have hbl : w.heap.size < (w.alloc (.cells #[.int .u8 (IntKind.u8.wrap (IntKind.i64.wrap (128 + (n : Int) % 128)))] 5)).drew.heap.size := by show w.heap.size < (w.alloc _).heap.size; simp
        generalize (w.alloc (.cells #[.int .u8 (IntKind.u8.wrap (IntKind.i64.wrap (128 + (n : Int) % 128)))] 5)).drew = W4 at *
        refine hK.out _ _ ?_ (fun hHeld => ?_)
        · trivial
        clear hK K
        (try simp only [Act.put, List.setIfInBounds_toArray, List.set_cons_zero, List.set_cons_succ])
        refine heldFork 5 8 (by kernel_rfl) ?_ ?_
        · refine heldOp 5 (by simp only [List.getElem?_toArray, List.getElem?_cons_succ, List.getElem?_cons_zero]; rfl) (fun K hK => ?_)
          have hcv := conv_one _ (UInt8.ofNat (128 + n % 128)) _ HV4.out hblk
          rw [← HSA.out] at hcv
          go_simp
          clear hcv
          refine hK.out _ _ ?_ (fun hHeld => ?_)
          · trivial
          clear hK K
          (try simp only [Act.put, List.setIfInBounds_toArray, List.set_cons_zero, List.set_cons_succ])
          refine heldCall 8 (by simp only [List.getElem?_toArray, List.getElem?_cons_succ, List.getElem?_cons_zero]; rfl) (by kernel_rfl) (fun K hK => ?_)
          go_simp
          refine Calls.mono (IH.out _) ?_
          rintro e w5 ⟨rfl, hb5⟩
          try replace hblk := (hb5.block _ hbl).trans hblk
          replace hKe : Below w.heap.size w w5 := hKe.trans (hb5.mono hKe.size)
          clear hb5
          refine hK.out _ _ ?_ (fun hHeld => ?_)
          · trivial
          clear hK K
          (try simp only [Act.put, List.setIfInBounds_toArray, List.set_cons_zero, List.set_cons_succ])
          refine heldTake 9 (v := ?_) (by simp only [List.getElem?_toArray, List.getElem?_cons_succ, List.getElem?_cons_zero]; rfl) (by kernel_rfl) (by intro _ _ _ h; exact h) (by rfl) (by assumption) ?_ ?_
          rotate_left
          · intro W hSw; (try dsimp only at hSw); go_simp; try with_reducible rfl
          simp only [Act.put, List.setIfInBounds_toArray, List.set_cons_zero, List.set_cons_succ]
          refine heldTake 10 (v := ?_) (by simp only [List.getElem?_toArray, List.getElem?_cons_succ, List.getElem?_cons_zero]; rfl) (by kernel_rfl) (by intro _ _ _ h; exact h) (by rfl) (by assumption) ?_ ?_
          rotate_left
          · intro W hSw; (try dsimp only at hSw); go_simp; try with_reducible rfl
          simp only [Act.put, List.setIfInBounds_toArray, List.set_cons_zero, List.set_cons_succ]
          refine heldDone (by kernel_rfl) ?_ _
          go_wp2
          go_ret
          exact ⟨rfl, by first | exact hKe | exact hKe.drew⟩
        · refine heldOp 8 (by simp only [List.getElem?_toArray, List.getElem?_cons_succ, List.getElem?_cons_zero]; rfl) (fun K hK => ?_)
          go_simp
          refine Calls.mono (IH.out _) ?_
          rintro e w5 ⟨rfl, hb5⟩
          try replace hblk := (hb5.block _ hbl).trans hblk
          replace hKe : Below w.heap.size w w5 := hKe.trans (hb5.mono hKe.size)
          clear hb5
          refine hK.out _ _ ?_ (fun hHeld => ?_)
          · trivial
          clear hK K
          (try simp only [Act.put, List.setIfInBounds_toArray, List.set_cons_zero, List.set_cons_succ])
          refine heldCall 5 (by simp only [List.getElem?_toArray, List.getElem?_cons_succ, List.getElem?_cons_zero]; rfl) (by kernel_rfl) (fun K hK => ?_)
          have hcv := conv_one _ (UInt8.ofNat (128 + n % 128)) _ HV4.out hblk
          rw [← HSA.out] at hcv
          go_simp
          clear hcv
          refine hK.out _ _ ?_ (fun hHeld => ?_)
          · trivial
          clear hK K
          (try simp only [Act.put, List.setIfInBounds_toArray, List.set_cons_zero, List.set_cons_succ])
          refine heldTake 9 (v := ?_) (by simp only [List.getElem?_toArray, List.getElem?_cons_succ, List.getElem?_cons_zero]; rfl) (by kernel_rfl) (by intro _ _ _ h; exact h) (by rfl) (by assumption) ?_ ?_
          rotate_left
          · intro W hSw; (try dsimp only at hSw); go_simp; try with_reducible rfl
          simp only [Act.put, List.setIfInBounds_toArray, List.set_cons_zero, List.set_cons_succ]
          refine heldTake 10 (v := ?_) (by simp only [List.getElem?_toArray, List.getElem?_cons_succ, List.getElem?_cons_zero]; rfl) (by kernel_rfl) (by intro _ _ _ h; exact h) (by rfl) (by assumption) ?_ ?_
          rotate_left
          · intro W hSw; (try dsimp only at hSw); go_simp; try with_reducible rfl
          simp only [Act.put, List.setIfInBounds_toArray, List.set_cons_zero, List.set_cons_succ]
          refine heldDone (by kernel_rfl) ?_ _
          go_wp2
          go_ret
          exact ⟨rfl, by first | exact hKe | exact hKe.drew⟩
      · refine heldOp 8 (by simp only [List.getElem?_toArray, List.getElem?_cons_succ, List.getElem?_cons_zero]; rfl) (fun K hK => ?_)
        go_simp
        refine Calls.mono (IH.out _) ?_
        rintro e w5 ⟨rfl, hb5⟩
        try replace hblk := (hb5.block _ hbl).trans hblk
        replace hKe : Below w.heap.size w w5 := hKe.trans (hb5.mono hKe.size)
        clear hb5
        refine hK.out _ _ ?_ (fun hHeld => ?_)
        · trivial
        clear hK K
        (try simp only [Act.put, List.setIfInBounds_toArray, List.set_cons_zero, List.set_cons_succ])
        refine heldCall 4 (by simp only [List.getElem?_toArray, List.getElem?_cons_succ, List.getElem?_cons_zero]; rfl) (by kernel_rfl) (fun K hK => ?_)
        go_simp
        have hblk : (w5.alloc (.cells #[.int .u8 (IntKind.u8.wrap (IntKind.i64.wrap (128 + (n : Int) % 128)))] 5)).heap[w5.heap.size]? = some (.cells #[.int .u8 (IntKind.u8.wrap (IntKind.i64.wrap (128 + (n : Int) % 128)))] 5 (0, 0)) := heap_alloc_new w5 _
        replace hKe : Below w.heap.size w (w5.alloc (.cells #[.int .u8 (IntKind.u8.wrap (IntKind.i64.wrap (128 + (n : Int) % 128)))] 5)) := hKe.alloc hKe.size _
        generalize (w5.alloc (.cells #[.int .u8 (IntKind.u8.wrap (IntKind.i64.wrap (128 + (n : Int) % 128)))] 5)) = W4 at *
        refine hK.out _ _ ?_ (fun hHeld => ?_)
        · trivial
        clear hK K
        (try simp only [Act.put, List.setIfInBounds_toArray, List.set_cons_zero, List.set_cons_succ])
        refine heldCall 5 (by simp only [List.getElem?_toArray, List.getElem?_cons_succ, List.getElem?_cons_zero]; rfl) (by kernel_rfl) (fun K hK => ?_)
        have hcv := conv_one _ (UInt8.ofNat (128 + n % 128)) _ HV4.out hblk
        rw [← HSA.out] at hcv
        go_simp
        clear hcv
        refine hK.out _ _ ?_ (fun hHeld => ?_)
        · trivial
        clear hK K
        (try simp only [Act.put, List.setIfInBounds_toArray, List.set_cons_zero, List.set_cons_succ])
        refine heldTake 9 (v := ?_) (by simp only [List.getElem?_toArray, List.getElem?_cons_succ, List.getElem?_cons_zero]; rfl) (by kernel_rfl) (by intro _ _ _ h; exact h) (by rfl) (by assumption) ?_ ?_
        rotate_left
        · intro W hSw; (try dsimp only at hSw); go_simp; try with_reducible rfl
        simp only [Act.put, List.setIfInBounds_toArray, List.set_cons_zero, List.set_cons_succ]
        refine heldTake 10 (v := ?_) (by simp only [List.getElem?_toArray, List.getElem?_cons_succ, List.getElem?_cons_zero]; rfl) (by kernel_rfl) (by intro _ _ _ h; exact h) (by rfl) (by assumption) ?_ ?_
        rotate_left
        · intro W hSw; (try dsimp only at hSw); go_simp; try with_reducible rfl
        simp only [Act.put, List.setIfInBounds_toArray, List.set_cons_zero, List.set_cons_succ]
        refine heldDone (by kernel_rfl) ?_ _
        go_wp2
        go_ret
        exact ⟨rfl, by first | exact hKe | exact hKe.drew⟩

theorem row_setT {t : TypeId} {w : World} {base g c i : Nat} {R : List Rg} (h : w.ownsRow base t 2 (.slice (some ⟨g, 0, none⟩) R.length c) R.length (rgsCells R)) (hi : i < R.length) (f : Nat) (hf : f = 0 ∨ f = 1) (v : Int) :
    (w.setCell ⟨g, i * 2 + f, none⟩ (.int .i64 v)).ownsRow base t 2 (.slice (some ⟨g, 0, none⟩) R.length c) R.length (rgsCells (R.set i (if f = 0 then (v, R[i].2) else (R[i].1, v)))) ∧ w.grownBy (w.setCell ⟨g, i * 2 + f, none⟩ (.int .i64 v)) (some g) := by
  obtain ⟨cur, hg, hb, hn, hc, hcl, htk, -⟩ := own_block h
  rw [setCell_eq_setRow w g (i * 2 + f) cur.toArray _ _ _ hg]
  refine ⟨?_, grown_setRow _ _ _⟩
  have e : cur.toArray.setIfInBounds (i * 2 + f) (.int .i64 v) = (cur.set (i * 2 + f) (.int .i64 v)).toArray := by simp
  rw [e]
  refine own_of_block (setRow_block hg) hb hn hc (by rw [List.length_set]; exact hcl) ?_
  rw [← rgsCells_set hi f hf, ← htk, List.take_set]
theorem u_ars : Try.prog.underlying 61 = some (.slice 63) := Try.underlying61
theorem i_ar : (Try.prog.info? 63).map (fun i => (i.zero, i.size, i.bytes)) = some (some (.agg #[.int .i64 0, .int .i64 0]), 2, 16) := by kernel_rfl
theorem rstep_into {R : List Rg} {n : Int} (h0 : 0 < R.length) (h : (R[R.length - 1]'(by omega)).2 = n) : rstep R n = R.set (R.length - 1) ((R[R.length - 1]'(by omega)).1, n + 1) := by
  rcases rev_cases (A := R) with rfl | ⟨A, l, rfl⟩
  · simp at h0
  · have e : (A ++ [l]).length - 1 = A.length := by simp
    have e2 : (A ++ [l])[(A ++ [l]).length - 1]'(by omega) = l := by simp
    rw [e2] at h ⊢
    rw [e]
    unfold rstep
    simp [h]
theorem rstep_new {R : List Rg} {n : Int} (h : ∀ h0 : 0 < R.length, ¬ (R[R.length - 1]'(by omega)).2 = n) : rstep R n = R ++ [(n, n + 1)] := by
  rcases rev_cases (A := R) with rfl | ⟨A, l, rfl⟩
  · rfl
  · have e2 : (A ++ [l])[(A ++ [l]).length - 1]'(by simp) = l := by simp
    have h2 := h (by simp)
    rw [e2] at h2
    unfold rstep
    simp [h2]
theorem rangesL_len (l : List Int) : (rangesL l).length ≤ l.length := by
  induction l using snoc_ind with
  | nil => exact Nat.le_refl _
  | snoc l n ih =>
    rw [rangesL_snoc, List.length_append]
    unfold rstep
    split
    · split
      · simp; omega
      · simp; omega
    · simp
def RangesNew (w : World) (R : List Rg) (e : Ending) (w' : World) : Prop := ∃ A c, e = .returned (.slice A R.length c) ∧ w'.ownsRow w.heap.size 63 2 (.slice A R.length c) R.length (rgsCells R) ∧ Below w.heap.size w w'
set_option maxHeartbeats 8000000 in
set_option maxRecDepth 100000 in
theorem rranges_any (A : Option Addr) (c : Nat) (l : List Int) (w : World) (h : Reads w w.heap.size 1 A l.length (intC l)) (hl : l.length < 1000000) (hlb : ∀ n ∈ l, 1 ≤ n ∧ n ≤ 1099511627776) :
    Calls Try.prog 30 #[.slice A l.length c] w (RangesNew w (rangesL l)) := by
  have HL := Lib.hid h
  have HLB := Lib.hid hlb
  have hst0 : (w.alloc (.cells #[] 63)).ownsRow w.heap.size 63 2 (.slice (some ⟨w.heap.size, 0, none⟩) 0 0) 0 (rgsCells []) := own_empty (Nat.le_refl _) (heap_alloc_new w _)
  have HST0 := Lib.hid hst0
  clear h hlb hst0
  have hll : (l.length : Int) < 1000000 := by omega
  go_enter Try.func30, Try.ntmps30
  go_wp2_with fail
  go_loopg [3, 4] l.length (fun rest s3 s4 wr => ∃ (k : Nat) (A3 : Option Addr) (c3 nR : Nat) (R : List Rg), s4 = .int .i64 k ∧ s3 = .slice A3 nR c3 ∧ Hid (nR = R.length) ∧ Hid (k + rest = l.length) ∧ (k : Int) ≤ 1000000 ∧ Hid (R = rangesL (l.take k)) ∧ Hid (wr.ownsRow w.heap.size 63 2 (.slice A3 R.length c3) R.length (rgsCells R)) ∧ Hid (Below w.heap.size w wr))
  case atStart => exact ⟨0, _, 0, 0, [], rfl, rfl, Lib.hid rfl, Lib.hid (by simp), by omega, Lib.hid rfl, HST0, Lib.hid ((Below.refl _ w).alloc (Nat.le_refl _) _)⟩
  case round =>
    obtain ⟨k, A3, c3, nR, R, rfl, rfl, HN, HK, hk0, HR, HO, HB⟩ := hrel
    by_cases hk : (k : Int) < (l.length : Int)
    · have hkl : k < l.length := by omega
      obtain ⟨bx, ox, rfl, hbl, y1⟩ := int_at HL.out hkl
      have hmk := HLB.out _ (List.getElem_mem hkl)
      have hst : rangesL (l.take (k + 1)) = rstep R l[k] := by rw [List.take_succ_eq_append_getElem hkl, rangesL_snoc, ← HR.out]
      have hRl : R.length ≤ k := by
        have := rangesL_len (l.take k)
        rw [← HR.out, List.length_take] at this
        omega
      have q1 : (nR : Int) ≤ 1000000 := by have := HN.out; omega
      have HST := Lib.hid hst
      clear hst
      generalize l[k] = n at *
      obtain ⟨m1, m2⟩ := hmk
      have hY : ∀ W, Below w.heap.size w W → W.cell? ⟨bx, ox + k, none⟩ = some (.int .i64 n) := fun W hW => (hW.cell (p := ⟨bx, ox + k, none⟩) hbl).trans y1
      have HY := Lib.hid hY
      have y2 := hY wr HB.out
      clear y1 hY
      obtain ⟨cb2, hcb⟩ : ∃ cb2 : Bool, (cb2 = true → ∃ h0 : 0 < R.length, (R[R.length - 1]'(by omega)).2 = n) ∧ (cb2 = false → ∀ h0 : 0 < R.length, ¬ (R[R.length - 1]'(by omega)).2 = n) := by
        by_cases h : ∃ h0 : 0 < R.length, (R[R.length - 1]'(by omega)).2 = n
        · exact ⟨true, fun _ => h, fun e => by cases e⟩
        · exact ⟨false, fun e => (by cases e), fun _ h0 e => h ⟨h0, e⟩⟩
      have HCB := Lib.hid hcb
      clear hcb
      have hcell : ∀ h0 : 0 < R.length, ∃ g, A3 = some ⟨g, 0, none⟩ ∧ wr.cell? ⟨g, (nR - 1) * 2 + 1, none⟩ = some (.int .i64 (R[R.length - 1]'(by omega)).2) ∧ wr.frozen? ⟨g, (nR - 1) * 2 + 1, none⟩ = false := fun h0 => by
        rw [HN.out]
        obtain ⟨g, cap, hv, -, -⟩ := HO.out.form h0
        injection hv with e1
        subst e1
        obtain ⟨b', o', e, -, hc⟩ := (Reads.of_own HO.out).2 h0
        injection e with e
        injection e with e1 e2
        subst e1 e2
        have := hc _ _ (rgsCells_at (R := R) (k := R.length - 1) (by omega)).2
        rw [Nat.zero_add] at this
        obtain ⟨cur, hg, -⟩ := own_block HO.out
        exact ⟨_, rfl, this, frozen_block hg _⟩
      have HCL := Lib.hid hcell
      clear hcell hRl
      have q4 : wrap64 ((nR : Int) - 1) = (nR : Int) - 1 := by unfold wrap64; omega
      have q5 : IntKind.i64.wrap ((nR : Int) - 1) = (nR : Int) - 1 := IntWalk.i64_in _ (by omega)
      have q6' : IntKind.i64.wrap (n + 1) = n + 1 := IntWalk.i64_in _ (by omega)
      go_upto_region 6 with fail
      go_cut [29] (fun s29 wx => s29 = .bool cb2 ∧ ∃ m, wx = wr.drewN m)
      case first =>
        by_cases h0 : nR = 0
        · have ecb : cb2 = false := by
            cases cb2 with
            | false => rfl
            | true => obtain ⟨h1, -⟩ := HCB.out.1 rfl; have := HN.out; omega
          subst ecb
          subst h0
          clear HCB HCL HST HR HO
          go_wp2_with fail
          go_quiet (fail)
          all_goals go_wp2_with fail
          all_goals go_meet
          all_goals exact ⟨rfl, _, rfl⟩
        · obtain ⟨g, rfl, x2, -⟩ := HCL.out (by have := HN.out; omega)
          have hy : (cb2 = true ∧ (R[R.length - 1]'(by have := HN.out; omega)).2 = n) ∨ (cb2 = false ∧ ¬ (R[R.length - 1]'(by have := HN.out; omega)).2 = n) := by
            cases cb2 with
            | false => exact .inr ⟨rfl, HCB.out.2 rfl (by have := HN.out; omega)⟩
            | true => obtain ⟨h1, e⟩ := HCB.out.1 rfl; exact .inl ⟨rfl, e⟩
          clear HCB HCL HST HR HO
          generalize (R[R.length - 1]'(by have := HN.out; omega)).2 = l2 at *
          have p1 : (0 : Int) < (nR : Int) := by omega
          have p2 : 0 < nR := by omega
          have p3 : ((nR : Int) - 1).toNat = nR - 1 := by omega
          have p6 : (nR : Int) - 1 < (nR : Int) := by omega
          have p7 : (1 : Int) ≤ (nR : Int) := by omega
          clear HN h0
          rcases hy with ⟨rfl, hfl⟩ | ⟨rfl, hfl⟩
          · have hfl2 : (l2 == n) = true := by simpa using hfl
            clear hfl
            go_wp2_with fail
            go_quiet (fail)
            all_goals go_wp2_with fail
            all_goals go_meet
            all_goals exact ⟨rfl, _, rfl⟩
          · have hfl2 : (l2 == n) = false := by simpa using hfl
            clear hfl
            go_wp2_with fail
            go_quiet (fail)
            all_goals go_wp2_with fail
            all_goals go_meet
            all_goals exact ⟨rfl, _, rfl⟩
      case rest =>
        obtain ⟨rfl, md, hwx⟩ := hcut
        obtain ⟨wx, hwc⟩ : ∃ wx : World, wx = wc := ⟨_, rfl⟩
        rw [← hwc] at hwx ⊢
        clear hwc
        have ho9' : wx.ownsRow w.heap.size 63 2 (.slice A3 R.length c3) R.length (rgsCells R) := by rw [hwx]; exact HO.out
        have hbw' : Below w.heap.size w wx := by rw [hwx]; exact below_drewN HB.out md
        have hcl' : ∀ h0 : 0 < R.length, ∃ g, A3 = some ⟨g, 0, none⟩ ∧ wx.cell? ⟨g, (nR - 1) * 2 + 1, none⟩ = some (.int .i64 (R[R.length - 1]'(by omega)).2) ∧ wx.frozen? ⟨g, (nR - 1) * 2 + 1, none⟩ = false := by rw [hwx]; exact HCL.out
        have y3 := HY.out wx hbw'
        have HO9 := Lib.hid ho9'
        have HBW := Lib.hid hbw'
        have HCL := Lib.hid hcl'
        clear hwx y2 ho9' hbw' hcl'
        cases cb2 with
        | true =>
          obtain ⟨h0, hle⟩ := HCB.out.1 rfl
          obtain ⟨g, rfl, x2, f1⟩ := HCL.out h0
          have hms := rstep_into (n := n) h0 hle
          obtain ⟨hs1, hs2⟩ := row_setT (show wx.drew.ownsRow w.heap.size 63 2 (.slice (some ⟨g, 0, none⟩) R.length c3) R.length (rgsCells R) from HO9.out) (show R.length - 1 < R.length by omega) 1 (.inr rfl) (n + 1)
          simp only [show ¬ ((1 : Nat) = 0) by omega, if_false] at hs1
          rw [← hms] at hs1
          have hlen : (rstep R n).length = R.length := by rw [hms, List.length_set]
          generalize rstep R n = R2 at *
          obtain ⟨w4, hw4⟩ : ∃ w4, w4 = wx.drew.setCell ⟨g, (nR - 1) * 2 + 1, none⟩ (.int .i64 (n + 1)) := ⟨_, rfl⟩
          rw [← HN.out, ← hw4] at hs1 hs2
          have hb4 : Below w.heap.size w w4 := HBW.out.drew.grown hs2 HBW.out.size (fun k hk => (HO9.out.lt k hk).1)
          have HO4 := Lib.hid hs1
          have HB4 := Lib.hid hb4
          have HLE := Lib.hid hlen
          clear hs1 hs2 hb4 hms hlen HCB HCL HO HO9 hle
          have p0 := HN.out
          have p1 : (0 : Int) < (nR : Int) := by omega
          have p3 : ((nR : Int) - 1).toNat = nR - 1 := by omega
          have p6 : (nR : Int) - 1 < (nR : Int) := by omega
          have p7 : (1 : Int) ≤ (nR : Int) := by omega
          clear p0
          go_wp2_with fail
          refine heldStart 10 (S := fun W => W.cell? ⟨bx, ox + k, none⟩ = some (.int .i64 n) ∧ W.frozen? ⟨g, (nR - 1) * 2 + 1, none⟩ = false) (by kernel_rfl) ?_ (fun hHeld => ?_)
          · exact ⟨y3, f1⟩
          refine heldTake 0 (v := ?_) (by simp only [List.getElem?_toArray, List.getElem?_cons_succ, List.getElem?_cons_zero]; rfl) (by kernel_rfl) (by intro _ _ _ h; exact h) (by rfl) (by assumption) ?_ ?_
          rotate_left
          · intro W hSw; (try dsimp only at hSw); go_simp; try with_reducible rfl
          simp only [Act.put, List.setIfInBounds_toArray, List.set_cons_zero, List.set_cons_succ]
          refine heldTake 1 (v := ?_) (by simp only [List.getElem?_toArray, List.getElem?_cons_succ, List.getElem?_cons_zero]; rfl) (by kernel_rfl) (by intro _ _ _ h; exact h) (by rfl) (by assumption) ?_ ?_
          rotate_left
          · intro W hSw; (try dsimp only at hSw); go_simp; try with_reducible rfl
          simp only [Act.put, List.setIfInBounds_toArray, List.set_cons_zero, List.set_cons_succ]
          refine heldTake 2 (v := ?_) (by simp only [List.getElem?_toArray, List.getElem?_cons_succ, List.getElem?_cons_zero]; rfl) (by kernel_rfl) (by intro _ _ _ h; exact h) (by rfl) (by assumption) ?_ ?_
          rotate_left
          · intro W hSw; (try dsimp only at hSw); go_simp; try with_reducible rfl
          simp only [Act.put, List.setIfInBounds_toArray, List.set_cons_zero, List.set_cons_succ]
          refine heldTake 3 (v := ?_) (by simp only [List.getElem?_toArray, List.getElem?_cons_succ, List.getElem?_cons_zero]; rfl) (by kernel_rfl) (by intro _ _ _ h; exact h) (by rfl) (by assumption) ?_ ?_
          rotate_left
          · intro W hSw; (try dsimp only at hSw); go_simp; try with_reducible rfl
          simp only [Act.put, List.setIfInBounds_toArray, List.set_cons_zero, List.set_cons_succ]
          refine heldTake 4 (v := ?_) (by simp only [List.getElem?_toArray, List.getElem?_cons_succ, List.getElem?_cons_zero]; rfl) (by kernel_rfl) (by intro _ _ _ h; exact h) (by rfl) (by assumption) ?_ ?_
          rotate_left
          · intro W hSw; (try dsimp only at hSw); go_simp; try with_reducible rfl
          simp only [Act.put, List.setIfInBounds_toArray, List.set_cons_zero, List.set_cons_succ]
          refine heldTake 5 (v := ?_) (by simp only [List.getElem?_toArray, List.getElem?_cons_succ, List.getElem?_cons_zero]; rfl) (by kernel_rfl) (by intro _ _ _ h; exact h) (by rfl) (by assumption) ?_ ?_
          rotate_left
          · intro W hSw; (try dsimp only at hSw); go_simp; try with_reducible rfl
          simp only [Act.put, List.setIfInBounds_toArray, List.set_cons_zero, List.set_cons_succ]
          refine heldTake 6 (v := ?_) (by simp only [List.getElem?_toArray, List.getElem?_cons_succ, List.getElem?_cons_zero]; rfl) (by kernel_rfl) (by intro _ _ _ h; exact h) (by rfl) (by assumption) ?_ ?_
          rotate_left
          · intro W hSw; (try dsimp only at hSw); go_simp; try with_reducible rfl
          simp only [Act.put, List.setIfInBounds_toArray, List.set_cons_zero, List.set_cons_succ]
          refine heldTake 7 (v := ?_) (by simp only [List.getElem?_toArray, List.getElem?_cons_succ, List.getElem?_cons_zero]; rfl) (by kernel_rfl) (by intro _ _ _ h; exact h) (by rfl) (by assumption) ?_ ?_
          rotate_left
          · intro W hSw; (try dsimp only at hSw); go_simp; try with_reducible rfl
          simp only [Act.put, List.setIfInBounds_toArray, List.set_cons_zero, List.set_cons_succ]
          refine heldTake 8 (v := ?_) (by simp only [List.getElem?_toArray, List.getElem?_cons_succ, List.getElem?_cons_zero]; rfl) (by kernel_rfl) (by intro _ _ _ h; exact h) (by rfl) (by assumption) ?_ ?_
          rotate_left
          · intro W hSw; (try dsimp only at hSw); go_simp; try with_reducible rfl
          simp only [Act.put, List.setIfInBounds_toArray, List.set_cons_zero, List.set_cons_succ]
          refine heldTake 9 (v := ?_) (by simp only [List.getElem?_toArray, List.getElem?_cons_succ, List.getElem?_cons_zero]; rfl) (by kernel_rfl) (by intro _ _ _ h; exact h) (by rfl) (by assumption) ?_ ?_
          rotate_left
          · intro W hSw; (try dsimp only at hSw); go_simp; try with_reducible rfl
          simp only [Act.put, List.setIfInBounds_toArray, List.set_cons_zero, List.set_cons_succ]
          refine heldLast 10 (by simp only [List.getElem?_toArray, List.getElem?_cons_succ, List.getElem?_cons_zero]; rfl) (by kernel_rfl) rfl (fun K hK => ?_)
          go_simp
          refine hK.out _ _ ?_
          clear hK K
          (try simp only [Act.put, List.setIfInBounds_toArray, List.set_cons_zero, List.set_cons_succ])
          refine heldDone (by kernel_rfl) ?_ _
          go_wp2_with fail
          have e4 : w4 = (wx.setCell ⟨g, (nR - 1) * 2 + 1, none⟩ (.int .i64 (n + 1))).drew := hw4
          rw [← e4]
          clear hw4 e4
          go_roundg (gk - 1)
          case measure => have := HK.out; omega
          case rel => exact ⟨k + 1, _, c3, nR, R2, by go_num, rfl, Lib.hid (by rw [HLE.out]; exact HN.out), Lib.hid (by have := HK.out; omega), by omega, Lib.hid HST.out.symm, Lib.hid (by have := HO4.out; rw [HLE.out, ← HN.out]; exact this), HB4⟩
        | false =>
          have hms := rstep_new (n := n) (HCB.out.2 rfl)
          have HMS := Lib.hid hms
          clear hms HCB HCL
          have y4 : (wx.alloc (.cells #[.int .i64 n, .int .i64 (n + 1)] 63)).drew.cell? ⟨bx, ox + k, none⟩ = some (.int .i64 n) := HY.out _ ((HBW.out.alloc HBW.out.size _).drew)
          go_wp2_with fail
          refine heldStart 13 (S := fun W => W.cell? ⟨bx, ox + k, none⟩ = some (.int .i64 n)) (by kernel_rfl) ?_ (fun hHeld => ?_)
          · first | exact y3 | exact y4 | exact y7
          refine heldTake 0 (v := ?_) (by simp only [List.getElem?_toArray, List.getElem?_cons_succ, List.getElem?_cons_zero]; rfl) (by kernel_rfl) (by intro _ _ _ h; exact h) (by rfl) (by assumption) ?_ ?_
          rotate_left
          · intro W hSw; (try dsimp only at hSw); go_simp; try with_reducible rfl
          simp only [Act.put, List.setIfInBounds_toArray, List.set_cons_zero, List.set_cons_succ]
          refine heldTake 1 (v := ?_) (by simp only [List.getElem?_toArray, List.getElem?_cons_succ, List.getElem?_cons_zero]; rfl) (by kernel_rfl) (by intro _ _ _ h; exact h) (by rfl) (by assumption) ?_ ?_
          rotate_left
          · intro W hSw; (try dsimp only at hSw); go_simp; try with_reducible rfl
          simp only [Act.put, List.setIfInBounds_toArray, List.set_cons_zero, List.set_cons_succ]
          refine heldTake 2 (v := ?_) (by simp only [List.getElem?_toArray, List.getElem?_cons_succ, List.getElem?_cons_zero]; rfl) (by kernel_rfl) (by intro _ _ _ h; exact h) (by rfl) (by assumption) ?_ ?_
          rotate_left
          · intro W hSw; (try dsimp only at hSw); go_simp; try with_reducible rfl
          simp only [Act.put, List.setIfInBounds_toArray, List.set_cons_zero, List.set_cons_succ]
          refine heldTake 3 (v := ?_) (by simp only [List.getElem?_toArray, List.getElem?_cons_succ, List.getElem?_cons_zero]; rfl) (by kernel_rfl) (by intro _ _ _ h; exact h) (by rfl) (by assumption) ?_ ?_
          rotate_left
          · intro W hSw; (try dsimp only at hSw); go_simp; try with_reducible rfl
          simp only [Act.put, List.setIfInBounds_toArray, List.set_cons_zero, List.set_cons_succ]
          refine heldTake 4 (v := ?_) (by simp only [List.getElem?_toArray, List.getElem?_cons_succ, List.getElem?_cons_zero]; rfl) (by kernel_rfl) (by intro _ _ _ h; exact h) (by rfl) (by assumption) ?_ ?_
          rotate_left
          · intro W hSw; (try dsimp only at hSw); go_simp; try with_reducible rfl
          simp only [Act.put, List.setIfInBounds_toArray, List.set_cons_zero, List.set_cons_succ]
          refine heldTake 5 (v := ?_) (by simp only [List.getElem?_toArray, List.getElem?_cons_succ, List.getElem?_cons_zero]; rfl) (by kernel_rfl) (by intro _ _ _ h; exact h) (by rfl) (by assumption) ?_ ?_
          rotate_left
          · intro W hSw; (try dsimp only at hSw); go_simp; try with_reducible rfl
          simp only [Act.put, List.setIfInBounds_toArray, List.set_cons_zero, List.set_cons_succ]
          refine heldTake 6 (v := ?_) (by simp only [List.getElem?_toArray, List.getElem?_cons_succ, List.getElem?_cons_zero]; rfl) (by kernel_rfl) (by intro _ _ _ h; exact h) (by rfl) (by assumption) ?_ ?_
          rotate_left
          · intro W hSw; (try dsimp only at hSw); go_simp; try with_reducible rfl
          simp only [Act.put, List.setIfInBounds_toArray, List.set_cons_zero, List.set_cons_succ]
          refine heldTake 7 (v := ?_) (by simp only [List.getElem?_toArray, List.getElem?_cons_succ, List.getElem?_cons_zero]; rfl) (by kernel_rfl) (by intro _ _ _ h; exact h) (by rfl) (by assumption) ?_ ?_
          rotate_left
          · intro W hSw; (try dsimp only at hSw); go_simp; try with_reducible rfl
          simp only [Act.put, List.setIfInBounds_toArray, List.set_cons_zero, List.set_cons_succ]
          refine heldTake 8 (v := ?_) (by simp only [List.getElem?_toArray, List.getElem?_cons_succ, List.getElem?_cons_zero]; rfl) (by kernel_rfl) (by intro _ _ _ h; exact h) (by rfl) (by assumption) ?_ ?_
          rotate_left
          · intro W hSw; (try dsimp only at hSw); go_simp; try with_reducible rfl
          simp only [Act.put, List.setIfInBounds_toArray, List.set_cons_zero, List.set_cons_succ]
          refine heldTake 9 (v := ?_) (by simp only [List.getElem?_toArray, List.getElem?_cons_succ, List.getElem?_cons_zero]; rfl) (by kernel_rfl) (by intro _ _ _ h; exact h) (by rfl) (by assumption) ?_ ?_
          rotate_left
          · intro W hSw; (try dsimp only at hSw); go_simp; try with_reducible rfl
          simp only [Act.put, List.setIfInBounds_toArray, List.set_cons_zero, List.set_cons_succ]
          refine heldTake 10 (v := ?_) (by simp only [List.getElem?_toArray, List.getElem?_cons_succ, List.getElem?_cons_zero]; rfl) (by kernel_rfl) (by intro _ _ _ h; exact h) (by rfl) (by assumption) ?_ ?_
          rotate_left
          · intro W hSw; (try dsimp only at hSw); go_simp; try with_reducible rfl
          simp only [Act.put, List.setIfInBounds_toArray, List.set_cons_zero, List.set_cons_succ]
          refine heldCall 11 (by simp only [List.getElem?_toArray, List.getElem?_cons_succ, List.getElem?_cons_zero]; rfl) (by kernel_rfl) (fun K hK => ?_)
          go_simp
          refine hK.out _ _ ?_ (fun hHeld => ?_)
          · first | exact y3 | exact y4 | exact y7
          clear hK K
          (try simp only [Act.put, List.setIfInBounds_toArray, List.set_cons_zero, List.set_cons_succ])
          refine heldLaw 12 (by simp only [List.getElem?_toArray, List.getElem?_cons_succ, List.getElem?_cons_zero]; rfl) (by kernel_rfl) (by rfl) (fun K hK => ?_)
          have hAW : (wx.alloc (.cells #[.int .i64 n, .int .i64 (n + 1)] 63)).drew = wx.drew.alloc (.cells #[.int .i64 n, .int .i64 (n + 1)] 63) := rfl
          rw [hAW]
          clear hAW
          refine wp_append_one wx.drew (.tmp 40) (.tmp 51) _ rfl w.heap.size 63 (.agg #[.int .i64 0, .int .i64 0]) 2 16 u_ars i_ar rfl (by omega) A3 nR c3 _ rfl (by rw [HN.out]; exact HO9.out) (rgCells (n, n + 1)) rfl rfl (fun u hu => rgsCells_one [(n, n + 1)] u (by simpa [rgsCells] using hu)) (by omega) (by unfold maxLen; omega) HBW.out.size ?_
          intro A7 c7 w7 hown7 hg7 hb7 hloc7
          have HO7 := Lib.hid hown7
          have HB7 := Lib.hid (HBW.out.drew.trans hb7)
          have y7 := HY.out w7 HB7.out
          clear hown7 hg7 hb7 hloc7
          refine hK.out _ _ ?_ (fun hHeld => ?_)
          · first | exact y3 | exact y4 | exact y7
          clear hK K
          (try simp only [Act.put, List.setIfInBounds_toArray, List.set_cons_zero, List.set_cons_succ])
          refine heldTake 13 (v := ?_) (by simp only [List.getElem?_toArray, List.getElem?_cons_succ, List.getElem?_cons_zero]; rfl) (by kernel_rfl) (by intro _ _ _ h; exact h) (by rfl) (by assumption) ?_ ?_
          rotate_left
          · intro W hSw; (try dsimp only at hSw); go_simp; try with_reducible rfl
          simp only [Act.put, List.setIfInBounds_toArray, List.set_cons_zero, List.set_cons_succ]
          refine heldDone (by kernel_rfl) ?_ _
          go_wp2_with fail
          go_roundg (gk - 1)
          case measure => have := HK.out; omega
          case rel => exact ⟨k + 1, A7, c7, nR + 1, R ++ [(n, n + 1)], by go_num, rfl, Lib.hid (by rw [List.length_append, HN.out]; rfl), Lib.hid (by have := HK.out; omega), by omega, Lib.hid (by rw [HST.out, HMS.out]), Lib.hid (by rw [List.length_append, rgsCells_append]; have := HO7.out; rw [HN.out] at this; simpa [rgsCells] using this), HB7⟩
    · have hke : k = l.length := by have := HK.out; omega
      have hte : l.take k = l := by rw [hke, List.take_length]
      have hRM : R = rangesL l := by rw [HR.out, hte]
      have hfin : RangesNew w (rangesL l) (.returned (.slice A3 nR c3)) wr := by
        rw [← hRM, HN.out]
        exact ⟨A3, c3, rfl, HO.out, HB.out⟩
      have HFN := Lib.hid hfin
      clear hte hRM hfin
      go_wp2_with fail
      go_ret
      exact HFN.out

theorem next_spec {R : List Rg} (h : RowOk 0 R) : 1 ≤ nextR R ∧ ¬ memR R (nextR R) ∧ ∀ m, 1 ≤ m → m < nextR R → memR R m := by
  cases R with
  | nil => exact ⟨Int.le_refl _, memR_nil _, fun m h1 h2 => by have : nextR [] = 1 := rfl; omega⟩
  | cons r R =>
    obtain ⟨h1, h2, h3⟩ := h
    have e : nextR (r :: R) = if 1 < r.1 then 1 else r.2 := rfl
    rw [e]
    by_cases q : 1 < r.1
    · rw [if_pos q]
      refine ⟨Int.le_refl _, fun hm => ?_, fun m a b => by omega⟩
      rcases (memR_cons _ _ _).1 hm with z | z
      · omega
      · have := h3.memR_gt z; omega
    · rw [if_neg q]
      refine ⟨by omega, fun hm => ?_, fun m a b => (memR_cons _ _ _).2 (.inl ⟨by omega, b⟩)⟩
      rcases (memR_cons _ _ _).1 hm with z | z
      · omega
      · have := h3.memR_gt z; omega
theorem nextR_top {R : List Rg} {M : Int} (h : ∀ r ∈ R, r.2 ≤ M) (hM : 1 ≤ M) : nextR R ≤ M := by
  cases R with
  | nil => exact hM
  | cons r R =>
    have e : nextR (r :: R) = if 1 < r.1 then 1 else r.2 := rfl
    rw [e]
    split
    · exact hM
    · exact h r (by simp)
set_option maxHeartbeats 8000000 in
set_option maxRecDepth 100000 in
theorem rnext_any (A : Option Addr) (c B : Nat) (xs : List SrcD) (k : ByteArray) (R : List Rg) (w : World) (h : SrcsAt w B A xs) (hup : NamesUp xs) (hl : xs.length < 1000000) (hll : ∀ s ∈ xs, s.l.length < 1000000)
    (hR : RowOk 0 R) (ht : ∀ r ∈ R, r.2 ≤ 1099511627777) (hm : ∀ n, hasX (xs.map plS) k n ↔ memR R n) :
    Calls Try.prog 17 #[.slice A xs.length c, .string k] w fun e w' => e = .returned (.int .i64 (nextR R)) ∧ w = w' := by
  obtain ⟨n1, n2, n3⟩ := next_spec hR
  have n4 := nextR_top ht (by omega)
  have hq : ∀ n, Calls Try.prog 15 #[.slice A xs.length c, .string k, .int .i64 n] w fun e w' => e = .returned (.bool (decide (memR R n))) ∧ w = w' := fun n => by
    have e : decide (hasX (xs.map plS) k n) = decide (memR R n) := decide_eq_decide.2 (hm n)
    rw [← e]
    exact rhas07_any A c B xs k n w h hup hl hll
  have HQ := Lib.hid hq
  have HN := Lib.hid (And.intro n2 n3)
  clear hq h hup hl hll hR ht hm n2 n3
  obtain ⟨m, hme⟩ : ∃ m, m = nextR R := ⟨_, rfl⟩
  rw [← hme] at HN n1 n4 ⊢
  clear hme
  go_enter Try.func17, Try.ntmps17
  go_wp2_with fail
  go_loopg [5] m.toNat (fun rest s5 wr => ∃ n : Int, s5 = .int .i64 n ∧ Hid (n + rest = m + 1 ∨ n + rest = m) ∧ 1 ≤ n ∧ n ≤ m ∧ w = wr)
  case atStart => exact ⟨1, rfl, Lib.hid (by omega), by omega, n1, rfl⟩
  case round =>
    obtain ⟨n, rfl, HM, hn1, hn2, rfl⟩ := hrel
    by_cases hnm : n = m
    · subst hnm
      have hd : decide (memR R n) = false := by simpa using HN.out.1
      go_wp2_with fail
      refine Calls.mono (HQ.out n) ?_
      rintro e w2 ⟨rfl, rfl⟩
      rw [hd]
      clear hd
      go_wp2_with fail
      go_ret
      exact ⟨rfl, rfl⟩
    · have hd : decide (memR R n) = true := by simpa using HN.out.2 n hn1 (by omega)
      go_wp2_with fail
      refine Calls.mono (HQ.out n) ?_
      rintro e w2 ⟨rfl, rfl⟩
      rw [hd]
      clear hd
      have hw : wrap64 (n + 1) = n + 1 := by unfold wrap64; omega
      go_wp2_with fail
      go_roundg (gk - 1)
      case measure => have := HM.out; omega
      case rel => exact ⟨n + 1, rfl, Lib.hid (by have := HM.out; omega), by omega, by omega, rfl⟩
end Go.Proofs.Ytcladmcbhnmhiaa
