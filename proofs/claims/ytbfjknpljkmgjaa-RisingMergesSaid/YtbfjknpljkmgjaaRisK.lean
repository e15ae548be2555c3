/- Contract of rising.Top; the walk of the statement RisingTop. -/
import Derived.Test.YtbfjknpljkmgjaaRisH
import Derived.Test.YtbfjknpljkmgjaaKitP
import Derived.Test.YtbfjknpljkmgjaaKitX
namespace Go.Proofs.Ytbfjknpljkmgjaa
open Go.ChangeShapes Go.WideShapes Go.ChangeAt Go.RowKit Go.Shelf Go.Lib Go.Sort Go.Proofs
set_option linter.unusedVariables false
set_option linter.unusedSimpArgs false

theorem flat_take3 {α : Type} (f : α → List Value) (hf : ∀ a, (f a).length = 3) (l : List α) (m : Nat) : (l.flatMap f).take (m * 3) = (l.take m).flatMap f := by
  induction l generalizing m with
  | nil => simp
  | cons a l ih =>
    cases m with
    | zero => simp
    | succ m =>
      rw [List.flatMap_cons, List.take_succ_cons, List.flatMap_cons, List.take_append, hf a, show (m + 1) * 3 - 3 = m * 3 by omega, ih]
      rw [List.take_of_length_le (by rw [hf a]; omega)]
theorem RisesAt.take {w : World} {B : Nat} {A : Option Addr} {l : List RiseV} (h : RisesAt w B A l) (m : Nat) (hm : m ≤ l.length) : Reads w B 3 A m ((l.take m).flatMap riseEnc) := by
  have := Reads.take h hm
  rw [flat_take3 riseEnc (fun _ => rfl)] at this
  exact this
theorem own_cap {w : World} {base size : Nat} {e : TypeId} {A : Option Addr} {n c : Nat} {xs : List Value} (h : w.ownsRow base e size (.slice A n c) n xs) : n ≤ c := by
  rcases h.2 with ⟨h0, h1⟩ | ⟨g, cap, cur, hv, _, _, hle, _⟩
  · injection h0 with e1 e2 e3
    omega
  · injection hv with e1 e2 e3
    subst e1 e3
    exact hle
theorem rises_one (rs : List RiseV) : ∀ u ∈ rs.flatMap riseEnc, u.oneCell' = true := by
  intro u hu
  obtain ⟨r, _, hr⟩ := List.mem_flatMap.1 hu
  simp [riseEnc] at hr
  rcases hr with rfl | rfl | rfl <;> rfl
theorem clone_rise (A : Option Addr) (B n c : Nat) (l : List RiseV) (w : World) (hr : Reads w B 3 A n (l.flatMap riseEnc)) (hl : (n : Int) ≤ 1048576) :
    Calls Try.prog 40 #[.slice A n c] w fun e w' => ∃ A' c', e = .returned (.slice A' n c') ∧ w'.ownsRow w.heap.size 34 3 (.slice A' n c') n (l.flatMap riseEnc) ∧ Below w.heap.size w w' := by
  have := clone_all Try.cloneR (z := .agg #[.string ByteArray.empty, .int .i64 0, .int .i64 0]) (size := 3) (bytes := 32) (by kernel_rfl) rfl (by omega) (fun w => by kernel_rfl) A B n c (l.flatMap riseEnc) w hr (by unfold maxLen; omega) (by omega) (rises_one l)
  exact this

/-- How many of n are asked for. -/
def topN (n : Int) (k : Nat) : Nat := (min (max n 0) (k : Int)).toNat
theorem topN_le (n : Int) (k : Nat) : topN n k ≤ k := by unfold topN; omega
def TopNew (w : World) (wd : Int) (hist : List AddD) (span now floor n : Int) (e : Ending) (w' : World) : Prop :=
  ∃ A c rs, e = .returned (.slice A (topN n (List.length rs)) c) ∧ RisesOf wd hist span now floor rs ∧ w'.ownsRow w.heap.size 34 3 (.slice A (topN n (List.length rs)) c) (topN n (List.length rs)) ((rs.take (topN n (List.length rs))).flatMap riseEnc) ∧ Below w.heap.size w w' ∧ rs.length ≤ hist.length

set_option maxRecDepth 20000 in
set_option maxHeartbeats 2000000 in
theorem rtop_any (pb : Nat) (F : Nat → Prop) (wd : Int) (hist : List AddD) (span now floor n : Int) (w : World) (h : PaneObj w pb F wd hist) (hn : n ≤ 9223372036854775807) :
    Calls Try.prog 22 #[.pointer (some ⟨pb, 0, none⟩), .int .i64 span, .int .i64 now, .int .i64 floor, .int .i64 n] w (TopNew w wd hist span now floor n) := by
  have hcnt := h.cnt
  have HC := Lib.hid hcnt
  clear hcnt
  go_enter Try.func22, Try.ntmps22
  go_wp2_with fail
  refine (rof_any pb F wd hist span now floor w h).mono ?_
  rintro e w1 ⟨A1, c1, rs, rfl, hrs, hown, hb1, hlen⟩
  have hcap := own_cap hown
  have hat : RisesAt w1 w1.heap.size A1 rs := Reads.of_own hown
  have hrl : (rs.length : Int) ≤ 1048576 := by have := HC.out; omega
  have hz := hb1.size
  have hq := clone_rise A1 w1.heap.size (topN n rs.length) c1 (rs.take (topN n rs.length)) w1 (hat.take _ (topN_le _ _)) (by have := topN_le n rs.length; omega)
  have HQ := Lib.hid hq
  have HR := Lib.hid hrs
  have HL := Lib.hid hlen
  have HB := Lib.hid hb1
  have fin : ∀ A c w', w'.ownsRow w1.heap.size 34 3 (.slice A (topN n rs.length) c) (topN n rs.length) ((rs.take (topN n rs.length)).flatMap riseEnc) → Below w1.heap.size w1 w' → TopNew w wd hist span now floor n (.returned (.slice A (topN n rs.length) c)) w' :=
    fun A c w' ho hb => ⟨A, c, rs, rfl, HR.out, own_base ho hz, HB.out.trans (hb.mono hz), HL.out⟩
  have FIN := Lib.hid fin
  clear hq hrs hlen hb1 hat hown h HR HL HC fin
  unfold topN at HQ FIN
  generalize rs.length = m at *
  go_wp2_with fail
  refine HQ.out.mono ?_
  rintro e w2 ⟨A2, c2, rfl, ho2, hb2⟩
  go_wp2
  refine bodyPost_ret (results_tmp rfl _ _ _) rfl ?_
  exact FIN.out A2 c2 _ ho2 hb2

set_option maxRecDepth 20000 in
set_option maxHeartbeats 1000000 in
theorem rtop_nil (span now floor n : Int) (w : World) (hn : n ≤ 9223372036854775807) :
    Calls Try.prog 22 #[.pointer none, .int .i64 span, .int .i64 now, .int .i64 floor, .int .i64 n] w fun e w' => ∃ A c, e = .returned (.slice A 0 c) ∧ Below w.heap.size w w' := by
  have hq := clone_rise none w.heap.size (topN n 0) 0 [] w ⟨by have : topN n 0 = 0 := by { have := topN_le n 0; omega }; rw [this]; rfl, fun hp => by have := topN_le n 0; omega⟩ (by have := topN_le n 0; omega)
  have e0 : topN n 0 = 0 := by have := topN_le n 0; omega
  have e1 : min (max n 0) 0 = 0 := by omega
  rw [e0] at hq
  have HQ := Lib.hid hq
  clear hq e0
  go_enter Try.func22, Try.ntmps22
  go_wp2_with fail
  refine (rof_nil span now floor w).mono ?_
  rintro e w1 ⟨rfl, rfl⟩
  go_wp2_with fail
  refine HQ.out.mono ?_
  rintro e w2 ⟨A2, c2, rfl, ho2, hb2⟩
  go_wp2
  go_ret
  exact ⟨A2, c2, rfl, hb2⟩

set_option maxRecDepth 20000 in
set_option maxHeartbeats 800000 in
theorem tops_walk (width : Int) (A : Option Addr) (c : Nat) (l : List AddD) (span now floor n : Int) (w : World) (hl : AddsAt w w.heap.size A l) (hlen : (l.length : Int) ≤ 9223372036854775807) (hn : n ≤ 9223372036854775807) :
    Calls Try.prog 9 #[.int .i64 width, .slice A l.length c, .int .i64 span, .int .i64 now, .int .i64 floor, .int .i64 n] w fun e w' => e = .returned (.bool true) ∧ Below w.heap.size w w' := by
  by_cases g1 : longB l = true
  · go_enter Try.func9, Try.ntmps9
    go_wp2_with fail
    refine (long_any A c l _ hl hlen).mono ?_
    rintro r w1 ⟨rfl, hb1⟩
    go_wp2_with fail
    refine (awake_any _).mono ?_
    rintro r w2 ⟨rfl, hb2⟩
    go_wp2
    go_ret
    exact ⟨rfl, hb1.trans (hb2.mono hb1.size)⟩
  · have g1' : longB l = false := by simpa using g1
    have hno := Lib.hid (longB_no g1').1
    clear g1
    go_enter Try.func9, Try.ntmps9
    go_wp2_with fail
    refine (long_any A c l _ hl hlen).mono ?_
    rintro r w1 ⟨rfl, hb1⟩
    go_wp2_with fail
    refine (fill_any width A c l _ ((hl.below hb1).more hb1.size) (by have := hno.out; omega)).mono ?_
    rintro r w2 ⟨pb, F, rfl, hO, hF, hb2⟩
    have HO := Lib.hid hO
    clear hO hF
    go_wp2_with fail
    refine (rof_any pb F (widthOf width) (l.filter rightB) span now floor w2 HO.out).mono ?_
    rintro r w3 ⟨A3, c3, rs, rfl, hrs, hown, hb3, hlen3⟩
    have hcap := own_cap hown
    have hat : RisesAt w3 w3.heap.size A3 rs := Reads.of_own hown
    have hrl : (rs.length : Int) ≤ 60 := by
      have h1 := List.length_filter_le rightB l
      have := hno.out
      omega
    have HB : Hid (Below w.heap.size w w3) := Lib.hid ((hb1.trans (hb2.mono hb1.size)).trans (hb3.mono (by have := hb1.size; have := hb2.size; omega)))
    have HO3 := Lib.hid (HO.out.below hb3)
    have HRS := Lib.hid hrs
    have HAT := Lib.hid hat
    have hq := fun W (h : Below w3.heap.size w3 W) => rtop_any pb F (widthOf width) (l.filter rightB) span now floor n W (HO3.out.below h) hn
    have HQ := Lib.hid hq
    have hsame : ∀ A4 c4 c5 W W', Below w3.heap.size w3 W → W'.ownsRow W.heap.size 34 3 (.slice A4 (topN n rs.length) c4) (topN n rs.length) ((rs.take (topN n rs.length)).flatMap riseEnc) → Below W.heap.size W W' →
        Calls Try.prog 14 #[.slice A4 (topN n rs.length) c4, .slice A3 (topN n rs.length) c5] W' fun e w' => e = .returned (.bool true) ∧ Below W'.heap.size W' w' := by
      intro A4 c4 c5 W W' hb ho hb'
      have hlt : (rs.take (topN n rs.length)).length = topN n rs.length := by rw [List.length_take]; have := topN_le n rs.length; omega
      have := rsame_any A4 A3 c4 c5 (rs.take (topN n rs.length)) W' (by unfold RisesAt; rw [hlt]; exact Reads.of_own ho) (by
        have hbb : Below w3.heap.size w3 W' := hb.trans (hb'.mono hb.size)
        have := ((HAT.out.below hbb).take _ (topN_le n rs.length))
        unfold RisesAt
        rw [hlt]
        exact Reads.more this hbb.size) (by rw [hlt]; have := topN_le n rs.length; omega)
      rw [hlt] at this
      exact this
    have HSAME := Lib.hid hsame
    clear hat hown hrs hlen3 hb1 hb2 hb3 HO hq hsame
    have e1 : ∀ rs' : List RiseV, RisesOf (widthOf width) (l.filter rightB) span now floor rs' → rs' = rs := fun rs' h => rises_same HO3.out HRS.out h
    have HE1 := Lib.hid e1
    clear e1
    unfold topN at HSAME
    have hKe : Below w3.heap.size w3 w3.drew := (Below.refl _ _).drew
    have hsl : 0 ≤ min (max n 0) (rs.length : Int) ∧ min (max n 0) (rs.length : Int) ≤ (c3 : Int) := by omega
    go_wp2_with fail
    refine heldStart 34 (S := fun W => True) (by kernel_rfl) ?_ (fun hHeld => ?_)
    · trivial
    refine heldTake 0 (v := ?_) (by simp only [List.getElem?_toArray, List.getElem?_cons_succ, List.getElem?_cons_zero]; rfl) (by kernel_rfl) (by intro _ _ _ h; exact h) (by rfl) (by assumption) ?_ ?_
    rotate_left
    · intro W hSw; (try dsimp only at hSw); go_simp; try with_reducible rfl
    simp only [Act.put, List.setIfInBounds_toArray, List.set_cons_zero, List.set_cons_succ]
    refine heldTake 1 (v := ?_) (by simp only [List.getElem?_toArray, List.getElem?_cons_succ, List.getElem?_cons_zero]; rfl) (by kernel_rfl) (by intro _ _ _ h; exact h) (by rfl) (by assumption) ?_ ?_
    rotate_left
    · intro W hSw; (try dsimp only at hSw); go_simp; try with_reducible rfl
    simp only [Act.put, List.setIfInBounds_toArray, List.set_cons_zero, List.set_cons_succ]
    refine heldTake 2 (v := ?_) (by simp only [List.getElem?_toArray, List.getElem?_cons_succ, List.getElem?_cons_zero]; rfl) (by kernel_rfl) (by intro _ _ _ h; exact h) (by rfl) (by assumption) ?_ ?_
    rotate_left
    · intro W hSw; (try dsimp only at hSw); go_simp; try with_reducible rfl
    simp only [Act.put, List.setIfInBounds_toArray, List.set_cons_zero, List.set_cons_succ]
    refine heldTake 3 (v := ?_) (by simp only [List.getElem?_toArray, List.getElem?_cons_succ, List.getElem?_cons_zero]; rfl) (by kernel_rfl) (by intro _ _ _ h; exact h) (by rfl) (by assumption) ?_ ?_
    rotate_left
    · intro W hSw; (try dsimp only at hSw); go_simp; try with_reducible rfl
    simp only [Act.put, List.setIfInBounds_toArray, List.set_cons_zero, List.set_cons_succ]
    refine heldTake 4 (v := ?_) (by simp only [List.getElem?_toArray, List.getElem?_cons_succ, List.getElem?_cons_zero]; rfl) (by kernel_rfl) (by intro _ _ _ h; exact h) (by rfl) (by assumption) ?_ ?_
    rotate_left
    · intro W hSw; (try dsimp only at hSw); go_simp; try with_reducible rfl
    simp only [Act.put, List.setIfInBounds_toArray, List.set_cons_zero, List.set_cons_succ]
    refine heldTake 6 (v := ?_) (by simp only [List.getElem?_toArray, List.getElem?_cons_succ, List.getElem?_cons_zero]; rfl) (by kernel_rfl) (by intro _ _ _ h; exact h) (by rfl) (by assumption) ?_ ?_
    rotate_left
    · intro W hSw; (try dsimp only at hSw); go_simp; try with_reducible rfl
    simp only [Act.put, List.setIfInBounds_toArray, List.set_cons_zero, List.set_cons_succ]
    refine heldTake 7 (v := ?_) (by simp only [List.getElem?_toArray, List.getElem?_cons_succ, List.getElem?_cons_zero]; rfl) (by kernel_rfl) (by intro _ _ _ h; exact h) (by rfl) (by assumption) ?_ ?_
    rotate_left
    · intro W hSw; (try dsimp only at hSw); go_simp; try with_reducible rfl
    simp only [Act.put, List.setIfInBounds_toArray, List.set_cons_zero, List.set_cons_succ]
    refine heldTake 8 (v := ?_) (by simp only [List.getElem?_toArray, List.getElem?_cons_succ, List.getElem?_cons_zero]; rfl) (by kernel_rfl) (by intro _ _ _ h; exact h) (by rfl) (by assumption) ?_ ?_
    rotate_left
    · intro W hSw; (try dsimp only at hSw); go_simp; try with_reducible rfl
    simp only [Act.put, List.setIfInBounds_toArray, List.set_cons_zero, List.set_cons_succ]
    refine heldTake 9 (v := ?_) (by simp only [List.getElem?_toArray, List.getElem?_cons_succ, List.getElem?_cons_zero]; rfl) (by kernel_rfl) (by intro _ _ _ h; exact h) (by rfl) (by assumption) ?_ ?_
    rotate_left
    · intro W hSw; (try dsimp only at hSw); go_simp; try with_reducible rfl
    simp only [Act.put, List.setIfInBounds_toArray, List.set_cons_zero, List.set_cons_succ]
    refine heldTake 10 (v := ?_) (by simp only [List.getElem?_toArray, List.getElem?_cons_succ, List.getElem?_cons_zero]; rfl) (by kernel_rfl) (by intro _ _ _ h; exact h) (by rfl) (by assumption) ?_ ?_
    rotate_left
    · intro W hSw; (try dsimp only at hSw); go_simp; try with_reducible rfl
    simp only [Act.put, List.setIfInBounds_toArray, List.set_cons_zero, List.set_cons_succ]
    refine heldTake 11 (v := ?_) (by simp only [List.getElem?_toArray, List.getElem?_cons_succ, List.getElem?_cons_zero]; rfl) (by kernel_rfl) (by intro _ _ _ h; exact h) (by rfl) (by assumption) ?_ ?_
    rotate_left
    · intro W hSw; (try dsimp only at hSw); go_simp; try with_reducible rfl
    simp only [Act.put, List.setIfInBounds_toArray, List.set_cons_zero, List.set_cons_succ]
    refine heldTake 12 (v := ?_) (by simp only [List.getElem?_toArray, List.getElem?_cons_succ, List.getElem?_cons_zero]; rfl) (by kernel_rfl) (by intro _ _ _ h; exact h) (by rfl) (by assumption) ?_ ?_
    rotate_left
    · intro W hSw; (try dsimp only at hSw); go_simp; try with_reducible rfl
    simp only [Act.put, List.setIfInBounds_toArray, List.set_cons_zero, List.set_cons_succ]
    refine heldCall 5 (by simp only [List.getElem?_toArray, List.getElem?_cons_succ, List.getElem?_cons_zero]; rfl) (by kernel_rfl) (fun K hK => ?_)
    go_simp
    refine (HQ.out _ hKe).mono ?_
    rintro e w4 ⟨A4, c4, rs4, rfl, hrs4, ho4, hb4, hl4⟩
    obtain rfl := HE1.out rs4 hrs4
    unfold topN at ho4 ⊢
    clear hrs4 hl4
    go_wp2_with fail
    refine hK.out _ _ ?_ (fun hHeld => ?_)
    · trivial
    clear hK K
    (try simp only [Act.put, List.setIfInBounds_toArray, List.set_cons_zero, List.set_cons_succ])
    refine heldCall 13 (by simp only [List.getElem?_toArray, List.getElem?_cons_succ, List.getElem?_cons_zero]; rfl) (by kernel_rfl) (fun K hK => ?_)
    go_simp
    refine (HSAME.out _ _ _ _ _ hKe ho4 hb4).mono ?_
    rintro e w5 ⟨rfl, hb5⟩
    have hKe5 : Below w3.heap.size w3 w5 := (hKe.trans (hb4.mono hKe.size)).trans (hb5.mono (by have := hKe.size; have := hb4.size; omega))
    clear hb5 ho4
    go_wp2_with fail
    refine hK.out _ _ ?_ (fun hHeld => ?_)
    · trivial
    clear hK K
    (try simp only [Act.put, List.setIfInBounds_toArray, List.set_cons_zero, List.set_cons_succ])
    refine heldTake 14 (v := ?_) (by simp only [List.getElem?_toArray, List.getElem?_cons_succ, List.getElem?_cons_zero]; rfl) (by kernel_rfl) (by intro _ _ _ h; exact h) (by rfl) (by assumption) ?_ ?_
    rotate_left
    · intro W hSw; (try dsimp only at hSw); go_simp; try with_reducible rfl
    simp only [Act.put, List.setIfInBounds_toArray, List.set_cons_zero, List.set_cons_succ]
    refine heldTake 15 (v := ?_) (by simp only [List.getElem?_toArray, List.getElem?_cons_succ, List.getElem?_cons_zero]; rfl) (by kernel_rfl) (by intro _ _ _ h; exact h) (by rfl) (by assumption) ?_ ?_
    rotate_left
    · intro W hSw; (try dsimp only at hSw); go_simp; try with_reducible rfl
    simp only [Act.put, List.setIfInBounds_toArray, List.set_cons_zero, List.set_cons_succ]
    refine heldTake 16 (v := ?_) (by simp only [List.getElem?_toArray, List.getElem?_cons_succ, List.getElem?_cons_zero]; rfl) (by kernel_rfl) (by intro _ _ _ h; exact h) (by rfl) (by assumption) ?_ ?_
    rotate_left
    · intro W hSw; (try dsimp only at hSw); go_simp; try with_reducible rfl
    simp only [Act.put, List.setIfInBounds_toArray, List.set_cons_zero, List.set_cons_succ]
    refine heldTake 17 (v := ?_) (by simp only [List.getElem?_toArray, List.getElem?_cons_succ, List.getElem?_cons_zero]; rfl) (by kernel_rfl) (by intro _ _ _ h; exact h) (by rfl) (by assumption) ?_ ?_
    rotate_left
    · intro W hSw; (try dsimp only at hSw); go_simp; try with_reducible rfl
    simp only [Act.put, List.setIfInBounds_toArray, List.set_cons_zero, List.set_cons_succ]
    refine heldCall 18 (by simp only [List.getElem?_toArray, List.getElem?_cons_succ, List.getElem?_cons_zero]; rfl) (by kernel_rfl) (fun K hK => ?_)
    go_simp
    refine (rof_nil span now floor _).mono ?_
    rintro e w6 ⟨rfl, rfl⟩
    go_wp2_with fail
    refine hK.out _ _ ?_ (fun hHeld => ?_)
    · trivial
    clear hK K
    (try simp only [Act.put, List.setIfInBounds_toArray, List.set_cons_zero, List.set_cons_succ])
    refine heldTake 19 (v := ?_) (by simp only [List.getElem?_toArray, List.getElem?_cons_succ, List.getElem?_cons_zero]; rfl) (by kernel_rfl) (by intro _ _ _ h; exact h) (by rfl) (by assumption) ?_ ?_
    rotate_left
    · intro W hSw; (try dsimp only at hSw); go_simp; try with_reducible rfl
    simp only [Act.put, List.setIfInBounds_toArray, List.set_cons_zero, List.set_cons_succ]
    refine heldTake 20 (v := ?_) (by simp only [List.getElem?_toArray, List.getElem?_cons_succ, List.getElem?_cons_zero]; rfl) (by kernel_rfl) (by intro _ _ _ h; exact h) (by rfl) (by assumption) ?_ ?_
    rotate_left
    · intro W hSw; (try dsimp only at hSw); go_simp; try with_reducible rfl
    simp only [Act.put, List.setIfInBounds_toArray, List.set_cons_zero, List.set_cons_succ]
    refine heldTake 21 (v := ?_) (by simp only [List.getElem?_toArray, List.getElem?_cons_succ, List.getElem?_cons_zero]; rfl) (by kernel_rfl) (by intro _ _ _ h; exact h) (by rfl) (by assumption) ?_ ?_
    rotate_left
    · intro W hSw; (try dsimp only at hSw); go_simp; try with_reducible rfl
    simp only [Act.put, List.setIfInBounds_toArray, List.set_cons_zero, List.set_cons_succ]
    refine heldTake 22 (v := ?_) (by simp only [List.getElem?_toArray, List.getElem?_cons_succ, List.getElem?_cons_zero]; rfl) (by kernel_rfl) (by intro _ _ _ h; exact h) (by rfl) (by assumption) ?_ ?_
    rotate_left
    · intro W hSw; (try dsimp only at hSw); go_simp; try with_reducible rfl
    simp only [Act.put, List.setIfInBounds_toArray, List.set_cons_zero, List.set_cons_succ]
    refine heldTake 23 (v := ?_) (by simp only [List.getElem?_toArray, List.getElem?_cons_succ, List.getElem?_cons_zero]; rfl) (by kernel_rfl) (by intro _ _ _ h; exact h) (by rfl) (by assumption) ?_ ?_
    rotate_left
    · intro W hSw; (try dsimp only at hSw); go_simp; try with_reducible rfl
    simp only [Act.put, List.setIfInBounds_toArray, List.set_cons_zero, List.set_cons_succ]
    refine heldTake 24 (v := ?_) (by simp only [List.getElem?_toArray, List.getElem?_cons_succ, List.getElem?_cons_zero]; rfl) (by kernel_rfl) (by intro _ _ _ h; exact h) (by rfl) (by assumption) ?_ ?_
    rotate_left
    · intro W hSw; (try dsimp only at hSw); go_simp; try with_reducible rfl
    simp only [Act.put, List.setIfInBounds_toArray, List.set_cons_zero, List.set_cons_succ]
    refine heldTake 25 (v := ?_) (by simp only [List.getElem?_toArray, List.getElem?_cons_succ, List.getElem?_cons_zero]; rfl) (by kernel_rfl) (by intro _ _ _ h; exact h) (by rfl) (by assumption) ?_ ?_
    rotate_left
    · intro W hSw; (try dsimp only at hSw); go_simp; try with_reducible rfl
    simp only [Act.put, List.setIfInBounds_toArray, List.set_cons_zero, List.set_cons_succ]
    refine heldTake 26 (v := ?_) (by simp only [List.getElem?_toArray, List.getElem?_cons_succ, List.getElem?_cons_zero]; rfl) (by kernel_rfl) (by intro _ _ _ h; exact h) (by rfl) (by assumption) ?_ ?_
    rotate_left
    · intro W hSw; (try dsimp only at hSw); go_simp; try with_reducible rfl
    simp only [Act.put, List.setIfInBounds_toArray, List.set_cons_zero, List.set_cons_succ]
    refine heldCall 27 (by simp only [List.getElem?_toArray, List.getElem?_cons_succ, List.getElem?_cons_zero]; rfl) (by kernel_rfl) (fun K hK => ?_)
    go_simp
    refine (rtop_nil span now floor n _ hn).mono ?_
    rintro e w7 ⟨A7, c7, rfl, hb7⟩
    have hKe7 : Below w3.heap.size w3 w7 := hKe5.trans (hb7.mono hKe5.size)
    clear hb7
    go_wp2_with fail
    refine hK.out _ _ ?_ (fun hHeld => ?_)
    · trivial
    clear hK K
    (try simp only [Act.put, List.setIfInBounds_toArray, List.set_cons_zero, List.set_cons_succ])
    refine heldTake 28 (v := ?_) (by simp only [List.getElem?_toArray, List.getElem?_cons_succ, List.getElem?_cons_zero]; rfl) (by kernel_rfl) (by intro _ _ _ h; exact h) (by rfl) (by assumption) ?_ ?_
    rotate_left
    · intro W hSw; (try dsimp only at hSw); go_simp; try with_reducible rfl
    simp only [Act.put, List.setIfInBounds_toArray, List.set_cons_zero, List.set_cons_succ]
    refine heldTake 29 (v := ?_) (by simp only [List.getElem?_toArray, List.getElem?_cons_succ, List.getElem?_cons_zero]; rfl) (by kernel_rfl) (by intro _ _ _ h; exact h) (by rfl) (by assumption) ?_ ?_
    rotate_left
    · intro W hSw; (try dsimp only at hSw); go_simp; try with_reducible rfl
    simp only [Act.put, List.setIfInBounds_toArray, List.set_cons_zero, List.set_cons_succ]
    refine heldTake 30 (v := ?_) (by simp only [List.getElem?_toArray, List.getElem?_cons_succ, List.getElem?_cons_zero]; rfl) (by kernel_rfl) (by intro _ _ _ h; exact h) (by rfl) (by assumption) ?_ ?_
    rotate_left
    · intro W hSw; (try dsimp only at hSw); go_simp; try with_reducible rfl
    simp only [Act.put, List.setIfInBounds_toArray, List.set_cons_zero, List.set_cons_succ]
    refine heldTake 31 (v := ?_) (by simp only [List.getElem?_toArray, List.getElem?_cons_succ, List.getElem?_cons_zero]; rfl) (by kernel_rfl) (by intro _ _ _ h; exact h) (by rfl) (by assumption) ?_ ?_
    rotate_left
    · intro W hSw; (try dsimp only at hSw); go_simp; try with_reducible rfl
    simp only [Act.put, List.setIfInBounds_toArray, List.set_cons_zero, List.set_cons_succ]
    refine heldCall 32 (by simp only [List.getElem?_toArray, List.getElem?_cons_succ, List.getElem?_cons_zero]; rfl) (by kernel_rfl) (fun K hK => ?_)
    go_simp
    refine (awake_any _).mono ?_
    rintro e w8 ⟨rfl, hb8⟩
    have hKe8 : Below w3.heap.size w3 w8 := hKe7.trans (hb8.mono hKe7.size)
    clear hb8
    go_wp2_with fail
    refine hK.out _ _ ?_ (fun hHeld => ?_)
    · trivial
    clear hK K
    (try simp only [Act.put, List.setIfInBounds_toArray, List.set_cons_zero, List.set_cons_succ])
    refine heldTake 33 (v := ?_) (by simp only [List.getElem?_toArray, List.getElem?_cons_succ, List.getElem?_cons_zero]; rfl) (by kernel_rfl) (by intro _ _ _ h; exact h) (by rfl) (by assumption) ?_ ?_
    rotate_left
    · intro W hSw; (try dsimp only at hSw); go_simp; try with_reducible rfl
    simp only [Act.put, List.setIfInBounds_toArray, List.set_cons_zero, List.set_cons_succ]
    refine heldTake 34 (v := ?_) (by simp only [List.getElem?_toArray, List.getElem?_cons_succ, List.getElem?_cons_zero]; rfl) (by kernel_rfl) (by intro _ _ _ h; exact h) (by rfl) (by assumption) ?_ ?_
    rotate_left
    · intro W hSw; (try dsimp only at hSw); go_simp; try with_reducible rfl
    simp only [Act.put, List.setIfInBounds_toArray, List.set_cons_zero, List.set_cons_succ]
    refine heldDone (by kernel_rfl) ?_ _
    go_wp2
    go_ret
    exact ⟨rfl, HB.out.trans (hKe8.mono HB.out.size)⟩
end Go.Proofs.Ytbfjknpljkmgjaa
