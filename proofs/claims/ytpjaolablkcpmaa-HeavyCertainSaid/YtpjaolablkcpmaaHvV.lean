/- law14's grown and truth. -/
import Derived.Test.YtpjaolablkcpmaaHvT
namespace Go.Proofs.Ytpjaolablkcpmaa
open Go.ChangeShapes Go.WideShapes Go.ChangeAt Go.RowKit Go.Shelf Go.Lib Go.Sort Go.Proofs
set_option linter.unusedVariables false
set_option linter.unusedSimpArgs false

/-- What grown leaves: both, behind the adds. -/
def GrownNew (w : World) (m : Int) (l : List CntV) (e : Ending) (w' : World) : Prop :=
  ∃ hb xb F G, e = .returned (.tuple #[.pointer (some ⟨hb, 0, none⟩), .pointer (some ⟨xb, 0, none⟩), .bool true]) ∧ HvO w' hb F (addAll (newH m) l) ∧ RfO w' xb G (addAll (newH m) l) ∧ Apart F G ∧ (∀ k, F k → w.heap.size ≤ k) ∧ (∀ k, G k → w.heap.size ≤ k) ∧ Below w.heap.size w w'
theorem rf_start {w : World} {xb : Nat} {m : Int} (h : RfB w xb (newH m).room 0 0 0 none 0 0) : RfO w xb (fun k => k = xb ∨ rowF none k) (newH m) :=
  ⟨none, 0, [], ⟨h, TopOf.nil, Reads.none_, Nat.le_refl _, fun _ => rfl, newH_inv m, (fun ⟨o, sp, e⟩ => by cases e), (fun k ⟨o, sp, e⟩ => by cases e)⟩, rfl⟩

set_option maxRecDepth 20000 in
set_option maxHeartbeats 4000000 in
theorem grown14_any (m : Int) (A : Option Addr) (c : Nat) (l : List CntV) (w : World) (hl : CntsAt w w.heap.size A l) (hlen : (l.length : Int) ≤ 1000) (hks : ∀ a ∈ l, (a.key.size : Int) ≤ 100) :
    Calls Try.prog 19 #[.int .i64 m, .slice A l.length c] w (GrownNew w m l) := by
  have HL := Lib.hid hl
  have HKS := Lib.hid hks
  clear hl hks
  go_enter Try.func19, Try.ntmps19
  go_wp2_with fail
  refine (hnew_o m _).mono ?_
  rintro e w1 ⟨hb, F, rfl, hO, hF, hb1⟩
  go_wp2_with fail
  refine (rroom_any m _).mono ?_
  rintro e w1' ⟨rfl, rfl⟩
  have hz1 := hb1.size
  have hxb : RfB (w1.alloc (Obj.cells #[.int .i64 (newH m).room, .slice none 0 0, .int .i64 0, .int .i64 0, .int .i64 0] 49)) w1.heap.size (newH m).room 0 0 0 none 0 0 := heap_alloc_new w1 _
  have hb2 : Below w.heap.size w (w1.alloc (Obj.cells #[.int .i64 (newH m).room, .slice none 0 0, .int .i64 0, .int .i64 0, .int .i64 0] 49)) := hb1.alloc hz1 _
  have hX := rf_start hxb
  have hO2 : HvO (w1.alloc (Obj.cells #[.int .i64 (newH m).room, .slice none 0 0, .int .i64 0, .int .i64 0, .int .i64 0] 49)) hb F (newH m) := hO.below ((Below.refl _ _).alloc (Nat.le_refl _) _)
  have hap : Apart F (fun k => k = w1.heap.size ∨ rowF none k) := by
    rintro k hf (rfl | ⟨o, sp, e⟩)
    · exact absurd ((HvO.own hb _).lt hO _ hf) (Nat.lt_irrefl _)
    · cases e
  have hG : ∀ k, (k = w1.heap.size ∨ rowF none k) → w.heap.size ≤ k := by
    rintro k (rfl | ⟨o, sp, e⟩)
    · exact hz1
    · cases e
  have HO2 := Lib.hid hO2
  have HX := Lib.hid hX
  have HAP := Lib.hid hap
  have HF := Lib.hid hF
  have HG := Lib.hid hG
  have HB2 := Lib.hid hb2
  clear hO2 hX hap hF hG hb2 hO hb1 hxb
  go_wp2_with fail
  generalize w1.alloc (Obj.cells #[.int .i64 (newH m).room, .slice none 0 0, .int .i64 0, .int .i64 0, .int .i64 0] 49) = W2 at *
  generalize w1.heap.size = xb at *
  go_loopg [9] l.length (fun rest i wr => ∃ (k : Nat) (F G : Nat → Prop), i = .int .i64 k ∧ Hid (k + rest = l.length) ∧ Hid (HvO wr hb F (addAll (newH m) (l.take k))) ∧ Hid (RfO wr xb G (addAll (newH m) (l.take k))) ∧ Hid (Apart F G) ∧ Hid (∀ k, F k → w.heap.size ≤ k) ∧ Hid (∀ k, G k → w.heap.size ≤ k) ∧ Hid (Below w.heap.size w wr))
  case atStart => exact ⟨0, F, _, rfl, Lib.hid (by simp), HO2, HX, HAP, HF, HG, HB2⟩
  case round =>
    clear HO2 HX HAP HF HG HB2
    obtain ⟨k, F, G, rfl, HK, HO, HX, HAP, HF, HG, HB⟩ := hrel
    by_cases hk : (k : Int) < (l.length : Int)
    · have hkl : k < l.length := by omega
      obtain ⟨b, o, rfl, hbl, e1, e2⟩ := (HL.out.below HB.out).one hkl
      have HKT : Hid (addAll (newH m) (l.take (k + 1)) = addH (addAll (newH m) (l.take k)) l[k].key l[k].n) := Lib.hid (by rw [List.take_succ_eq_append_getElem hkl, addAll_snoc])
      have hsz := HKS.out _ (List.getElem_mem hkl)
      generalize l[k] = y at *
      generalize addAll (newH m) (l.take k) = st at *
      have hD : Below wr.heap.size wr wr.drew := (Below.refl _ _).drew
      have hKe : Below w.heap.size w wr.drew := HB.out.drew
      have e1w : w.cell? ⟨b, o + k * 2, none⟩ = some (.string y.key) := (HB.out.cell (p := ⟨b, o + k * 2, none⟩) hbl).symm.trans e1
      have e2w : w.cell? ⟨b, o + k * 2 + 1, none⟩ = some (.int .i64 y.n) := (HB.out.cell (p := ⟨b, o + k * 2 + 1, none⟩) hbl).symm.trans e2
      go_wp2_with fail
      refine heldStart 25 (S := fun W => W.cell? ⟨b, o + k * 2, none⟩ = some (.string y.key) ∧ W.cell? ⟨b, o + k * 2 + 1, none⟩ = some (.int .i64 y.n)) (by kernel_rfl) ?_ (fun hHeld => ?_)
      · exact ⟨(hKe.cell (p := ⟨b, o + k * 2, none⟩) hbl).trans e1w, (hKe.cell (p := ⟨b, o + k * 2 + 1, none⟩) hbl).trans e2w⟩
      refine heldTake 0 (v := ?_) (by simp only [List.getElem?_toArray, List.getElem?_cons_succ, List.getElem?_cons_zero]; rfl) (by kernel_rfl) (by intro _ _ _ h; exact h) (by rfl) (by assumption) ?_ ?_
      rotate_left
      · intro W hSw; (try dsimp only at hSw); go_simp; try with_reducible rfl
      simp only [Act.put, List.setIfInBounds_toArray, List.set_cons_zero, List.set_cons_succ]
      refine heldTake 1 (v := ?_) (by simp only [List.getElem?_toArray, List.getElem?_cons_succ, List.getElem?_cons_zero]; rfl) (by kernel_rfl) (by intro _ _ _ h; exact h) (by rfl) (by assumption) ?_ ?_
      rotate_left
      · intro W hSw; (try dsimp only at hSw); go_simp; try with_reducible rfl
      simp only [Act.put, List.setIfInBounds_toArray, List.set_cons_zero, List.set_cons_succ]
      refine heldTake 2 (v := ?_) (by simp only [List.getElem?_toArray, List.getElem?_cons_succ, List.getElem?_cons_zero]; rfl) (by kernel_rfl) (by intro _ _ _ h; exact h) (by rfl) (by assumption) ?_ ?_
      rotate_left
      · intro W hSw; (try dsimp only at hSw); go_simp; try with_reducible rfl
      simp only [Act.put, List.setIfInBounds_toArray, List.set_cons_zero, List.set_cons_succ]
      refine heldTake 3 (v := ?_) (by simp only [List.getElem?_toArray, List.getElem?_cons_succ, List.getElem?_cons_zero]; rfl) (by kernel_rfl) (by intro _ _ _ h; exact h) (by rfl) (by assumption) ?_ ?_
      rotate_left
      · intro W hSw; (try dsimp only at hSw); go_simp; try with_reducible rfl
      simp only [Act.put, List.setIfInBounds_toArray, List.set_cons_zero, List.set_cons_succ]
      refine heldTake 4 (v := ?_) (by simp only [List.getElem?_toArray, List.getElem?_cons_succ, List.getElem?_cons_zero]; rfl) (by kernel_rfl) (by intro _ _ _ h; exact h) (by rfl) (by assumption) ?_ ?_
      rotate_left
      · intro W hSw; (try dsimp only at hSw); go_simp; try with_reducible rfl
      simp only [Act.put, List.setIfInBounds_toArray, List.set_cons_zero, List.set_cons_succ]
      refine heldTake 5 (v := ?_) (by simp only [List.getElem?_toArray, List.getElem?_cons_succ, List.getElem?_cons_zero]; rfl) (by kernel_rfl) (by intro _ _ _ h; exact h) (by rfl) (by assumption) ?_ ?_
      rotate_left
      · intro W hSw; (try dsimp only at hSw); go_simp; try with_reducible rfl
      simp only [Act.put, List.setIfInBounds_toArray, List.set_cons_zero, List.set_cons_succ]
      refine heldTake 6 (v := ?_) (by simp only [List.getElem?_toArray, List.getElem?_cons_succ, List.getElem?_cons_zero]; rfl) (by kernel_rfl) (by intro _ _ _ h; exact h) (by rfl) (by assumption) ?_ ?_
      rotate_left
      · intro W hSw; (try dsimp only at hSw); go_simp; try with_reducible rfl
      simp only [Act.put, List.setIfInBounds_toArray, List.set_cons_zero, List.set_cons_succ]
      refine heldTake 7 (v := ?_) (by simp only [List.getElem?_toArray, List.getElem?_cons_succ, List.getElem?_cons_zero]; rfl) (by kernel_rfl) (by intro _ _ _ h; exact h) (by rfl) (by assumption) ?_ ?_
      rotate_left
      · intro W hSw; (try dsimp only at hSw); go_simp; try with_reducible rfl
      simp only [Act.put, List.setIfInBounds_toArray, List.set_cons_zero, List.set_cons_succ]
      refine heldTake 8 (v := ?_) (by simp only [List.getElem?_toArray, List.getElem?_cons_succ, List.getElem?_cons_zero]; rfl) (by kernel_rfl) (by intro _ _ _ h; exact h) (by rfl) (by assumption) ?_ ?_
      rotate_left
      · intro W hSw; (try dsimp only at hSw); go_simp; try with_reducible rfl
      simp only [Act.put, List.setIfInBounds_toArray, List.set_cons_zero, List.set_cons_succ]
      refine heldTake 9 (v := ?_) (by simp only [List.getElem?_toArray, List.getElem?_cons_succ, List.getElem?_cons_zero]; rfl) (by kernel_rfl) (by intro _ _ _ h; exact h) (by rfl) (by assumption) ?_ ?_
      rotate_left
      · intro W hSw; (try dsimp only at hSw); go_simp; try with_reducible rfl
      simp only [Act.put, List.setIfInBounds_toArray, List.set_cons_zero, List.set_cons_succ]
      refine heldTake 10 (v := ?_) (by simp only [List.getElem?_toArray, List.getElem?_cons_succ, List.getElem?_cons_zero]; rfl) (by kernel_rfl) (by intro _ _ _ h; exact h) (by rfl) (by assumption) ?_ ?_
      rotate_left
      · intro W hSw; (try dsimp only at hSw); go_simp; try with_reducible rfl
      simp only [Act.put, List.setIfInBounds_toArray, List.set_cons_zero, List.set_cons_succ]
      refine heldTake 12 (v := ?_) (by simp only [List.getElem?_toArray, List.getElem?_cons_succ, List.getElem?_cons_zero]; rfl) (by kernel_rfl) (by intro _ _ _ h; exact h) (by rfl) (by assumption) ?_ ?_
      rotate_left
      · intro W hSw; (try dsimp only at hSw); go_simp; try with_reducible rfl
      simp only [Act.put, List.setIfInBounds_toArray, List.set_cons_zero, List.set_cons_succ]
      refine heldTake 13 (v := ?_) (by simp only [List.getElem?_toArray, List.getElem?_cons_succ, List.getElem?_cons_zero]; rfl) (by kernel_rfl) (by intro _ _ _ h; exact h) (by rfl) (by assumption) ?_ ?_
      rotate_left
      · intro W hSw; (try dsimp only at hSw); go_simp; try with_reducible rfl
      simp only [Act.put, List.setIfInBounds_toArray, List.set_cons_zero, List.set_cons_succ]
      refine heldTake 14 (v := ?_) (by simp only [List.getElem?_toArray, List.getElem?_cons_succ, List.getElem?_cons_zero]; rfl) (by kernel_rfl) (by intro _ _ _ h; exact h) (by rfl) (by assumption) ?_ ?_
      rotate_left
      · intro W hSw; (try dsimp only at hSw); go_simp; try with_reducible rfl
      simp only [Act.put, List.setIfInBounds_toArray, List.set_cons_zero, List.set_cons_succ]
      refine heldTake 15 (v := ?_) (by simp only [List.getElem?_toArray, List.getElem?_cons_succ, List.getElem?_cons_zero]; rfl) (by kernel_rfl) (by intro _ _ _ h; exact h) (by rfl) (by assumption) ?_ ?_
      rotate_left
      · intro W hSw; (try dsimp only at hSw); go_simp; try with_reducible rfl
      simp only [Act.put, List.setIfInBounds_toArray, List.set_cons_zero, List.set_cons_succ]
      refine heldTake 16 (v := ?_) (by simp only [List.getElem?_toArray, List.getElem?_cons_succ, List.getElem?_cons_zero]; rfl) (by kernel_rfl) (by intro _ _ _ h; exact h) (by rfl) (by assumption) ?_ ?_
      rotate_left
      · intro W hSw; (try dsimp only at hSw); go_simp; try with_reducible rfl
      simp only [Act.put, List.setIfInBounds_toArray, List.set_cons_zero, List.set_cons_succ]
      refine heldTake 17 (v := ?_) (by simp only [List.getElem?_toArray, List.getElem?_cons_succ, List.getElem?_cons_zero]; rfl) (by kernel_rfl) (by intro _ _ _ h; exact h) (by rfl) (by assumption) ?_ ?_
      rotate_left
      · intro W hSw; (try dsimp only at hSw); go_simp; try with_reducible rfl
      simp only [Act.put, List.setIfInBounds_toArray, List.set_cons_zero, List.set_cons_succ]
      refine heldTake 18 (v := ?_) (by simp only [List.getElem?_toArray, List.getElem?_cons_succ, List.getElem?_cons_zero]; rfl) (by kernel_rfl) (by intro _ _ _ h; exact h) (by rfl) (by assumption) ?_ ?_
      rotate_left
      · intro W hSw; (try dsimp only at hSw); go_simp; try with_reducible rfl
      simp only [Act.put, List.setIfInBounds_toArray, List.set_cons_zero, List.set_cons_succ]
      refine heldTake 19 (v := ?_) (by simp only [List.getElem?_toArray, List.getElem?_cons_succ, List.getElem?_cons_zero]; rfl) (by kernel_rfl) (by intro _ _ _ h; exact h) (by rfl) (by assumption) ?_ ?_
      rotate_left
      · intro W hSw; (try dsimp only at hSw); go_simp; try with_reducible rfl
      simp only [Act.put, List.setIfInBounds_toArray, List.set_cons_zero, List.set_cons_succ]
      refine heldTake 20 (v := ?_) (by simp only [List.getElem?_toArray, List.getElem?_cons_succ, List.getElem?_cons_zero]; rfl) (by kernel_rfl) (by intro _ _ _ h; exact h) (by rfl) (by assumption) ?_ ?_
      rotate_left
      · intro W hSw; (try dsimp only at hSw); go_simp; try with_reducible rfl
      simp only [Act.put, List.setIfInBounds_toArray, List.set_cons_zero, List.set_cons_succ]
      refine heldTake 21 (v := ?_) (by simp only [List.getElem?_toArray, List.getElem?_cons_succ, List.getElem?_cons_zero]; rfl) (by kernel_rfl) (by intro _ _ _ h; exact h) (by rfl) (by assumption) ?_ ?_
      rotate_left
      · intro W hSw; (try dsimp only at hSw); go_simp; try with_reducible rfl
      simp only [Act.put, List.setIfInBounds_toArray, List.set_cons_zero, List.set_cons_succ]
      refine heldTake 22 (v := ?_) (by simp only [List.getElem?_toArray, List.getElem?_cons_succ, List.getElem?_cons_zero]; rfl) (by kernel_rfl) (by intro _ _ _ h; exact h) (by rfl) (by assumption) ?_ ?_
      rotate_left
      · intro W hSw; (try dsimp only at hSw); go_simp; try with_reducible rfl
      simp only [Act.put, List.setIfInBounds_toArray, List.set_cons_zero, List.set_cons_succ]
      refine heldCall 11 (by simp only [List.getElem?_toArray, List.getElem?_cons_succ, List.getElem?_cons_zero]; rfl) (by kernel_rfl) (fun K hK => ?_)
      go_simp
      refine (hadd_any hb F st y.key y.n _ (HO.out.below hD) (by omega)).mono ?_
      rintro r w5 ⟨rfl, F5, hO5, hu5⟩
      have hfr := (RfO.own xb st).frame hu5 (HX.out.below hD) HAP.out
      have hF5 := hu5.base hKe.size HF.out
      have hB5 : Below w.heap.size w w5 := hu5.belowB hKe (Nat.le_refl _) HF.out
      have HO5 := Lib.hid hO5
      have HFR := Lib.hid hfr
      have HF5 := Lib.hid hF5
      clear hKe hO5 hu5 hfr hF5
      have hKe := hB5
      clear hB5
      go_wp2_with fail
      refine hK.out _ _ ?_ (fun hHeld => ?_)
      · exact ⟨(hKe.cell (p := ⟨b, o + k * 2, none⟩) hbl).trans e1w, (hKe.cell (p := ⟨b, o + k * 2 + 1, none⟩) hbl).trans e2w⟩
      clear hK K
      (try simp only [Act.put, List.setIfInBounds_toArray, List.set_cons_zero, List.set_cons_succ])
      refine heldCall 23 (by simp only [List.getElem?_toArray, List.getElem?_cons_succ, List.getElem?_cons_zero]; rfl) (by kernel_rfl) (fun K hK => ?_)
      go_simp
      refine (radd_any xb G st y.key y.n _ HFR.out.1 (by omega)).mono ?_
      rintro r w6 ⟨rfl, G6, hX6, hu6⟩
      have hfr := (HvO.own hb _).frame hu6 HO5.out HFR.out.2.symm
      have hG6 := hu6.base hKe.size HG.out
      have hB6 : Below w.heap.size w w6 := hu6.belowB hKe (Nat.le_refl _) HG.out
      rw [← HKT.out] at hX6 hfr
      have HX6 := Lib.hid hX6
      have HFR2 := Lib.hid hfr
      have HG6 := Lib.hid hG6
      clear hKe hX6 hu6 hfr hG6
      have hKe := hB6
      clear hB6
      generalize hokB st y.key y.n = bb at *
      go_wp2_with fail
      refine hK.out _ _ ?_ (fun hHeld => ?_)
      · exact ⟨(hKe.cell (p := ⟨b, o + k * 2, none⟩) hbl).trans e1w, (hKe.cell (p := ⟨b, o + k * 2 + 1, none⟩) hbl).trans e2w⟩
      clear hK K
      (try simp only [Act.put, List.setIfInBounds_toArray, List.set_cons_zero, List.set_cons_succ])
      refine heldTake 24 (v := ?_) (by simp only [List.getElem?_toArray, List.getElem?_cons_succ, List.getElem?_cons_zero]; rfl) (by kernel_rfl) (by intro _ _ _ h; exact h) (by rfl) (by assumption) ?_ ?_
      rotate_left
      · intro W hSw; (try dsimp only at hSw); go_simp; try with_reducible rfl
      simp only [Act.put, List.setIfInBounds_toArray, List.set_cons_zero, List.set_cons_succ]
      refine heldDone (by kernel_rfl) ?_ _
      have HB6 := Lib.hid hKe
      clear hKe hD
      go_wp2
      go_roundg (gk - 1)
      case measure => have := HK.out; omega
      case rel => exact ⟨k + 1, F5, G6, by go_num, Lib.hid (by have := HK.out; omega), Lib.hid HFR2.out.1, HX6, Lib.hid HFR2.out.2.symm, HF5, HG6, HB6⟩
    · have hall : l.take k = l := List.take_of_length_le (by omega)
      have hO := HO.out
      have hX := HX.out
      rw [hall] at hO hX
      have fin : GrownNew w m l (.returned (.tuple #[.pointer (some ⟨hb, 0, none⟩), .pointer (some ⟨xb, 0, none⟩), .bool true])) wr := ⟨hb, xb, F, G, rfl, hO, hX, HAP.out, HF.out, HG.out, HB.out⟩
      have FIN := Lib.hid fin
      clear fin hO hX hall
      go_wp2
      refine bodyPost_ret (results_tmp3 rfl _ _ _) rfl ?_
      exact FIN.out

set_option maxRecDepth 20000 in
set_option maxHeartbeats 2000000 in
theorem truth_any (A : Option Addr) (B c : Nat) (l : List CntV) (key : ByteArray) (w : World) (hl : CntsAt w B A l) (hB : B ≤ w.heap.size) (hlen : (l.length : Int) ≤ 1000) :
    Calls Try.prog 9 #[.slice A l.length c, .string key] w fun e w' => e = .returned (.int .i64 (truthV l key)) ∧ Below w.heap.size w w' := by
  have HL := Lib.hid hl
  clear hl
  go_enter Try.func9, Try.ntmps9
  go_wp2_with fail
  go_loopg [5, 6] l.length (fun rest n i wr => ∃ (k : Nat), i = .int .i64 k ∧ Hid (k + rest = l.length) ∧ n = .int .i64 (truthV (l.take k) key) ∧ Below w.heap.size w wr)
  case atStart => exact ⟨0, rfl, Lib.hid (by simp), rfl, Below.refl _ _⟩
  case round =>
    obtain ⟨k, rfl, HK, rfl, hb⟩ := hrel
    by_cases hk : (k : Int) < (l.length : Int)
    · have hkl : k < l.length := by omega
      obtain ⟨b, o, rfl, hbl, e1, e2⟩ := (HL.out.below (hb.mono hB)).one hkl
      have hsn : truthV (l.take (k + 1)) key = truthV (l.take k) key + if (l[k]).key = key ∧ mayB l[k] = true then (l[k]).n else 0 := by rw [List.take_succ_eq_append_getElem hkl, truthV_snoc]
      have hbd := truthV_bd (l.take k) key
      have hlt := List.length_take_le k l
      have hbd2 : 0 ≤ truthV (l.take k) key ∧ truthV (l.take k) key ≤ 1048576000 := by omega
      have HSN := Lib.hid hsn
      clear hsn hbd hlt
      generalize l[k] = y at *
      generalize truthV (l.take k) key = tv at *
      have hq := mayB_iff (a := y)
      have HQ := Lib.hid hq
      clear hq
      by_cases h1 : y.key = key
      · have he : (y.key.toList == key.toList) = true := by rw [str_beq]; simpa using h1
        by_cases h2 : (1 : Int) ≤ key.size
        · by_cases h3 : (key.size : Int) ≤ 24
          · by_cases h4 : 0 ≤ y.n
            · by_cases h5 : y.n ≤ 1048576
              · have HV : Hid (truthV (l.take (k + 1)) key = tv + y.n) := Lib.hid (by rw [HSN.out, if_pos ⟨h1, HQ.out.2 ⟨by rw [h1]; exact h2, by rw [h1]; exact h3, h4, h5⟩⟩])
                have hw1 : wrap64 (tv + y.n) = tv + y.n := by unfold wrap64; omega
                clear h1
                go_wp2
                go_roundg (gk - 1)
                case measure => have := HK.out; omega
                case rel => exact ⟨k + 1, by go_num, Lib.hid (by have := HK.out; omega), by rw [HV.out], hb⟩
              · have HV : Hid (truthV (l.take (k + 1)) key = tv) := Lib.hid (by rw [HSN.out, if_neg (fun h => by have := HQ.out.1 h.2; omega), Int.add_zero])
                clear h1
                go_wp2
                go_roundg (gk - 1)
                case measure => have := HK.out; omega
                case rel => exact ⟨k + 1, by go_num, Lib.hid (by have := HK.out; omega), by rw [HV.out], hb⟩
            · have HV : Hid (truthV (l.take (k + 1)) key = tv) := Lib.hid (by rw [HSN.out, if_neg (fun h => by have := HQ.out.1 h.2; omega), Int.add_zero])
              clear h1
              go_wp2
              go_roundg (gk - 1)
              case measure => have := HK.out; omega
              case rel => exact ⟨k + 1, by go_num, Lib.hid (by have := HK.out; omega), by rw [HV.out], hb⟩
          · have HV : Hid (truthV (l.take (k + 1)) key = tv) := Lib.hid (by rw [HSN.out, if_neg (fun h => by have := HQ.out.1 h.2; rw [h.1] at this; omega), Int.add_zero])
            clear h1
            go_wp2
            go_roundg (gk - 1)
            case measure => have := HK.out; omega
            case rel => exact ⟨k + 1, by go_num, Lib.hid (by have := HK.out; omega), by rw [HV.out], hb⟩
        · have HV : Hid (truthV (l.take (k + 1)) key = tv) := Lib.hid (by rw [HSN.out, if_neg (fun h => by have := HQ.out.1 h.2; rw [h.1] at this; omega), Int.add_zero])
          clear h1
          go_wp2
          go_roundg (gk - 1)
          case measure => have := HK.out; omega
          case rel => exact ⟨k + 1, by go_num, Lib.hid (by have := HK.out; omega), by rw [HV.out], hb⟩
      · have he : (y.key.toList == key.toList) = false := by rw [str_beq]; simpa using h1
        have HV : Hid (truthV (l.take (k + 1)) key = tv) := Lib.hid (by rw [HSN.out, if_neg (fun h => h1 h.1), Int.add_zero])
        clear h1
        go_wp2
        go_roundg (gk - 1)
        case measure => have := HK.out; omega
        case rel => exact ⟨k + 1, by go_num, Lib.hid (by have := HK.out; omega), by rw [HV.out], hb⟩
    · have hall : l.take k = l := List.take_of_length_le (by omega)
      rw [hall]
      go_wp2
      go_ret
      exact ⟨rfl, hb⟩
end Go.Proofs.Ytpjaolablkcpmaa
