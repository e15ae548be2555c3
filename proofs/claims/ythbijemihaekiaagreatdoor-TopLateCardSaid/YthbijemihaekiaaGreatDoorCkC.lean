/- Contracts of the clock: rise, Tick, Hear, New, Mark. -/
import Derived.Test.YthbijemihaekiaaGreatDoorCkB
namespace Go.Proofs.YthbijemihaekiaaGreatDoor
open Go.ChangeShapes Go.WideShapes Go.ChangeAt Go.RowKit
set_option linter.unusedVariables false
set_option linter.unusedSimpArgs false

theorem setCell_blkC {W : World} {g : Nat} {cur : Array Value} {t : TypeId} (h : W.heap[g]? = some (.cells cur t (0, 0))) (i : Nat) (v : Value) : (W.setCell ⟨g, i, none⟩ v).heap[g]? = some (.cells (cur.setIfInBounds i v) t (0, 0)) := by
  obtain ⟨l, rfl⟩ : ∃ l : List Value, cur = l.toArray := ⟨cur.toList, by simp⟩
  rw [setCell_eq_setRow W g i _ _ _ _ h]
  have e : l.toArray.setIfInBounds i v = (l.set i v).toArray := by simp
  rw [e]
  exact setRow_block h
def RsNew (cb mb : Nat) (sl mk : Int) (D : CkD) (w : World) (e : Ending) (w' : World) : Prop :=
  ∃ mk', e = .returned (.tuple #[]) ∧ ClkAt w' cb mb sl mk' D ∧ CkInv sl mk' D ∧ mk ≤ mk' ∧ (CkInv sl mk D → mk' = mk) ∧ Keeps (fun k => k = cb) w w'
set_option maxRecDepth 20000 in
set_option maxHeartbeats 1000000 in
theorem rise_any (cb mb : Nat) (sl mk : Int) (D : CkD) (w : World) (h : ClkAt w cb mb sl mk D) :
    Calls Tryz.prog 26 #[.pointer (some ⟨cb, 0, none⟩)] w (RsNew cb mb sl mk D w) := by
  have Q := Lib.hid (told_clk cb mb sl mk D w h)
  have HD := Lib.hid h
  obtain ⟨b1, b2, b3, b4, b5⟩ := h.bd
  have HB5 := Lib.hid b5
  clear h b5
  go_enter Tryz.func26, Tryz.ntmps26
  go_wp2_with fail
  refine Q.out.mono ?_
  rintro e w2 ⟨x, b, rfl, hI, hb⟩
  have HI := Lib.hid hI
  have HB := Lib.hid hb
  have H2 := Lib.hid (HD.out.next hb)
  clear hI hb Q
  cases b with
  | false =>
    have hnil : D = [] := by
      cases hD : D with
      | nil => rfl
      | cons p l =>
        have := HI.out.1 p (by rw [hD]; exact List.mem_cons_self ..)
        simp at this
    have HN := Lib.hid hnil
    clear hnil
    go_wp2_with fail
    go_end0
    exact ⟨mk, rfl, H2.out, .inl HN.out, Int.le_refl _, fun _ => rfl, Keeps.ofBelow HB.out _⟩
  | true =>
    obtain ⟨p, hp, hx⟩ := HI.out.2.1 rfl
    have hpb := HB5.out p hp
    have hxb : -300 ≤ x ∧ x ≤ 100000 := by unfold toldV at hx; omega
    have c3 := H2.out.cells.2.2.2.1
    have f3 : w2.frozen? ⟨cb, 3, none⟩ = false := frozen_block H2.out.blk _
    obtain ⟨mk2, hmk2⟩ : ∃ mk2, max mk x = mk2 := ⟨_, rfl⟩
    have hmb : -1 ≤ mk2 ∧ mk2 ≤ 100000 ∧ mk ≤ mk2 ∧ x ≤ mk2 := by omega
    have hfin : RsNew cb mb sl mk D w (.returned (.tuple #[])) (w2.setCell ⟨cb, 3, none⟩ (.int .i64 mk2)) := by
      have hk : Keeps (fun k => k = cb) w2 (w2.setCell ⟨cb, 3, none⟩ (.int .i64 mk2)) := (Keeps.refl (fun k => k = cb) w2).setCell (p := ⟨cb, 3, none⟩) (.inr rfl) _
      refine ⟨mk2, rfl, ⟨?_, H2.out.mp.keep hk (fun e => H2.out.lt.2.2 e.symm), ⟨hmb.1, hmb.2.1, b3, b4, HB5.out⟩⟩, .inr ⟨p, hp, ?_⟩, hmb.2.2.1, fun hi => ?_, (Keeps.ofBelow HB.out (fun k => k = cb)).trans hk (fun _ _ e => e)⟩
      · have := setCell_blkC H2.out.blk 3 (.int .i64 mk2)
        simpa using this
      · unfold toldV at hx; omega
      · rcases hi with hi | ⟨q, hq, hqm⟩
        · rw [hi] at hp; cases hp
        · have := HI.out.1 q hq
          simp at this
          unfold toldV at this
          omega
    have HF := Lib.hid hfin
    clear hp hx hpb hfin hmb
    go_wp2_with fail
    go_end0
    exact HF.out

theorem mark_any (cb mb : Nat) (sl mk : Int) (D : CkD) (w : World) (h : ClkAt w cb mb sl mk D) :
    Calls Tryz.prog 14 #[.pointer (some ⟨cb, 0, none⟩)] w fun e w' => e = .returned (.int .i64 mk) ∧ w = w' := by
  have c3 := h.cells.2.2.2.1
  clear h
  go_enter Tryz.func14, Tryz.ntmps14
  go_wp2
  go_ret
  exact ⟨rfl, rfl⟩
def CnNew (sl : Int) (w : World) (e : Ending) (w' : World) : Prop := ∃ cb mb, e = .returned (.pointer (some ⟨cb, 0, none⟩)) ∧ ClkAt w' cb mb sl (-1) [] ∧ w.heap.size ≤ cb ∧ w.heap.size ≤ mb ∧ Below w.heap.size w w'
set_option maxRecDepth 20000 in
set_option maxHeartbeats 1000000 in
theorem cnew_any (sl : Int) (hs : 0 ≤ sl ∧ sl ≤ 255) (w : World) : Calls Tryz.prog 12 #[.int .i64 sl, .int .i64 0] w (CnNew sl w) := by
  have Q1 := Lib.hid (bound_any sl (by omega))
  have Q2 := Lib.hid (bound_any 0 (by omega))
  have hmm := @run_makeMap Tryz.prog
  go_enter Tryz.func12, Tryz.ntmps12
  go_wp2_with fail
  refine (Q1.out w).mono ?_
  rintro e w2 ⟨rfl, rfl⟩
  go_wp2_with fail
  refine (Q2.out w).mono ?_
  rintro e w2 ⟨rfl, rfl⟩
  go_wp2_with fail
  go_ret
  refine ⟨w.heap.size + 1, w.heap.size, rfl, ⟨?_, (MapIs.made w strKf ckVf strOk).alloc _, by omega, by omega, hs.1, hs.2, fun p hp => (by cases hp)⟩, by omega, Nat.le_refl _, ((Below.refl _ w).alloc (Nat.le_refl _) _).alloc (by simp) _⟩
  have := heap_alloc_new (w.alloc (.map #[] 0)) (.cells #[.int .i64 sl, .int .i64 0, .int .i64 0, .int .i64 (-1), .map (some w.heap.size)] 78)
  simpa using this
def TkNew (cb mb : Nat) (sl mk : Int) (D : CkD) (w : World) (e : Ending) (w' : World) : Prop := e = .returned (.int .i64 mk) ∧ ClkAt w' cb mb sl mk D ∧ Keeps (fun k => k = cb) w w'
set_option maxRecDepth 20000 in
set_option maxHeartbeats 1000000 in
theorem tick_any (cb mb : Nat) (sl mk : Int) (D : CkD) (w : World) (h : ClkAt w cb mb sl mk D) (hi : CkInv sl mk D) :
    Calls Tryz.prog 15 #[.pointer (some ⟨cb, 0, none⟩), .int .i64 0] w (TkNew cb mb sl mk D w) := by
  have c2 := h.cells.2.2.1
  have f2 : w.frozen? ⟨cb, 2, none⟩ = false := frozen_block h.blk _
  obtain ⟨W1, hW1⟩ : ∃ W1, W1 = (w.setCell ⟨cb, 2, none⟩ (.int .i64 0)).drew := ⟨_, rfl⟩
  have hk1 : Keeps (fun k => k = cb) w W1 := by rw [hW1]; exact ((Keeps.refl (fun k => k = cb) w).setCell (p := ⟨cb, 2, none⟩) (.inr rfl) _).drew
  have h1 : ClkAt W1 cb mb sl mk D := ⟨by
    rw [hW1]
    have := setCell_blkC h.blk 2 (.int .i64 0)
    exact this, h.mp.keep hk1 (fun e => h.lt.2.2 e.symm), h.bd⟩
  have c2b : W1.cell? ⟨cb, 2, none⟩ = some (.int .i64 0) := h1.cells.2.2.1
  rw [hW1] at c2b
  have c2e : w.drew.cell? ⟨cb, 2, none⟩ = some (.int .i64 0) := c2
  have HK1 := Lib.hid hk1
  have H1 := Lib.hid h1
  clear h hk1 h1
  go_enter Tryz.func15, Tryz.ntmps15
  go_upto_region 1 with fail
  refine heldStart 10 (S := fun W => W.cell? ⟨cb, 2, none⟩ = some (.int .i64 0)) (by kernel_rfl) ?_ (fun hHeld => ?_)
  · first | with_reducible exact c2 | with_reducible exact c2e | with_reducible exact c2b
  refine heldTake 0 (v := ?_) (by simp only [List.getElem?_toArray, List.getElem?_cons_succ, List.getElem?_cons_zero]; rfl) (by kernel_rfl) (by intro _ _ _ h; exact h) (by rfl) (by assumption) ?_ ?_
  rotate_left
  · intro W hSw; (try dsimp only at hSw); go_simp; try with_reducible rfl
  simp only [Act.put, List.setIfInBounds_toArray, List.set_cons_zero, List.set_cons_succ]
  refine heldTake 1 (v := ?_) (by simp only [List.getElem?_toArray, List.getElem?_cons_succ, List.getElem?_cons_zero]; rfl) (by kernel_rfl) (by intro _ _ _ h; exact h) (by rfl) (by assumption) ?_ ?_
  rotate_left
  · intro W hSw; (try dsimp only at hSw); go_simp; try with_reducible rfl
  simp only [Act.put, List.setIfInBounds_toArray, List.set_cons_zero, List.set_cons_succ]
  refine heldTake 2 (v := ?_) (by simp only [List.getElem?_toArray, List.getElem?_cons_succ, List.getElem?_cons_zero]; rfl) (by kernel_rfl) (by intro _ _ _ h; exact h) (by rfl) (by assumption) ?_ ?_
  rotate_left
  · intro W hSw; (try dsimp only at hSw); go_simp; try with_reducible rfl
  simp only [Act.put, List.setIfInBounds_toArray, List.set_cons_zero, List.set_cons_succ]
  refine heldTake 3 (v := ?_) (by simp only [List.getElem?_toArray, List.getElem?_cons_succ, List.getElem?_cons_zero]; rfl) (by kernel_rfl) (by intro _ _ _ h; exact h) (by rfl) (by assumption) ?_ ?_
  rotate_left
  · intro W hSw; (try dsimp only at hSw); go_simp; try with_reducible rfl
  simp only [Act.put, List.setIfInBounds_toArray, List.set_cons_zero, List.set_cons_succ]
  refine heldTake 4 (v := ?_) (by simp only [List.getElem?_toArray, List.getElem?_cons_succ, List.getElem?_cons_zero]; rfl) (by kernel_rfl) (by intro _ _ _ h; exact h) (by rfl) (by assumption) ?_ ?_
  rotate_left
  · intro W hSw; (try dsimp only at hSw); go_simp; try with_reducible rfl
  simp only [Act.put, List.setIfInBounds_toArray, List.set_cons_zero, List.set_cons_succ]
  refine heldTake 5 (v := ?_) (by simp only [List.getElem?_toArray, List.getElem?_cons_succ, List.getElem?_cons_zero]; rfl) (by kernel_rfl) (by intro _ _ _ h; exact h) (by rfl) (by assumption) ?_ ?_
  rotate_left
  · intro W hSw; (try dsimp only at hSw); go_simp; try with_reducible rfl
  simp only [Act.put, List.setIfInBounds_toArray, List.set_cons_zero, List.set_cons_succ]
  refine heldCall 6 (by simp only [List.getElem?_toArray, List.getElem?_cons_succ, List.getElem?_cons_zero]; rfl) (by kernel_rfl) (fun K hK => ?_)
  go_simp
  refine (bound_any 0 (by omega) _).mono ?_
  rintro e w6 ⟨rfl, rfl⟩
  go_wp2_with fail
  refine hK.out _ _ ?_ (fun hHeld => ?_)
  · first | with_reducible exact c2 | with_reducible exact c2e | with_reducible exact c2b
  clear hK K
  (try simp only [Act.put, List.setIfInBounds_toArray, List.set_cons_zero, List.set_cons_succ])
  refine heldTake 7 (v := ?_) (by simp only [List.getElem?_toArray, List.getElem?_cons_succ, List.getElem?_cons_zero]; rfl) (by kernel_rfl) (by intro _ _ _ h; exact h) (by rfl) (by assumption) ?_ ?_
  rotate_left
  · intro W hSw; (try dsimp only at hSw); go_simp; try with_reducible rfl
  simp only [Act.put, List.setIfInBounds_toArray, List.set_cons_zero, List.set_cons_succ]
  refine heldTake 8 (v := ?_) (by simp only [List.getElem?_toArray, List.getElem?_cons_succ, List.getElem?_cons_zero]; rfl) (by kernel_rfl) (by intro _ _ _ h; exact h) (by rfl) (by assumption) ?_ ?_
  rotate_left
  · intro W hSw; (try dsimp only at hSw); go_simp; try with_reducible rfl
  simp only [Act.put, List.setIfInBounds_toArray, List.set_cons_zero, List.set_cons_succ]
  refine heldTake 9 (v := ?_) (by simp only [List.getElem?_toArray, List.getElem?_cons_succ, List.getElem?_cons_zero]; rfl) (by kernel_rfl) (by intro _ _ _ h; exact h) (by rfl) (by assumption) ?_ ?_
  rotate_left
  · intro W hSw; (try dsimp only at hSw); go_simp; try with_reducible rfl
  simp only [Act.put, List.setIfInBounds_toArray, List.set_cons_zero, List.set_cons_succ]
  refine heldLast 10 (by simp only [List.getElem?_toArray, List.getElem?_cons_succ, List.getElem?_cons_zero]; rfl) (by kernel_rfl) rfl (fun K hK => ?_)
  go_wp2_with fail
  refine hK.out _ _ ?_
  clear hK K
  (try simp only [Act.put, List.setIfInBounds_toArray, List.set_cons_zero, List.set_cons_succ])
  refine heldDone (by kernel_rfl) ?_ _
  go_wp2_with fail
  rw [← hW1]
  clear hW1
  refine (rise_any cb mb sl mk D W1 H1.out).mono ?_
  rintro e w6 ⟨mk2, rfl, h6, -, -, heq, hk6⟩
  obtain rfl := heq hi
  have c3 := h6.cells.2.2.2.1
  have H6 := Lib.hid h6
  have HK6 := Lib.hid hk6
  clear h6 hk6 heq hi
  go_wp2_with fail
  go_ret
  exact ⟨rfl, H6.out, HK1.out.trans HK6.out (fun _ _ e => e)⟩
theorem mem_mputC {κ υ : Type} [DecidableEq κ] {l : List (κ × υ)} {x : κ} {v : υ} {p : κ × υ} (h : p ∈ mput l x v) : p = (x, v) ∨ p ∈ l := by
  unfold mput at h
  split at h
  · obtain ⟨q, hq, rfl⟩ := List.mem_map.1 h
    by_cases e : q.1 = x
    · left; simp [e]
    · right; rw [if_neg e]; exact hq
  · rcases List.mem_append.1 h with h | h
    · exact .inr h
    · simp at h; exact .inl h
def HrNew (cb mb : Nat) (sl mk at_ : Int) (w : World) (e : Ending) (w' : World) : Prop :=
  ∃ mk' D', e = .returned (.bool (decide (mk < at_))) ∧ ClkAt w' cb mb sl mk' D' ∧ CkInv sl mk' D' ∧ mk ≤ mk' ∧ (¬ mk < at_ → mk' = mk) ∧ Keeps (fun k => k = cb ∨ k = mb) w w'
theorem zero_src (w : World) : (zeroValue 86).run Tryz.prog w = .ok (.agg #[.int .i64 0, .int .i64 0]) w := by kernel_rfl
theorem CkInv.bound {w : World} {cb mb : Nat} {sl mk : Int} {D : CkD} (h : ClkAt w cb mb sl mk D) (k : ByteArray) : 0 ≤ ((mget D k).getD (0, 0)).1 ∧ ((mget D k).getD (0, 0)).1 ≤ 100000 := by
  cases hm : mget D k with
  | none => simp
  | some p => exact h.bd.2.2.2.2 _ (mget_some_mem hm)
set_option maxRecDepth 20000 in
set_option maxHeartbeats 2000000 in
theorem hear_any (cb mb : Nat) (sl mk at_ : Int) (D : CkD) (w : World) (n : Int) (hn : n = 0 ∨ n = 1) (h : ClkAt w cb mb sl mk D) (hi : CkInv sl mk D) (ha : 0 ≤ at_ ∧ at_ ≤ 100000) :
    Calls Tryz.prog 17 #[.pointer (some ⟨cb, 0, none⟩), .string (nm 115 n), .int .i64 at_, .int .i64 0] w (HrNew cb mb sl mk at_ w) := by
  have QT := Lib.hid (tick_any cb mb sl mk D w h hi)
  have QN := Lib.hid (fun w2 => cname_any hn w2)
  have hok : strOk (nm 115 n) := by show (nm 115 n).size ≤ maxLen; rw [nm_size]; unfold maxLen; omega
  obtain ⟨s, hs⟩ : ∃ s, s = nm 115 n := ⟨_, rfl⟩
  rw [← hs] at QN hok ⊢
  have HI := Lib.hid hi
  have hbd := CkInv.bound h s
  have HBD := Lib.hid h.bd
  clear h hi hs
  go_enter Tryz.func17, Tryz.ntmps17
  go_wp2_with fail
  refine QT.out.mono ?_
  rintro e w2 ⟨rfl, h2, hk2⟩
  have HK2 := Lib.hid hk2
  have H2 := Lib.hid h2
  clear h2 hk2 QT
  go_wp2_with fail
  refine (QN.out w2).mono ?_
  rintro e w3 ⟨rfl, hb3⟩
  have h3 := H2.out.next hb3
  have H3 := Lib.hid h3
  have HK3 := Lib.hid (HK2.out.trans (Keeps.ofBelow hb3 (fun k => k = cb)) (fun _ _ e => e))
  obtain ⟨c0, c1, c2, c3, c4⟩ := h3.cells
  clear hb3 h3 H2 HK2 QN
  have hrr : ∀ k, k = cb → k = cb ∨ k = mb := fun k e => .inl e
  by_cases hlt : mk < at_
  · have hlt2 : ¬ at_ ≤ mk := by omega
    have hd : decide (mk < at_) = true := by simpa using hlt
    have HDC := Lib.hid hd
    clear hd
    have hlo := H3.out.mp.look strKey Tryz.underlying76 zero_src hok
    obtain ⟨old, hold⟩ : ∃ old, old = (mget D s).getD (0, 0) := ⟨_, rfl⟩
    have hval : ((mget D s).map ckVf).getD (.agg #[.int .i64 0, .int .i64 0]) = .agg #[.int .i64 old.1, .int .i64 old.2] := by
      rw [hold]
      cases mget D s <;> rfl
    rw [hval] at hlo
    change (Instr.lookup 76 (.map (some mb)) (.string s) false).run Tryz.prog w3 = .ok (.agg #[.int .i64 old.1, .int .i64 old.2]) w3 at hlo
    rw [← hold] at hbd
    clear hval
    have HOLD := Lib.hid hold
    clear hold
    obtain ⟨o1, o2⟩ := old
    simp only at hlo hbd
    have HLT := Lib.hid hlt
    have hlt3 := H3.out.lt
    go_upto_region 4 with fail
    go_cut [9] (fun s9 wx => s9 = .pointer (some ⟨w3.heap.size, 0, none⟩) ∧ wx = w3.alloc (.cells #[.int .i64 o1, .int .i64 o2] 86))
    case first =>
     as_aux_lemma =>
      go_wp2_with fail
      go_meet
      case rel => exact ⟨rfl, rfl⟩
    case rest =>
    obtain ⟨rfl, hW5⟩ := hcut
    have hb5 : Below w3.heap.size w3 wc := by rw [hW5]; exact (Below.refl _ w3).alloc (Nat.le_refl _) _
    have hs5 : wc.heap[w3.heap.size]? = some (.cells #[.int .i64 o1, .int .i64 o2] 86 (0, 0)) := by rw [hW5]; exact heap_alloc_new w3 _
    clear hW5
    generalize wc = W5 at *
    obtain ⟨sb, hsb⟩ : ∃ sb, w3.heap.size = sb := ⟨_, rfl⟩
    rw [hsb] at hs5 ⊢
    have hnb : cb ≠ sb ∧ mb ≠ sb := by omega
    go_upto_region 5 with fail
    obtain ⟨a2, ha2⟩ : ∃ a2, max o1 at_ = a2 := ⟨_, rfl⟩
    have hab : 0 ≤ a2 ∧ a2 ≤ 100000 := by omega
    have x0 : W5.cell? ⟨sb, 0, none⟩ = some (.int .i64 o1) := by rw [cell_of_row W5 sb 0 _ _ _ hs5]; rfl
    have x1 : W5.cell? ⟨sb, 1, none⟩ = some (.int .i64 o2) := by rw [cell_of_row W5 sb 1 _ _ _ hs5]; rfl
    have g0 : W5.frozen? ⟨sb, 0, none⟩ = false := frozen_block hs5 _
    have g1 : W5.frozen? ⟨sb, 1, none⟩ = false := frozen_block hs5 _
    have h5 := H3.out.next hb5
    have y2 := h5.cells.2.2.1
    have y4 := h5.cells.2.2.2.2
    have hs6 := setCell_blkC hs5 0 (.int .i64 a2)
    have z1 : (W5.setCell ⟨sb, 0, none⟩ (.int .i64 a2)).cell? ⟨sb, 1, none⟩ = some (.int .i64 o2) := by rw [cell_of_row _ sb 1 _ _ _ hs6]; rfl
    have HS5 := Lib.hid hs5
    have H5 := Lib.hid h5
    have HB5 := Lib.hid hb5
    have HNB := Lib.hid hnb
    clear hs5 hb5 hs6 hlo c0 c1 c2 c3 c4 h5 hnb
    go_cut [9] (fun s9 wx => s9 = .pointer (some ⟨sb, 0, none⟩) ∧ ∃ q, wx = ((W5.setCell ⟨sb, 0, none⟩ (.int .i64 a2)).setCell ⟨sb, 1, none⟩ (.int .i64 0)).drewN q)
    case first =>
     as_aux_lemma =>
      have y2b : ∀ v, (W5.setCell ⟨sb, 0, none⟩ v).cell? ⟨cb, 2, none⟩ = some (.int .i64 0) := fun v => (World.cell?_of_block (w := W5) (Below.heap_setCell W5 ⟨sb, 0, none⟩ v cb HNB.out.1)).trans y2
      have y2e : W5.drew.cell? ⟨cb, 2, none⟩ = some (.int .i64 0) := y2
      have y2d : ∀ v, (W5.setCell ⟨sb, 0, none⟩ v).drew.cell? ⟨cb, 2, none⟩ = some (.int .i64 0) := y2b
      refine heldStart 11 (S := fun W => W.cell? ⟨cb, 2, none⟩ = some (.int .i64 0)) (by kernel_rfl) ?_ (fun hHeld => ?_)
      · first | with_reducible exact y2 | with_reducible exact y2e | with_reducible exact y2d _ | with_reducible exact y2b _
      refine heldTake 0 (v := ?_) (by simp only [List.getElem?_toArray, List.getElem?_cons_succ, List.getElem?_cons_zero]; rfl) (by kernel_rfl) (by intro _ _ _ h; exact h) (by rfl) (by assumption) ?_ ?_
      rotate_left
      · intro W hSw; (try dsimp only at hSw); go_simp; try with_reducible rfl
      simp only [Act.put, List.setIfInBounds_toArray, List.set_cons_zero, List.set_cons_succ]
      refine heldTake 2 (v := ?_) (by simp only [List.getElem?_toArray, List.getElem?_cons_succ, List.getElem?_cons_zero]; rfl) (by kernel_rfl) (by intro _ _ _ h; exact h) (by rfl) (by assumption) ?_ ?_
      rotate_left
      · intro W hSw; (try dsimp only at hSw); go_simp; try with_reducible rfl
      simp only [Act.put, List.setIfInBounds_toArray, List.set_cons_zero, List.set_cons_succ]
      refine heldTake 4 (v := ?_) (by simp only [List.getElem?_toArray, List.getElem?_cons_succ, List.getElem?_cons_zero]; rfl) (by kernel_rfl) (by intro _ _ _ h; exact h) (by rfl) (by assumption) ?_ ?_
      rotate_left
      · intro W hSw; (try dsimp only at hSw); go_simp; try with_reducible rfl
      simp only [Act.put, List.setIfInBounds_toArray, List.set_cons_zero, List.set_cons_succ]
      refine heldTake 5 (v := ?_) (by simp only [List.getElem?_toArray, List.getElem?_cons_succ, List.getElem?_cons_zero]; rfl) (by kernel_rfl) (by intro _ _ _ h; exact h) (by rfl) (by assumption) ?_ ?_
      rotate_left
      · intro W hSw; (try dsimp only at hSw); go_simp; try with_reducible rfl
      simp only [Act.put, List.setIfInBounds_toArray, List.set_cons_zero, List.set_cons_succ]
      refine heldTake 6 (v := ?_) (by simp only [List.getElem?_toArray, List.getElem?_cons_succ, List.getElem?_cons_zero]; rfl) (by kernel_rfl) (by intro _ _ _ h; exact h) (by rfl) (by assumption) ?_ ?_
      rotate_left
      · intro W hSw; (try dsimp only at hSw); go_simp; try with_reducible rfl
      simp only [Act.put, List.setIfInBounds_toArray, List.set_cons_zero, List.set_cons_succ]
      refine heldTake 7 (v := ?_) (by simp only [List.getElem?_toArray, List.getElem?_cons_succ, List.getElem?_cons_zero]; rfl) (by kernel_rfl) (by intro _ _ _ h; exact h) (by rfl) (by assumption) ?_ ?_
      rotate_left
      · intro W hSw; (try dsimp only at hSw); go_simp; try with_reducible rfl
      simp only [Act.put, List.setIfInBounds_toArray, List.set_cons_zero, List.set_cons_succ]
      refine heldCall 1 (by simp only [List.getElem?_toArray, List.getElem?_cons_succ, List.getElem?_cons_zero]; rfl) (by kernel_rfl) (fun K hK => ?_)
      go_wp2_with fail
      refine hK.out _ _ ?_ (fun hHeld => ?_)
      · first | with_reducible exact y2 | with_reducible exact y2e | with_reducible exact y2d _ | with_reducible exact y2b _
      clear hK K
      (try simp only [Act.put, List.setIfInBounds_toArray, List.set_cons_zero, List.set_cons_succ])
      refine heldTake 3 (v := ?_) (by simp only [List.getElem?_toArray, List.getElem?_cons_succ, List.getElem?_cons_zero]; rfl) (by kernel_rfl) (by intro _ _ _ h; exact h) (by rfl) (by assumption) ?_ ?_
      rotate_left
      · intro W hSw; (try dsimp only at hSw); go_simp; try with_reducible rfl
      simp only [Act.put, List.setIfInBounds_toArray, List.set_cons_zero, List.set_cons_succ]
      refine heldTake 8 (v := ?_) (by simp only [List.getElem?_toArray, List.getElem?_cons_succ, List.getElem?_cons_zero]; rfl) (by kernel_rfl) (by intro _ _ _ h; exact h) (by rfl) (by assumption) ?_ ?_
      rotate_left
      · intro W hSw; (try dsimp only at hSw); go_simp; try with_reducible rfl
      simp only [Act.put, List.setIfInBounds_toArray, List.set_cons_zero, List.set_cons_succ]
      refine heldCall 9 (by simp only [List.getElem?_toArray, List.getElem?_cons_succ, List.getElem?_cons_zero]; rfl) (by kernel_rfl) (fun K hK => ?_)
      go_simp
      refine hK.out _ _ ?_ (fun hHeld => ?_)
      · first | with_reducible exact y2 | with_reducible exact y2e | with_reducible exact y2d _ | with_reducible exact y2b _
      clear hK K
      (try simp only [Act.put, List.setIfInBounds_toArray, List.set_cons_zero, List.set_cons_succ])
      refine heldTake 10 (v := ?_) (by simp only [List.getElem?_toArray, List.getElem?_cons_succ, List.getElem?_cons_zero]; rfl) (by kernel_rfl) (by intro _ _ _ h; exact h) (by rfl) (by assumption) ?_ ?_
      rotate_left
      · intro W hSw; (try dsimp only at hSw); go_simp; try with_reducible rfl
      simp only [Act.put, List.setIfInBounds_toArray, List.set_cons_zero, List.set_cons_succ]
      refine heldLast 11 (by simp only [List.getElem?_toArray, List.getElem?_cons_succ, List.getElem?_cons_zero]; rfl) (by kernel_rfl) rfl (fun K hK => ?_)
      go_simp
      refine hK.out _ _ ?_
      clear hK K
      (try simp only [Act.put, List.setIfInBounds_toArray, List.set_cons_zero, List.set_cons_succ])
      refine heldDone (by kernel_rfl) ?_ _
      go_wp2_with fail
      go_meet
      case rel => exact ⟨rfl, 1, rfl⟩
    case rest =>
      obtain ⟨rfl, q, hq⟩ := hcut
      have hk7 : Keeps (fun k => k = sb) W5 wc := by
        rw [hq]
        exact (((Keeps.refl (fun k => k = sb) W5).setCell (p := ⟨sb, 0, none⟩) (.inr rfl) _).setCell (p := ⟨sb, 1, none⟩) (.inr rfl) _).drewN q
      have hs7 : wc.heap[sb]? = some (.cells #[.int .i64 a2, .int .i64 0] 86 (0, 0)) := by
        rw [hq]
        have h1 := setCell_blkC (setCell_blkC HS5.out 0 (.int .i64 a2)) 1 (.int .i64 0)
        exact h1
      have h7 := H5.out.keep hk7 HNB.out.1 HNB.out.2
      have hkw : Keeps (fun k => k = cb ∨ k = mb) w wc := by
        have q1 := HK3.out.mono (G := fun k => k = cb ∨ k = mb) (fun k _ e => .inl e)
        have q2 := (Keeps.ofBelow HB5.out (fun k => k = sb)).trans hk7 (fun _ _ e => e)
        exact q1.trans q2 (fun k hk e => by have := HK3.out.size; omega)
      clear hq hk7 x0 x1 g0 g1 y2 y4 z1
      generalize wc = W7 at *
      obtain ⟨w8, hrun, hm8, hk8, hz8⟩ := h7.mp.drew.put strKey Tryz.underlying76 hok (a2, 0)
      change (Instr.mapUpdate 76 (.map (some mb)) (.string s) (.agg #[.int .i64 a2, .int .i64 0])).run Tryz.prog W7.drew = .ok () w8 at hrun
      have hk8b : Keeps (fun k => k = mb) W7 w8 := ⟨hk8.os, hk8.tape, hk8.output, hk8.size, hk8.block⟩
      have h8 : ClkAt w8 cb mb sl mk (mput D s (a2, 0)) := by
        refine ⟨(hk8b.block cb h7.lt.1 h7.lt.2.2).trans h7.blk, hm8, h7.bd.1, h7.bd.2.1, h7.bd.2.2.1, h7.bd.2.2.2.1, fun p hp => ?_⟩
        rcases mem_mputC hp with rfl | hp
        · exact hab
        · exact HBD.out.2.2.2.2 p hp
      have y4 := h7.cells.2.2.2.2
      have H8 := Lib.hid h8
      have HS7 := Lib.hid hs7
      have HKW := Lib.hid (hkw.trans (hk8b.mono (G := fun k => k = cb ∨ k = mb) (fun k _ e => .inr e)) (fun _ _ e => e))
      clear h8 hs7 hkw h7 hm8 hk8 hk8b hz8 HS5 H5 HB5
      have y4e : W7.drew.cell? ⟨cb, 4, none⟩ = some (.map (some mb)) := y4
      go_upto_region 6 with fail
      refine heldStart 6 (S := fun W => W.cell? ⟨cb, 4, none⟩ = some (.map (some mb))) (by kernel_rfl) ?_ (fun hHeld => ?_)
      · first | with_reducible exact y4 | with_reducible exact y4e
      refine heldTake 0 (v := ?_) (by simp only [List.getElem?_toArray, List.getElem?_cons_succ, List.getElem?_cons_zero]; rfl) (by kernel_rfl) (by intro _ _ _ h; exact h) (by rfl) (by assumption) ?_ ?_
      rotate_left
      · intro W hSw; (try dsimp only at hSw); go_simp; try with_reducible rfl
      simp only [Act.put, List.setIfInBounds_toArray, List.set_cons_zero, List.set_cons_succ]
      refine heldTake 1 (v := ?_) (by simp only [List.getElem?_toArray, List.getElem?_cons_succ, List.getElem?_cons_zero]; rfl) (by kernel_rfl) (by intro _ _ _ h; exact h) (by rfl) (by assumption) ?_ ?_
      rotate_left
      · intro W hSw; (try dsimp only at hSw); go_simp; try with_reducible rfl
      simp only [Act.put, List.setIfInBounds_toArray, List.set_cons_zero, List.set_cons_succ]
      refine heldTake 2 (v := ?_) (by simp only [List.getElem?_toArray, List.getElem?_cons_succ, List.getElem?_cons_zero]; rfl) (by kernel_rfl) (by intro _ _ _ h; exact h) (by rfl) (by assumption) ?_ ?_
      rotate_left
      · intro W hSw; (try dsimp only at hSw); go_simp; try with_reducible rfl
      simp only [Act.put, List.setIfInBounds_toArray, List.set_cons_zero, List.set_cons_succ]
      refine heldTake 3 (v := ?_) (by simp only [List.getElem?_toArray, List.getElem?_cons_succ, List.getElem?_cons_zero]; rfl) (by kernel_rfl) (by intro _ _ _ h; exact h) (by rfl) (by assumption) ?_ ?_
      rotate_left
      · intro W hSw; (try dsimp only at hSw); go_simp; try with_reducible rfl
      simp only [Act.put, List.setIfInBounds_toArray, List.set_cons_zero, List.set_cons_succ]
      refine heldTake 4 (v := ?_) (by simp only [List.getElem?_toArray, List.getElem?_cons_succ, List.getElem?_cons_zero]; rfl) (by kernel_rfl) (by intro _ _ _ h; exact h) (by rfl) (by assumption) ?_ ?_
      rotate_left
      · intro W hSw; (try dsimp only at hSw); go_simp; try with_reducible rfl
      simp only [Act.put, List.setIfInBounds_toArray, List.set_cons_zero, List.set_cons_succ]
      refine heldCall 5 (by simp only [List.getElem?_toArray, List.getElem?_cons_succ, List.getElem?_cons_zero]; rfl) (by kernel_rfl) (fun K hK => ?_)
      refine wp_load_row 86 _ rfl sb (by rfl) _ _ _ _ HS7.out Tryz.underlying86 (by rfl) (by kernel_rfl) ?_
      refine hK.out _ _ ?_ (fun hHeld => ?_)
      · first | with_reducible exact y4 | with_reducible exact y4e
      clear hK K
      (try simp only [Act.put, List.setIfInBounds_toArray, List.set_cons_zero, List.set_cons_succ])
      refine heldLast 6 (by simp only [List.getElem?_toArray, List.getElem?_cons_succ, List.getElem?_cons_zero]; rfl) (by kernel_rfl) rfl (fun K hK => ?_)
      go_simp
      refine hK.out _ _ ?_
      clear hK K
      (try simp only [Act.put, List.setIfInBounds_toArray, List.set_cons_zero, List.set_cons_succ])
      refine heldDone (by kernel_rfl) ?_ _
      go_wp2_with fail
      refine (rise_any cb mb sl mk (mput D s (a2, 0)) w8 H8.out).mono ?_
      rintro e w9 ⟨mk2, rfl, h9, hi9, hle9, -, hk9⟩
      have H9 := Lib.hid h9
      have HI9 := Lib.hid hi9
      have HK9 := Lib.hid (HKW.out.trans (hk9.mono (G := fun k => k = cb ∨ k = mb) (fun k _ e => .inl e)) (fun _ _ e => e))
      have HL9 := Lib.hid hle9
      clear h9 hi9 hk9 hle9 hrun
      go_wp2_with fail
      go_ret
      exact ⟨mk2, _, by rw [HDC.out]; rfl, H9.out, HI9.out, HL9.out, fun q => absurd HLT.out q, HK9.out⟩
  · have hle : at_ ≤ mk := by omega
    have hd : decide (mk < at_) = false := by simpa using hlt
    have HDC := Lib.hid hd
    clear hd
    go_wp2_with fail
    go_ret
    exact ⟨mk, D, by rw [HDC.out]; rfl, H3.out, HI.out, Int.le_refl _, fun _ => rfl, HK3.out.mono (fun k _ e => .inl e)⟩
end Go.Proofs.YthbijemihaekiaaGreatDoor
