/- Contracts of the intake: New, Mark, refused. -/
import Derived.Test.YthbijemihaekiaaGreatDoorIkA
namespace Go.Proofs.YthbijemihaekiaaGreatDoor
open Go.ChangeShapes Go.WideShapes Go.ChangeAt Go.RowKit
set_option linter.unusedVariables false
set_option linter.unusedSimpArgs false

def InNew (sl : Int) (w : World) (e : Ending) (w' : World) : Prop :=
  ∃ x F, e = .returned (.pointer (some ⟨x.ib, 0, none⟩)) ∧ Objs w w' w.heap.size (inObs x) F ∧ InOk x [] ∧ x.L = [] ∧ x.mark = -1
theorem MapIs.madeAt {κ υ : Type} [DecidableEq κ] (w : World) (kf : κ → Value) (vf : υ → Value) (Ok : κ → Prop) : MapIs (w.alloc (.map #[] 0)) kf vf Ok w.heap.size [] := MapIs.made w kf vf Ok
set_option maxRecDepth 20000 in
set_option maxHeartbeats 1000000 in
theorem inew_any (sl : Int) (hs : 0 ≤ sl ∧ sl ≤ 255) (w : World) : Calls Tryz.prog 6 #[.int .i64 sl, .int .i64 0] w (InNew sl w) := by
  have Q1 := Lib.hid (cnew_any sl hs w)
  have hmm := @run_makeMap Tryz.prog
  go_enter Tryz.func6, Tryz.ntmps6
  go_wp2_with fail
  refine Q1.out.mono ?_
  rintro e w1 ⟨cb, cm, rfl, h1, hc1, hc2, hb1⟩
  have H1 := Lib.hid h1
  have HB1 := Lib.hid hb1
  have HC := Lib.hid (And.intro hc1 hc2)
  clear h1 hb1 hc1 hc2 Q1
  go_wp2_with fail
  refine (dnew_any w1).mono ?_
  rintro e w2 hN
  obtain ⟨sb, G, rfl, h2, hg, hb2⟩ := hN
  have H2 := Lib.hid h2
  have HB2 := Lib.hid hb2
  have HG := Lib.hid hg
  clear h2 hb2 hg
  go_wp2_with fail
  go_ret
  have o0 : Objs w w w.heap.size [] (fun _ _ => False) := Objs.nil (Nat.le_refl _) (Below.refl _ _)
  obtain ⟨F1, o1⟩ := o0.new (ckOb cb cm sl (-1) []) HB1.out ⟨rfl, H1.out⟩ (by rintro k (rfl | rfl); exact HC.out.1; exact HC.out.2)
  obtain ⟨F2, o2⟩ := o1.new (setOb sb (fun _ => [])) HB2.out H2.out HG.out
  obtain ⟨F3, o3⟩ := o2.new (mapOb idKf boolVf idOk w2.heap.size []) ((Below.refl _ w2).alloc (Nat.le_refl _) (.map #[] 0)) ⟨rfl, MapIs.made w2 idKf boolVf idOk⟩ (by rintro k rfl; exact Nat.le_refl _)
  obtain ⟨F4, o4⟩ := o3.new (mapOb strKf boolVf strOk (w2.alloc (.map #[] 0)).heap.size []) ((Below.refl _ _).alloc (Nat.le_refl _) (.map #[] 0)) ⟨rfl, MapIs.made (w2.alloc (.map #[] 0)) strKf boolVf strOk⟩ (by rintro k rfl; exact Nat.le_refl _)
  obtain ⟨x, hx⟩ : ∃ x : InV, x = ⟨((w2.alloc (.map #[] 0)).alloc (.map #[] 0)).heap.size, cb, cm, sb, w2.heap.size, (w2.alloc (.map #[] 0)).heap.size, sl, -1, [], fun _ => [], none, 0, [], none, 0, [], []⟩ := ⟨_, rfl⟩
  obtain ⟨F5, o5⟩ := o4.new (kOb x.ib (inBlk x)) ((Below.refl _ _).alloc (Nat.le_refl _) (inBlk x)) ⟨rfl, by rw [hx]; exact heap_alloc_new _ _⟩ (by rintro k rfl; rw [hx]; exact Nat.le_refl _)
  obtain ⟨F6, o6⟩ := o5.add (rowOb none 0 []) (F' := fun k => (Value.slice none 0 0).ownBlock = some k) ⟨rfl, World.ownsRow_nil _ _ _ _⟩ (fun j _ k _ h => by cases h) (fun k h => by cases h)
  obtain ⟨F7, o7⟩ := o6.add (rowOb none 0 []) (F' := fun k => (Value.slice none 0 0).ownBlock = some k) ⟨rfl, World.ownsRow_nil _ _ _ _⟩ (fun j _ k _ h => by cases h) (fun k h => by cases h)
  refine ⟨x, F7, ?_, ?_, ?_, by rw [hx], by rw [hx]⟩
  · rw [hx]; simp
  · have e : inObs x = [ckOb cb cm sl (-1) []] ++ [setOb sb (fun _ => [])] ++ [mapOb idKf boolVf idOk w2.heap.size []] ++ [mapOb strKf boolVf strOk (w2.alloc (.map #[] 0)).heap.size []] ++ [kOb x.ib (inBlk x)] ++ [rowOb none 0 []] ++ [rowOb none 0 []] := by
      rw [hx]; rfl
    rw [e]
    have e2 : ((w2.alloc (.map #[] 0)).alloc (.map #[] 0)).alloc (inBlk x) = ((w2.alloc (.map #[] 0)).alloc (.map #[] 0)).alloc (.cells #[.pointer (some ⟨cb, 0, none⟩), .pointer (some ⟨sb, 0, none⟩), .slice none 0 0, .slice none 0 0, .map (some w2.heap.size), .map (some (w2.heap.size + 1))] 60) := by
      rw [hx]; simp [inBlk]
    rw [e2] at o7
    exact o7
  · rw [hx]
    exact ⟨.inl rfl, SetOk.nil, (fun k h => by simp [mget] at h), (fun e h => (by cases h)), rfl, by simp⟩

theorem in_cells {w0 w : World} {B : Nat} {x : InV} {F : Nat → Nat → Prop} (h : Objs w0 w B (inObs x) F) : w.cell? ⟨x.ib, 0, none⟩ = some (.pointer (some ⟨x.cb, 0, none⟩)) ∧ w.cell? ⟨x.ib, 1, none⟩ = some (.pointer (some ⟨x.sb, 0, none⟩)) ∧ w.cell? ⟨x.ib, 2, none⟩ = some (.slice x.TA x.T.length x.Tc) ∧ w.cell? ⟨x.ib, 3, none⟩ = some (.slice x.LA x.L.length x.Lc) ∧
    w.cell? ⟨x.ib, 4, none⟩ = some (.map (some x.lb)) ∧ w.cell? ⟨x.ib, 5, none⟩ = some (.map (some x.gb)) := by
  have hb : w.heap[x.ib]? = some (inBlk x) := (h.get (i := 4) rfl).2
  unfold inBlk at hb
  refine ⟨?_, ?_, ?_, ?_, ?_, ?_⟩ <;> rw [cell_of_row w x.ib _ _ _ _ hb] <;> rfl
theorem imark_any {w0 w : World} {B : Nat} {x : InV} {F : Nat → Nat → Prop} (h : Objs w0 w B (inObs x) F) : Calls Tryz.prog 7 #[.pointer (some ⟨x.ib, 0, none⟩)] w fun e w' => e = .returned (.int .i64 x.mark) ∧ w = w' := by
  obtain ⟨c0, -⟩ := in_cells h
  have Q := Lib.hid (mark_any x.cb x.cm x.sl x.mark x.D w (h.get (i := 0) rfl).2)
  clear h
  go_enter Tryz.func7, Tryz.ntmps7
  go_wp2_with fail
  refine Q.out.mono ?_
  rintro e w2 ⟨rfl, rfl⟩
  go_wp2
  go_ret
  exact ⟨rfl, rfl⟩

theorem ev_person {e : EvV} (h : EvOk e) : e.person.size ≤ maxLen := by
  have hm : 2 ≤ maxLen := by unfold maxLen; omega
  obtain ⟨h1, -⟩ := h
  rcases h1 with ⟨-, ⟨a, -, -, hp⟩, -⟩ | ⟨-, hp, -⟩ | ⟨-, hp, -⟩ | ⟨-, hp, -⟩ | ⟨-, ⟨a, -, -, hp⟩, -⟩ | ⟨-, ⟨a, -, -, hp⟩, -⟩ <;> rw [hp] <;> first | (rw [nm_size]; exact hm) | (show 0 ≤ maxLen; omega)
theorem ev_src {e : EvV} (h : EvOk e) : e.src.size ≤ maxLen := by
  have hm : 2 ≤ maxLen := by unfold maxLen; omega
  rcases h.2.1 with hp | hp <;> rw [hp, nm_size] <;> exact hm
theorem zero_bool (w : World) : (zeroValue 4).run Tryz.prog w = .ok (.bool false) w := by kernel_rfl
def RfNew (w : World) (e : Ending) (w' : World) : Prop := e = .returned (.tuple #[.int .i64 0, .bool false]) ∧ Below w.heap.size w w'
set_option maxRecDepth 20000 in
set_option maxHeartbeats 2000000 in
theorem refused_any {w0 w : World} {B : Nat} {x : InV} {F : Nat → Nat → Prop} {E : List EvV} (h : Objs w0 w B (inObs x) F) (hok : InOk x E) (e : EvV) (he : EvOk e) (hn : 1 ≤ e.num ∧ e.num ≤ 1000) (hnew : ∀ y ∈ E, ¬ (y.src = e.src ∧ y.num = e.num)) (hmx : MxAt w) :
    Calls Tryz.prog 16 #[.pointer (some ⟨x.ib, 0, none⟩), evVal e] w (RfNew w) := by
  change Calls Tryz.prog 16 #[.pointer (some ⟨x.ib, 0, none⟩), .agg #[.string e.src, .int .i64 e.num, .int .i64 e.at_, .int .i64 e.kind, .string e.person, .string e.item, .int .i64 e.value, .string e.text]] w (RfNew w)
  have hnm : ¬ memR (x.F e.src) e.num := fun hm => by
    have h1 := ((hok.had.mem e.src e.num).1 hm).1
    obtain ⟨y, hy, hye⟩ := List.mem_map.1 h1
    injection hye with e1 e2
    exact hnew y (hok.sub y hy) ⟨e1, e2⟩
  have hlF := hok.had.len e.src
  rw [List.length_map] at hlF
  have hT60 : x.T.length ≤ 60 := by have := hok.cnt; have := hok.bd; omega
  obtain ⟨W1, hW1⟩ : ∃ W1, W1 = w.alloc (.cells #[.string e.src, .int .i64 e.num, .int .i64 e.at_, .int .i64 e.kind, .string e.person, .string e.item, .int .i64 e.value, .string e.text] 41) := ⟨_, rfl⟩
  have hbx : W1.heap[w.heap.size]? = some (.cells #[.string e.src, .int .i64 e.num, .int .i64 e.at_, .int .i64 e.kind, .string e.person, .string e.item, .int .i64 e.value, .string e.text] 41 (0, 0)) := by rw [hW1]; exact heap_alloc_new w _
  have hb1 : Below w.heap.size w W1 := by rw [hW1]; exact (Below.refl _ w).alloc (Nat.le_refl _) _
  have hz1 : w.heap.size < W1.heap.size := by rw [hW1]; simp
  have Q := Lib.hid (may_any e W1 he hn (hmx.next hb1))
  have H1 := Lib.hid (h.below hb1)
  have HBX := Lib.hid hbx
  have HB1 := Lib.hid hb1
  have HZ1 := Lib.hid hz1
  have HNM := Lib.hid hnm
  have hps := ev_person he
  have hss := ev_src he
  have HHN := Lib.hid hn
  clear h hbx hb1 hz1 hnm hok hnew hmx he
  go_enter Tryz.func16, Tryz.ntmps16
  go_upto_region 1 with fail
  rw [← hW1]
  clear hW1
  go_wp2_with (refine wpList_load_row rfl _ _ rfl _ (by rfl) _ _ _ _ HBX.out Tryz.underlying41 (by rfl) (by kernel_rfl) ?_)
  refine Q.out.mono ?_
  rintro r w2 ⟨rfl, hb2⟩
  have h2 := H1.out.below hb2
  have hbx2 := (hb2.block w.heap.size HZ1.out).trans HBX.out
  have hbw2 : Below w.heap.size w w2 := HB1.out.trans (hb2.mono HB1.out.size)
  obtain ⟨i0, i1, i2, i3, i4, i5⟩ := in_cells h2
  have e0 : w2.cell? ⟨w.heap.size, 0, none⟩ = some (.string e.src) := by rw [cell_of_row w2 w.heap.size 0 _ _ _ hbx2]; rfl
  have e1 : w2.cell? ⟨w.heap.size, 1, none⟩ = some (.int .i64 e.num) := by rw [cell_of_row w2 w.heap.size 1 _ _ _ hbx2]; rfl
  have e4 : w2.cell? ⟨w.heap.size, 4, none⟩ = some (.string e.person) := by rw [cell_of_row w2 w.heap.size 4 _ _ _ hbx2]; rfl
  have hlo : (Instr.lookup 58 (.map (some x.gb)) (.string e.person) false).run Tryz.prog w2 = .ok (.bool false) w2 := (h2.get (i := 3) rfl).2.look strKey Tryz.underlying58 zero_bool hps
  have hloD : (Instr.lookup 58 (.map (some x.gb)) (.string e.person) false).run Tryz.prog w2.drew = .ok (.bool false) w2.drew := (h2.get (i := 3) rfl).2.drew.look strKey Tryz.underlying58 zero_bool hps
  have HS := Lib.hid (h2.get (i := 1) rfl)
  have HBW2 := Lib.hid hbw2
  clear h2 hbx2 hbw2 hb2 Q H1 HBX HB1
  go_upto_region 2 with fail
  go_cut [6] (fun s6 wx => s6 = .bool false ∧ ∃ n, wx = w2.drewN n)
  case first =>
    refine heldStart 13 (S := fun W => W.cell? ⟨x.ib, 5, none⟩ = some (.map (some x.gb)) ∧ W.cell? ⟨w.heap.size, 4, none⟩ = some (.string e.person) ∧ (Instr.lookup 58 (.map (some x.gb)) (.string e.person) false).run Tryz.prog W = .ok (.bool false) W) (by kernel_rfl) ?_ (fun hHeld => ?_)
    · first | exact ⟨i5, e4, hloD⟩ | exact ⟨i5, e4, hlo⟩
    refine heldTake 0 (v := ?_) (by simp only [List.getElem?_toArray, List.getElem?_cons_succ, List.getElem?_cons_zero]; rfl) (by kernel_rfl) (by intro _ _ _ h; exact h) (by rfl) (by assumption) ?_ ?_
    rotate_left
    · intro W hSw; (try dsimp only at hSw); go_simp; try with_reducible rfl
    simp only [Act.put, List.setIfInBounds_toArray, List.set_cons_zero, List.set_cons_succ]
    refine heldTake 1 (v := ?_) (by simp only [List.getElem?_toArray, List.getElem?_cons_succ, List.getElem?_cons_zero]; rfl) (by kernel_rfl) (by intro _ _ _ h; exact h) (by rfl) (by assumption) ?_ ?_
    rotate_left
    · intro W hSw; (try dsimp only at hSw); go_simp; try with_reducible rfl
    simp only [Act.put, List.setIfInBounds_toArray, List.set_cons_zero, List.set_cons_succ]
    refine heldTake 2 (v := ?_) (by simp only [List.getElem?_toArray, List.getElem?_cons_succ, List.getElem?_cons_zero]; rfl) (by kernel_rfl) (by intro _ _ _ h; exact h) (by rfl) (by assumption) ?_ ?_
    rotate_left
    · intro W hSw; (try dsimp only at hSw); go_simp; try with_reducible rfl
    simp only [Act.put, List.setIfInBounds_toArray, List.set_cons_zero, List.set_cons_succ]
    refine heldTake 3 (v := ?_) (by simp only [List.getElem?_toArray, List.getElem?_cons_succ, List.getElem?_cons_zero]; rfl) (by kernel_rfl) (by intro _ _ _ h; exact h) (by rfl) (by assumption) ?_ ?_
    rotate_left
    · intro W hSw; (try dsimp only at hSw); go_simp; try with_reducible rfl
    simp only [Act.put, List.setIfInBounds_toArray, List.set_cons_zero, List.set_cons_succ]
    refine heldTake 4 (v := ?_) (by simp only [List.getElem?_toArray, List.getElem?_cons_succ, List.getElem?_cons_zero]; rfl) (by kernel_rfl) (by intro _ _ _ h; exact h) (by rfl) (by assumption) ?_ ?_
    rotate_left
    · intro W hSw; (try dsimp only at hSw); go_simp; try with_reducible rfl
    simp only [Act.put, List.setIfInBounds_toArray, List.set_cons_zero, List.set_cons_succ]
    refine heldTake 5 (v := ?_) (by simp only [List.getElem?_toArray, List.getElem?_cons_succ, List.getElem?_cons_zero]; rfl) (by kernel_rfl) (by intro _ _ _ h; exact h) (by rfl) (by assumption) ?_ ?_
    rotate_left
    · intro W hSw; (try dsimp only at hSw); go_simp; try with_reducible rfl
    simp only [Act.put, List.setIfInBounds_toArray, List.set_cons_zero, List.set_cons_succ]
    refine heldTake 6 (v := ?_) (by simp only [List.getElem?_toArray, List.getElem?_cons_succ, List.getElem?_cons_zero]; rfl) (by kernel_rfl) (by intro _ _ _ h; exact h) (by rfl) (by assumption) ?_ ?_
    rotate_left
    · intro W hSw; (try dsimp only at hSw); go_simp; try with_reducible rfl
    simp only [Act.put, List.setIfInBounds_toArray, List.set_cons_zero, List.set_cons_succ]
    refine heldTake 7 (v := ?_) (by simp only [List.getElem?_toArray, List.getElem?_cons_succ, List.getElem?_cons_zero]; rfl) (by kernel_rfl) (by intro _ _ _ h; exact h) (by rfl) (by assumption) ?_ ?_
    rotate_left
    · intro W hSw; (try dsimp only at hSw); go_simp; try with_reducible rfl
    simp only [Act.put, List.setIfInBounds_toArray, List.set_cons_zero, List.set_cons_succ]
    refine heldSkip 8 (by simp only [List.getElem?_toArray, List.getElem?_cons_succ, List.getElem?_cons_zero]; rfl) (by kernel_rfl) (by intro _ _ _ h; exact h) (by rfl) (by assumption) ?_
    simp only [Act.put, List.setIfInBounds_toArray, List.set_cons_zero, List.set_cons_succ]
    refine heldSkip 9 (by simp only [List.getElem?_toArray, List.getElem?_cons_succ, List.getElem?_cons_zero]; rfl) (by kernel_rfl) (by intro _ _ _ h; exact h) (by rfl) (by assumption) ?_
    simp only [Act.put, List.setIfInBounds_toArray, List.set_cons_zero, List.set_cons_succ]
    refine heldSkip 10 (by simp only [List.getElem?_toArray, List.getElem?_cons_succ, List.getElem?_cons_zero]; rfl) (by kernel_rfl) (by intro _ _ _ h; exact h) (by rfl) (by assumption) ?_
    simp only [Act.put, List.setIfInBounds_toArray, List.set_cons_zero, List.set_cons_succ]
    refine heldTake 11 (v := ?_) (by simp only [List.getElem?_toArray, List.getElem?_cons_succ, List.getElem?_cons_zero]; rfl) (by kernel_rfl) (by intro _ _ _ h; exact h) (by rfl) (by assumption) ?_ ?_
    rotate_left
    · intro W hSw; (try dsimp only at hSw); go_simp; try with_reducible rfl
    simp only [Act.put, List.setIfInBounds_toArray, List.set_cons_zero, List.set_cons_succ]
    refine heldTake 12 (v := ?_) (by simp only [List.getElem?_toArray, List.getElem?_cons_succ, List.getElem?_cons_zero]; rfl) (by kernel_rfl) (by intro _ _ _ h; exact h) (by rfl) (by assumption) ?_ ?_
    rotate_left
    · intro W hSw; (try dsimp only at hSw); go_simp; try with_reducible rfl
    simp only [Act.put, List.setIfInBounds_toArray, List.set_cons_zero, List.set_cons_succ]
    refine heldDone (by kernel_rfl) ?_ _
    go_wp2_with fail
    go_meet
    case rel => exact ⟨rfl, 1, rfl⟩
  case rest =>
    obtain ⟨rfl, n, hn⟩ := hcut
    have hbn : Below w2.heap.size w2 wc := by rw [hn]; exact below_drewN (Below.refl _ _) n
    have k0 : wc.cell? ⟨w.heap.size, 0, none⟩ = some (.string e.src) := by rw [hn]; exact e0
    have k1 : wc.cell? ⟨w.heap.size, 1, none⟩ = some (.int .i64 e.num) := by rw [hn]; exact e1
    have j1 : wc.cell? ⟨x.ib, 1, none⟩ = some (.pointer (some ⟨x.sb, 0, none⟩)) := by rw [hn]; exact i1
    have j2 : wc.cell? ⟨x.ib, 2, none⟩ = some (.slice x.TA x.T.length x.Tc) := by rw [hn]; exact i2
    have hset : SetObj wc x.sb (F 1) x.F := (SetObj.own x.sb x.F).below HS.out hbn
    have HBC := Lib.hid (HBW2.out.trans (hbn.mono HBW2.out.size))
    clear e0 e1 e4 i0 i1 i2 i3 i4 i5 hlo hloD hn hbn HBW2 HS
    generalize wc = W3 at *
    have hhas := has_any x.sb (F 1) x.F e.src e.num W3.drew ((SetObj.own x.sb x.F).below hset ((Below.refl _ W3).drew)) hss (by omega)
    rw [show decide (memR (x.F e.src) e.num) = false by simp [HNM.out]] at hhas
    have HHAS := Lib.hid hhas
    clear hhas hset
    have hT : ¬ (1048576 : Int) ≤ (x.T.length : Int) := by omega
    go_upto_region 5 with fail
    refine heldStart 10 (S := fun W => W.cell? ⟨x.ib, 1, none⟩ = some (.pointer (some ⟨x.sb, 0, none⟩)) ∧ W.cell? ⟨w.heap.size, 0, none⟩ = some (.string e.src) ∧ W.cell? ⟨w.heap.size, 1, none⟩ = some (.int .i64 e.num)) (by kernel_rfl) ?_ (fun hHeld => ?_)
    · first | exact ⟨j1b, k0b, k1b⟩ | exact ⟨j1, k0, k1⟩
    refine heldTake 0 (v := ?_) (by simp only [List.getElem?_toArray, List.getElem?_cons_succ, List.getElem?_cons_zero]; rfl) (by kernel_rfl) (by intro _ _ _ h; exact h) (by rfl) (by assumption) ?_ ?_
    rotate_left
    · intro W hSw; (try dsimp only at hSw); go_simp; try with_reducible rfl
    simp only [Act.put, List.setIfInBounds_toArray, List.set_cons_zero, List.set_cons_succ]
    refine heldTake 1 (v := ?_) (by simp only [List.getElem?_toArray, List.getElem?_cons_succ, List.getElem?_cons_zero]; rfl) (by kernel_rfl) (by intro _ _ _ h; exact h) (by rfl) (by assumption) ?_ ?_
    rotate_left
    · intro W hSw; (try dsimp only at hSw); go_simp; try with_reducible rfl
    simp only [Act.put, List.setIfInBounds_toArray, List.set_cons_zero, List.set_cons_succ]
    refine heldTake 2 (v := ?_) (by simp only [List.getElem?_toArray, List.getElem?_cons_succ, List.getElem?_cons_zero]; rfl) (by kernel_rfl) (by intro _ _ _ h; exact h) (by rfl) (by assumption) ?_ ?_
    rotate_left
    · intro W hSw; (try dsimp only at hSw); go_simp; try with_reducible rfl
    simp only [Act.put, List.setIfInBounds_toArray, List.set_cons_zero, List.set_cons_succ]
    refine heldTake 3 (v := ?_) (by simp only [List.getElem?_toArray, List.getElem?_cons_succ, List.getElem?_cons_zero]; rfl) (by kernel_rfl) (by intro _ _ _ h; exact h) (by rfl) (by assumption) ?_ ?_
    rotate_left
    · intro W hSw; (try dsimp only at hSw); go_simp; try with_reducible rfl
    simp only [Act.put, List.setIfInBounds_toArray, List.set_cons_zero, List.set_cons_succ]
    refine heldTake 4 (v := ?_) (by simp only [List.getElem?_toArray, List.getElem?_cons_succ, List.getElem?_cons_zero]; rfl) (by kernel_rfl) (by intro _ _ _ h; exact h) (by rfl) (by assumption) ?_ ?_
    rotate_left
    · intro W hSw; (try dsimp only at hSw); go_simp; try with_reducible rfl
    simp only [Act.put, List.setIfInBounds_toArray, List.set_cons_zero, List.set_cons_succ]
    refine heldTake 5 (v := ?_) (by simp only [List.getElem?_toArray, List.getElem?_cons_succ, List.getElem?_cons_zero]; rfl) (by kernel_rfl) (by intro _ _ _ h; exact h) (by rfl) (by assumption) ?_ ?_
    rotate_left
    · intro W hSw; (try dsimp only at hSw); go_simp; try with_reducible rfl
    simp only [Act.put, List.setIfInBounds_toArray, List.set_cons_zero, List.set_cons_succ]
    refine heldTake 6 (v := ?_) (by simp only [List.getElem?_toArray, List.getElem?_cons_succ, List.getElem?_cons_zero]; rfl) (by kernel_rfl) (by intro _ _ _ h; exact h) (by rfl) (by assumption) ?_ ?_
    rotate_left
    · intro W hSw; (try dsimp only at hSw); go_simp; try with_reducible rfl
    simp only [Act.put, List.setIfInBounds_toArray, List.set_cons_zero, List.set_cons_succ]
    refine heldTake 7 (v := ?_) (by simp only [List.getElem?_toArray, List.getElem?_cons_succ, List.getElem?_cons_zero]; rfl) (by kernel_rfl) (by intro _ _ _ h; exact h) (by rfl) (by assumption) ?_ ?_
    rotate_left
    · intro W hSw; (try dsimp only at hSw); go_simp; try with_reducible rfl
    simp only [Act.put, List.setIfInBounds_toArray, List.set_cons_zero, List.set_cons_succ]
    refine heldCall 8 (by simp only [List.getElem?_toArray, List.getElem?_cons_succ, List.getElem?_cons_zero]; rfl) (by kernel_rfl) (fun K hK => ?_)
    go_simp
    refine HHAS.out.mono ?_
    rintro r w6 ⟨rfl, hb6⟩
    have HB6 := Lib.hid hb6
    have j1b := (hb6.cell (p := ⟨x.ib, 1, none⟩) (World.block_lt_of_cell? _ _ j1)).trans j1
    have k0b := (hb6.cell (p := ⟨w.heap.size, 0, none⟩) (World.block_lt_of_cell? _ _ k0)).trans k0
    have k1b := (hb6.cell (p := ⟨w.heap.size, 1, none⟩) (World.block_lt_of_cell? _ _ k1)).trans k1
    go_wp2_with fail
    refine hK.out _ _ ?_ (fun hHeld => ?_)
    · first | exact ⟨j1b, k0b, k1b⟩ | exact ⟨j1, k0, k1⟩
    clear hK K
    (try simp only [Act.put, List.setIfInBounds_toArray, List.set_cons_zero, List.set_cons_succ])
    refine heldTake 9 (v := ?_) (by simp only [List.getElem?_toArray, List.getElem?_cons_succ, List.getElem?_cons_zero]; rfl) (by kernel_rfl) (by intro _ _ _ h; exact h) (by rfl) (by assumption) ?_ ?_
    rotate_left
    · intro W hSw; (try dsimp only at hSw); go_simp; try with_reducible rfl
    simp only [Act.put, List.setIfInBounds_toArray, List.set_cons_zero, List.set_cons_succ]
    refine heldDone (by kernel_rfl) ?_ _
    go_wp2_with fail
    go_ret2
    exact ⟨rfl, HBC.out.drew.trans (HB6.out.mono HBC.out.drew.size)⟩
end Go.Proofs.YthbijemihaekiaaGreatDoor
