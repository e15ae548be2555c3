/- Contract of tale.listing. -/
import Derived.Test.YtaollcpoibgblaaDoorTlA
import Derived.Test.YtaollcpoibgblaaDoorLayT
import Derived.Test.YtaollcpoibgblaaDoorKitNs
import Derived.Test.YtaollcpoibgblaaDoorKitZ
import Derived.Laws.CopyOwn
namespace Go.Proofs.YtaollcpoibgblaaDoor
open Go.ChangeShapes Go.WideShapes Go.ChangeAt Go.RowKit
set_option linter.unusedVariables false
set_option linter.unusedSimpArgs false

theorem join_extra : Builder.Extra Tryd.prog Tryd.join_ren where
  sizeBuilder := by kernel_rfl
  liesBuilder := by kernel_rfl
  t5 := Tryd.underlying5
  a5 := Tryd.isAgg5
  z5 := Tryd.sizeOf5
  v5 := Tryd.zeroValue5
  infoByte := by kernel_rfl
  cellsByte := by kernel_rfl
  sizeByte := by kernel_rfl
  neB5 := by decide
def tgs (bl : List Bool) : Nat → List ByteArray
  | 0 => []
  | k + 1 => tgs bl k ++ (if bl.getD k false then [nm 116 k] else [])
theorem tgs3 (x y z : Bool) : tgs [x, y, z] 3 = tagsL x y z := by cases x <;> cases y <;> cases z <;> rfl
theorem join_len (x y z : Bool) : (Lib.join ((tagsL x y z).map (·.data.toList)) [44]).length ≤ 12 := by cases x <;> cases y <;> cases z <;> decide
def LsNew (m : Int) (w : World) (e : Ending) (w' : World) : Prop := ∃ x y z, e = .returned (.string (lstT m x y z)) ∧ Below w.heap.size w w'
def Ls1 (W : World) (rest : Nat) (i : Value) (wr : World) : Prop :=
  ∃ (k : Nat) (bl : List Bool), i = .int .i64 k ∧ k + rest = 3 ∧ Hid (bl.length = 3) ∧ Hid (wr.heap[W.heap.size]? = some (.cells (bl.map Value.bool).toArray 102 (0, 0))) ∧ Hid (Below W.heap.size W wr)
def Ls2 (W : World) (bl : List Bool) (rest : Nat) (s i : Value) (wr : World) : Prop :=
  ∃ (k : Nat) (A : Option Addr) (c : Nat) (T : List ByteArray), i = .int .i64 k ∧ k + rest = 3 ∧ s = .slice A T.length c ∧ Hid (T = tgs bl k) ∧ Hid (wr.ownsRow W.heap.size 9 1 (.slice A T.length c) T.length (T.map Value.string)) ∧ Hid (Below W.heap.size W wr)
theorem tgs_len (bl : List Bool) (k : Nat) : (tgs bl k).length ≤ k := by
  induction k with
  | zero => exact Nat.le_refl _
  | succ k ih => unfold tgs; rw [List.length_append]; split <;> simp <;> omega
theorem tgs_succ (bl : List Bool) (k : Nat) {b : Bool} (h : bl.getD k false = b) : tgs bl (k + 1) = tgs bl k ++ (if b then [nm 116 k] else []) := by rw [← h]; rfl
theorem s_info : (Tryd.prog.info? 9).map (fun i => (i.zero, i.size, i.bytes)) = some (some (.string ⟨#[]⟩), 1, 16) := by kernel_rfl

set_option maxRecDepth 20000 in
set_option maxHeartbeats 4000000 in
theorem listing_any (m v : Int) (w : World) (hm : 0 ≤ m ∧ m ≤ 2) (hv : 0 ≤ v ∧ v ≤ 255) :
    Calls Tryd.prog 33 #[.string (nm 109 m), .int .i64 v] w (LsNew m w) := by
  obtain ⟨mk, hmk⟩ : ∃ mk, mk = nm 109 m := ⟨_, rfl⟩
  have hms : mk.size = 2 := by rw [hmk]; rfl
  rw [← hmk]
  have HMK := Lib.hid hmk
  clear hmk
  go_enter Tryd.func33, Tryd.ntmps33
  go_wp2_with fail
  go_loopg [10] 3 (Ls1 w)
  case atStart => exact ⟨0, [false, false, false], rfl, rfl, Lib.hid rfl, Lib.hid (heap_alloc_new w _), Lib.hid ((Below.refl _ w).alloc (Nat.le_refl _) _)⟩
  case round =>
    obtain ⟨k, bl, rfl, hk, HL, HB, HW⟩ := hrel
    by_cases hk3 : (k : Int) < 3
    · have hlt : k < bl.length := by have := HL.out; omega
      have hc : wr.cell? ⟨w.heap.size, k, none⟩ = some (.bool bl[k]) := by rw [cell_of_row wr _ k _ _ _ HB.out]; simp [hlt]
      have hf : wr.frozen? ⟨w.heap.size, k, none⟩ = false := frozen_block HB.out _
      go_wp2
      go_roundg (gk - 1)
      case measure => omega
      case rel =>
        generalize (bits BinOp.and IntKind.i64 (v / 4 / 2 ^ k) 1 == 1) = b
        have hs : wr.setCell ⟨w.heap.size, k, none⟩ (.bool b) = wr.setRow w.heap.size ((bl.set k b).map Value.bool).toArray := by
          rw [setCell_eq_setRow wr _ k _ _ _ _ HB.out]; simp [List.map_set]
        rw [hs]
        exact ⟨k + 1, bl.set k b, by go_num, by omega, Lib.hid (by rw [List.length_set]; exact HL.out), Lib.hid (setRow_heap wr _ _ _ _ _ HB.out), Lib.hid (below_setRow HW.out (Nat.le_refl _) _)⟩
    · have hk4 : k = 3 := by omega
      obtain ⟨x, y, z, rfl⟩ : ∃ x y z, bl = [x, y, z] := by
        match bl, HL.out with
        | [x, y, z], _ => exact ⟨x, y, z, rfl⟩
      have hb0 := HB.out
      simp only [List.map_cons, List.map_nil] at hb0
      have c0 : wr.cell? ⟨w.heap.size, 0, none⟩ = some (.bool x) := by rw [cell_of_row wr _ _ _ _ _ hb0]; rfl
      have c1 : wr.cell? ⟨w.heap.size, 1, none⟩ = some (.bool y) := by rw [cell_of_row wr _ _ _ _ _ hb0]; rfl
      have c2 : wr.cell? ⟨w.heap.size, 2, none⟩ = some (.bool z) := by rw [cell_of_row wr _ _ _ _ _ hb0]; rfl
      clear hb0
      have he : (Op.equalIn 10000 102 (.agg #[.bool x, .bool y, .bool z]) (.agg #[.bool false, .bool false, .bool false])).run Tryd.prog wr = .ok (!(x || y || z)) wr := by
        cases x <;> cases y <;> cases z <;> kernel_rfl
      obtain ⟨u, hu⟩ : ∃ u, mk ++ (⟨#[59]⟩ : ByteArray) = u := ⟨_, rfl⟩
      have hus : u.size = 3 := by rw [← hu, ByteArray.size_append, hms]; rfl
      have hsz : ¬ 9223372036854775807 < mk.size + (⟨#[59]⟩ : ByteArray).size := by rw [hms]; show ¬ 9223372036854775807 < 2 + 1; omega
      have HU := Lib.hid hu
      by_cases hn : (x || y || z) = false
      · rw [hn] at he
        go_wp2_with fail
        go_ret
        refine ⟨x, y, z, ?_, HW.out⟩
        simp only [Bool.or_eq_false_iff] at hn
        obtain ⟨⟨rfl, rfl⟩, rfl⟩ := hn
        rw [← HU.out, HMK.out]
        rfl
      · have hn' : (x || y || z) = true := by revert hn; cases (x || y || z) <;> simp
        rw [hn'] at he
        clear hn
        go_wp2_with fail
        go_loopg [7, 28] 3 (Ls2 w [x, y, z])
        case atStart => exact ⟨0, none, 0, [], rfl, rfl, rfl, Lib.hid rfl, Lib.hid (World.ownsRow_nil _ _ _ _), HW⟩
        case round =>
          clear HW he
          obtain ⟨k, A, c, T, rfl, hk, rfl, HT, HO, HW⟩ := hrel
          have hTl : T.length ≤ k := by rw [HT.out]; exact tgs_len _ _
          by_cases hk3 : (k : Int) < 3
          · have h3 : k = 0 ∨ k = 1 ∨ k = 2 := by omega
            have hN := Lib.hid (fun w => numbered_any 116 k w (by omega) (by omega))
            have HSZ := Lib.hid HW.out.size
            rcases h3 with rfl | rfl | rfl
            · have hix : ∀ w, (Instr.index 102 (.agg #[.bool x, .bool y, .bool z]) (.int .i64 0)).run Tryd.prog w = .ok (.bool x) w := fun w => by kernel_rfl
              cases x
              · go_wp2
                go_roundg (gk - 1)
                case measure => omega
                case rel => exact ⟨1, A, c, T, rfl, by omega, rfl, Lib.hid (by rw [HT.out, tgs_succ _ 0 (b := false) rfl]; simp), HO, HW⟩
              · go_wp2_with fail
                refine (hN.out _).mono ?_
                rintro e w1 ⟨rfl, rfl⟩
                go_wp2_with (at_builtin; refine wpList_append_cell wr rfl _ _ _ rfl w.heap.size 9 (.string ⟨#[]⟩) 16 Tryd.underlying39 s_info rfl A T.length c _ rfl HO.out _ rfl rfl (by omega) (by unfold maxLen; omega) HSZ.out ?_; intro A5 c5 w5 hown5 hg5 hb5)
                go_roundg (gk - 1)
                case measure => omega
                case rel => exact ⟨1, A5, c5, T ++ [nm 116 0], rfl, by omega, by rw [List.length_append]; rfl, Lib.hid (by rw [HT.out, tgs_succ _ 0 (b := true) rfl]; simp), Lib.hid (by rw [List.length_append, List.map_append]; exact hown5), Lib.hid (HW.out.trans hb5)⟩
            · have hix : ∀ w, (Instr.index 102 (.agg #[.bool x, .bool y, .bool z]) (.int .i64 1)).run Tryd.prog w = .ok (.bool y) w := fun w => by kernel_rfl
              cases y
              · go_wp2
                go_roundg (gk - 1)
                case measure => omega
                case rel => exact ⟨2, A, c, T, rfl, by omega, rfl, Lib.hid (by rw [HT.out, tgs_succ _ 1 (b := false) rfl]; simp), HO, HW⟩
              · go_wp2_with fail
                refine (hN.out _).mono ?_
                rintro e w1 ⟨rfl, rfl⟩
                go_wp2_with (at_builtin; refine wpList_append_cell wr rfl _ _ _ rfl w.heap.size 9 (.string ⟨#[]⟩) 16 Tryd.underlying39 s_info rfl A T.length c _ rfl HO.out _ rfl rfl (by omega) (by unfold maxLen; omega) HSZ.out ?_; intro A5 c5 w5 hown5 hg5 hb5)
                go_roundg (gk - 1)
                case measure => omega
                case rel => exact ⟨2, A5, c5, T ++ [nm 116 1], rfl, by omega, by rw [List.length_append]; rfl, Lib.hid (by rw [HT.out, tgs_succ _ 1 (b := true) rfl]; simp), Lib.hid (by rw [List.length_append, List.map_append]; exact hown5), Lib.hid (HW.out.trans hb5)⟩
            · have hix : ∀ w, (Instr.index 102 (.agg #[.bool x, .bool y, .bool z]) (.int .i64 2)).run Tryd.prog w = .ok (.bool z) w := fun w => by kernel_rfl
              cases z
              · go_wp2
                go_roundg (gk - 1)
                case measure => omega
                case rel => exact ⟨3, A, c, T, rfl, by omega, rfl, Lib.hid (by rw [HT.out, tgs_succ _ 2 (b := false) rfl]; simp), HO, HW⟩
              · go_wp2_with fail
                refine (hN.out _).mono ?_
                rintro e w1 ⟨rfl, rfl⟩
                go_wp2_with (at_builtin; refine wpList_append_cell wr rfl _ _ _ rfl w.heap.size 9 (.string ⟨#[]⟩) 16 Tryd.underlying39 s_info rfl A T.length c _ rfl HO.out _ rfl rfl (by omega) (by unfold maxLen; omega) HSZ.out ?_; intro A5 c5 w5 hown5 hg5 hb5)
                go_roundg (gk - 1)
                case measure => omega
                case rel => exact ⟨3, A5, c5, T ++ [nm 116 2], rfl, by omega, by rw [List.length_append]; rfl, Lib.hid (by rw [HT.out, tgs_succ _ 2 (b := true) rfl]; simp), Lib.hid (by rw [List.length_append, List.map_append]; exact hown5), Lib.hid (HW.out.trans hb5)⟩
          · have hk4 : k = 3 := by omega
            subst hk4
            obtain ⟨d, hd⟩ : ∃ d : ByteArray, d = ⟨(Lib.join (T.map (·.data.toList)) [44]).toArray⟩ := ⟨_, rfl⟩
            have hdl : (Lib.join (T.map (·.data.toList)) [44]).length ≤ 12 := by
              rw [HT.out, tgs3]
              exact join_len x y z
            have hds : ¬ 9223372036854775807 < u.size + d.size := by
              have : d.size ≤ 12 := by rw [hd]; exact hdl
              omega
            have HF : Hid (u ++ d = lstT m x y z) := Lib.hid (by rw [hd, HT.out, tgs3, ← HU.out, HMK.out]; rfl)
            have hT1 : T.length ≤ 3 := hTl
            have hJ : Calls Tryd.prog 47 #[.slice A T.length c, .string ⟨#[44]⟩] wr fun e w' => e = .returned (.string d) ∧ Below wr.heap.size wr w' := by
              rw [hd]
              rcases Nat.eq_zero_or_pos T.length with h0 | h0
              · have e : T = [] := List.length_eq_zero_iff.1 h0
                rw [e]
                refine (Any.strings_Join_none Tryd.join join_extra A c ⟨#[44]⟩ wr).mono ?_
                rintro e w1 ⟨rfl, rfl⟩
                exact ⟨rfl, Below.refl _ _⟩
              · obtain ⟨g, cp, e1, e2, e3⟩ := HO.out.form h0
                injection e1 with e1 e4 e5
                subst e1
                obtain ⟨cur, g1, g2, g3, -⟩ := own_block HO.out
                refine Any.strings_Join Tryd.join join_extra g 0 c T ⟨#[44]⟩ wr (fun j x hx => ?_) e3 (by omega) g3 (Nat.le_trans hdl (by omega))
                have := HO.out.cells (g := g) rfl j (.string x) (by rw [List.getElem?_map, hx]; rfl)
                simpa [Addr.add_mid] using this
            have HJ := Lib.hid hJ
            clear hd hdl hJ
            go_wp2_with fail
            refine HJ.out.mono ?_
            rintro e w6 ⟨rfl, hb6⟩
            go_wp2
            go_ret
            rw [HF.out]
            exact ⟨x, y, z, rfl, HW.out.trans (hb6.mono HW.out.size)⟩
end Go.Proofs.YtaollcpoibgblaaDoor
