/- Contracts of slices.Insert and slices.Delete at a row of ranges that is the caller's own. -/
import Derived.Test.YthbijemihaekiaaGreatDoorKitNs
import Derived.Test.YthbijemihaekiaaGreatDoorDdP
import Derived.Test.YthbijemihaekiaaGreatDoorKitR
import Derived.Test.YthbijemihaekiaaGreatDoorKitL
import Derived.MapViews
import Derived.Shelf.Spec.SlicesInsert
namespace Go.Proofs.YthbijemihaekiaaGreatDoor
open Go.ChangeShapes Go.WideShapes Go.ChangeAt Go.RowKit
set_option linter.unusedVariables false
set_option linter.unusedSimpArgs false

theorem u_rgs : Tryz.prog.underlying 96 = some (.slice 99) := Tryz.underlying96
theorem i_rg : (Tryz.prog.info? 99).map (fun i => (i.zero, i.size, i.bytes)) = some (some (.agg #[.int .i64 0, .int .i64 0]), 2, 16) := by kernel_rfl
theorem s_rg : (Tryz.prog.info? 99).map (·.size) = some 2 := by kernel_rfl
theorem z_rg (w : World) : (zeroValue 99).run Tryz.prog w = .ok (.agg #[.int .i64 0, .int .i64 0]) w := by kernel_rfl
theorem sz_rg (w : World) : (Go.sizeOf 99).run Tryz.prog w = .ok 2 w := by kernel_rfl
def rgCells (r : Rg) : List Value := [.int .i64 r.1, .int .i64 r.2]
def rgsCells (R : List Rg) : List Value := R.flatMap rgCells
theorem rgsCells_len (R : List Rg) : (rgsCells R).length = R.length * 2 := by
  unfold rgsCells
  induction R with
  | nil => rfl
  | cons r R ih => rw [List.flatMap_cons, List.length_append, ih]; simp [rgCells]; omega
theorem rgsCells_append (A B : List Rg) : rgsCells (A ++ B) = rgsCells A ++ rgsCells B := by unfold rgsCells; rw [List.flatMap_append]
theorem rgsCells_one (R : List Rg) : ∀ v ∈ rgsCells R, v.oneCell' = true := by
  unfold rgsCells
  intro v hv
  obtain ⟨r, -, hr⟩ := List.mem_flatMap.1 hv
  simp [rgCells] at hr
  rcases hr with rfl | rfl <;> rfl
theorem rgsCells_take (R : List Rg) (k : Nat) : (rgsCells R).take (k * 2) = rgsCells (R.take k) := by
  rcases Nat.le_total k R.length with h | h
  · have e : R = R.take k ++ R.drop k := (List.take_append_drop k R).symm
    conv => lhs; rw [e, rgsCells_append]
    rw [List.take_append_of_le_length (by rw [rgsCells_len, List.length_take]; omega)]
    rw [List.take_of_length_le (by rw [rgsCells_len, List.length_take]; omega)]
  · rw [List.take_of_length_le (by rw [rgsCells_len]; omega), List.take_of_length_le h]
theorem rgsCells_drop (R : List Rg) (k : Nat) : (rgsCells R).drop (k * 2) = rgsCells (R.drop k) := by
  rcases Nat.le_total k R.length with h | h
  · have e : R = R.take k ++ R.drop k := (List.take_append_drop k R).symm
    conv => lhs; rw [e, rgsCells_append]
    rw [List.drop_append_of_le_length (by rw [rgsCells_len, List.length_take]; omega)]
    rw [List.drop_of_length_le (by rw [rgsCells_len, List.length_take]; omega), List.nil_append]
  · rw [List.drop_of_length_le (by rw [rgsCells_len]; omega), List.drop_of_length_le h]; rfl
theorem rgsCells_at {R : List Rg} {k : Nat} (hk : k < R.length) : (rgsCells R)[k * 2]? = some (.int .i64 R[k].1) ∧ (rgsCells R)[k * 2 + 1]? = some (.int .i64 R[k].2) := by
  have e : (rgsCells R).drop (k * 2) = rgCells R[k] ++ rgsCells (R.drop (k + 1)) := by
    rw [rgsCells_drop, List.drop_eq_getElem_cons hk]
    unfold rgsCells
    rw [List.flatMap_cons]
  have h0 : ((rgsCells R).drop (k * 2))[0]? = some (.int .i64 R[k].1) := by rw [e]; rfl
  have h1 : ((rgsCells R).drop (k * 2))[1]? = some (.int .i64 R[k].2) := by rw [e]; rfl
  rw [List.getElem?_drop] at h0 h1
  exact ⟨h0, h1⟩

/-- A row of one's own, not a nil one. -/
def RowAt (w : World) (base g n c : Nat) (R : List Rg) : Prop := n = R.length ∧ w.ownsRow base 99 2 (.slice (some ⟨g, 0, none⟩) n c) n (rgsCells R)
/-- What an insertion leaves: the row in its block or in a new one. -/
def RowNew (w : World) (base : Nat) (own : Option Nat) (R : List Rg) (e : Ending) (w' : World) : Prop :=
  ∃ g c, e = .returned (.slice (some ⟨g, 0, none⟩) R.length c) ∧ RowAt w' base g R.length c R ∧ w.grownBy w' own ∧ (some g = own ∨ w.heap.size ≤ g)

set_option maxRecDepth 100000 in
set_option maxHeartbeats 4000000 in
/-- slices.Insert of one range at the end. -/
theorem insEnd_any (base : Nat) (A : Option Addr) (c : Nat) (R : List Rg) (x : Rg) (vb vc : Nat) (w : World) (hown : w.ownsRow base 99 2 (.slice A R.length c) R.length (rgsCells R))
    (hv : ∀ j u, (rgCells x)[j]? = some u → w.cell? ((⟨vb, 0, none⟩ : Addr).add j) = some u) (hvb : vb < w.heap.size) (hbase : base ≤ w.heap.size) (hl : R.length < 1000000) :
    Calls Tryz.prog 46 #[.slice A R.length c, .int .i64 R.length, .slice (some ⟨vb, 0, none⟩) 1 vc] w (RowNew w base (Value.slice A R.length c).ownBlock (R ++ [x])) := by
  obtain ⟨i0, hi, hz, hz1, hz2⟩ := info_parts i_rg
  obtain ⟨v', w', hrun, hown', hg, -, hblk⟩ := run_append_own_at (P := Tryz.prog) w base 96 96 99 i0 (.agg #[.int .i64 0, .int .i64 0]) 2 16 u_rgs hi hz hz1 hz2 rfl (by omega) (.slice A R.length c) R.length (rgsCells R) hown ⟨vb, 0, none⟩ 1 vc (rgCells x) rfl hv (fun u hu => rgsCells_one [x] u (by simpa [rgsCells] using hu)) (by unfold maxLen; omega) (by omega) hbase
  obtain ⟨A', c', rfl⟩ := own_form hown'
  have hA' : ∃ g, A' = some ⟨g, 0, none⟩ ∧ (some g = (Value.slice A R.length c).ownBlock ∨ w.heap.size ≤ g) := by
    obtain ⟨h0, h1 | ⟨g, cap, cur, h1, h2, h3, -⟩⟩ := hown'
    · have := h1.2; omega
    · injection h1 with e1
      subst e1
      refine ⟨g, rfl, ?_⟩
      rcases hblk with q | q
      · exact .inl (q ▸ rfl)
      · injection q with q
        exact .inr (by simp only at q; omega)
  obtain ⟨g, rfl, hgg⟩ := hA'
  have hfin : RowNew w base (Value.slice A R.length c).ownBlock (R ++ [x]) (.returned (.slice (some ⟨g, 0, none⟩) (R.length + 1) c')) w' := by
    have e : (R ++ [x]).length = R.length + 1 := by simp
    have e2 : rgsCells (R ++ [x]) = rgsCells R ++ rgCells x := by rw [rgsCells_append]; simp [rgsCells]
    refine ⟨g, c', by rw [e], ⟨rfl, ?_⟩, hg, hgg⟩
    rw [e, e2]
    exact hown'
  have HF := Lib.hid hfin
  have HO := Lib.hid hown
  clear hfin hg hgg hown' hv hblk hi hz hz1 hz2
  rcases HO.out.2 with ⟨h1, h2⟩ | ⟨g0, cap, cur, h1, h2, h3, h4, -⟩
  · injection h1 with e1 e2 e3
    subst e1 e3
    have hz : R.length = 0 := h2
    rw [hz] at hrun HF ⊢
    clear HO hown h2 e2
    go_enter Tryz.func46, Tryz.ntmps46
    go_wp2_with (at_builtin; refine Lib.wpList_append_run _ rfl _ _ _ _ rfl _ _ rfl rfl _ _ hrun ?_)
    go_ret
    exact HF.out
  · injection h1 with e1 e2 e3
    subst e1 e3
    clear HO hown h2 h3
    go_enter Tryz.func46, Tryz.ntmps46
    go_wp2_with (at_builtin; refine Lib.wpList_append_run _ rfl _ _ _ _ rfl _ _ rfl rfl _ _ hrun ?_)
    all_goals (go_ret; exact HF.out)

theorem take_over (a b : List Value) {n : Nat} (h : a.length ≤ n) : (a ++ b).take n = a ++ b.take (n - a.length) := by
  rw [List.take_append, List.take_of_length_le h]
theorem zc_rg : (Builtin.zeroCells (Value.agg #[.int .i64 0, .int .i64 0]).cells 1).toList = [.int .i64 0, .int .i64 0] := by
  have h : (Value.agg #[.int .i64 0, .int .i64 0]).cells = #[.int .i64 0, .int .i64 0] := by kernel_rfl
  rw [h]
  simp [Builtin.zeroCells, Array.range, List.range_succ]
  try rfl
theorem mixedD : Tryz.prog.follows .mixedOrders = true := by kernel_rfl
theorem splice_take {cur : List Value} {o : Nat} {cs : List Value} (h : o ≤ cur.length) : (spliceL cur o cs).take (o + cs.length) = cur.take o ++ cs := by
  unfold spliceL
  rw [← List.append_assoc, List.take_append_of_le_length (by simp; omega)]
  rw [List.take_of_length_le (by simp; omega)]

set_option maxRecDepth 100000 in
set_option maxHeartbeats 4000000 in
/-- slices.Insert of one range ahead of others where there is room: in place. -/
theorem insRoom_any (base g c i : Nat) (R : List Rg) (x : Rg) (vb vc kA : Nat) (tA : TypeId) (w : World) (hown : w.ownsRow base 99 2 (.slice (some ⟨g, 0, none⟩) R.length c) R.length (rgsCells R))
    (hblk : w.heap[vb]? = some (.cells (rgCells x).toArray tA (0, 0))) (hne : vb ≠ g) (hi : i < R.length) (hroom : R.length + 1 ≤ c) (hl : R.length < 1000000) :
    Calls Tryz.prog 46 #[.slice (some ⟨g, 0, none⟩) R.length c, .int .i64 i, .slice (some ⟨vb, 0, none⟩) 1 vc] w (RowNew w base (some g) (R.take i ++ x :: R.drop i)) := by
  obtain ⟨cur, hg, hb, hn, hc, hcl, htk, -⟩ := own_block hown
  have hmx : c ≤ 9223372036854775807 := by unfold maxLen at hc; omega
  have hov : ∀ lb cb, (callFunc 60 #[.slice (some ⟨vb, 0, none⟩) 1 vc, .slice (some ⟨g, (i + 1) * 2, none⟩) lb cb]).run Tryz.prog w = .ok (.value (.bool false)) w := fun lb cb => by
    rw [run_callFunc_extern (P := Tryz.prog) Tryz.func60 (by kernel_rfl) (by kernel_rfl) (by kernel_rfl) (e := Extern.SlicesOverlaps.overlaps #[96, 96] #[4]) (by kernel_rfl),
      Lib.run_overlaps_apart w 96 4 99 u_rgs 2 sz_rg ⟨vb, 0, none⟩ ⟨g, (i + 1) * 2, none⟩ 1 vc lb cb hne tA 99 2 (cur.length) (by rw [shape_block hblk]; rfl) (by rw [shape_block hg]; simp) (by rw [hcl]; omega) (frozen_block hblk 0) (frozen_block hblk 2)]
    rfl
  have hdl : (rgsCells (R.drop i)).length = (R.length - i) * 2 := by rw [rgsCells_len, List.length_drop]
  have hcp1 : ∀ ty dc sc, (Builtin.copy_ #[96, 96] ty #[.slice (some ⟨g, (i + 1) * 2, none⟩) (R.length - i) dc, .slice (some ⟨g, i * 2, none⟩) (R.length + 1 - i) sc]).run Tryz.prog w.drew = .ok (goInt (R.length - i : Nat)) (w.drew.setRow g (spliceL cur ((i + 1) * 2) (rgsCells (R.drop i))).toArray) := fun ty dc sc =>
    run_copy_rowK (P := Tryz.prog) w.drew _ _ ty 99 g ((i + 1) * 2) (R.length - i) dc ⟨g, i * 2, none⟩ (R.length + 1 - i) sc cur 99 2 (rgsCells (R.drop i)) u_rgs s_rg hg (R.length - i) (by simp only [Nat.min_def]; split <;> omega) hdl
      (cells_block hg (i * 2) (fun j u hu => by
        rw [← rgsCells_drop, List.getElem?_drop, ← htk] at hu
        rw [List.getElem?_take] at hu
        split at hu
        · exact hu
        · cases hu)) (by rw [hdl, hcl]; omega) (rgsCells_one _)
  obtain ⟨cur1, hc1⟩ : ∃ cur1, cur1 = spliceL cur ((i + 1) * 2) (rgsCells (R.drop i)) := ⟨_, rfl⟩
  have hcl1 : cur1.length = c * 2 := by rw [hc1, spliceL_len (by rw [hdl, hcl]; omega), hcl]
  rw [← hc1] at hcp1
  obtain ⟨W1, hW1⟩ : ∃ W1, W1 = w.drew.setRow g cur1.toArray := ⟨_, rfl⟩
  have hg1 : W1.heap[g]? = some (.cells cur1.toArray 99 (0, 0)) := by rw [hW1]; exact setRow_block (cur := cur) hg
  have hv1 : W1.heap[vb]? = some (.cells (rgCells x).toArray tA (0, 0)) := by rw [hW1, setRow_other w.drew g vb _ hne]; exact hblk
  rw [← hW1] at hcp1
  have hcp2 : ∀ ty dc sc, (Builtin.copy_ #[96, 96] ty #[.slice (some ⟨g, i * 2, none⟩) (R.length + 1 - i) dc, .slice (some ⟨vb, 0, none⟩) 1 sc]).run Tryz.prog W1 = .ok (goInt (1 : Nat)) (W1.setRow g (spliceL cur1 (i * 2) (rgCells x)).toArray) := fun ty dc sc =>
    run_copy_rowK (P := Tryz.prog) W1 _ _ ty 99 g (i * 2) (R.length + 1 - i) dc ⟨vb, 0, none⟩ 1 sc cur1 99 2 (rgCells x) u_rgs s_rg hg1 1 (by simp only [Nat.min_def]; split <;> omega) rfl
      (cells_block hv1 0 (fun j u hu => by simpa using hu)) (by rw [hcl1]; show i * 2 + 2 ≤ c * 2; omega) (fun u hu => rgsCells_one [x] u (by simpa [rgsCells] using hu))
  obtain ⟨cur2, hc2⟩ : ∃ cur2, cur2 = spliceL cur1 (i * 2) (rgCells x) := ⟨_, rfl⟩
  rw [← hc2] at hcp2
  have hcl2 : cur2.length = c * 2 := by rw [hc2, spliceL_len (by rw [hcl1]; show i * 2 + 2 ≤ c * 2; omega), hcl1]
  have hlen : (R.take i ++ x :: R.drop i).length = R.length + 1 := by rw [List.length_append, List.length_cons, List.length_take, List.length_drop]; omega
  have hcells : cur2.take ((R.length + 1) * 2) = rgsCells (R.take i ++ x :: R.drop i) := by
    have e1 : cur1.take ((i + 1) * 2 + (R.length - i) * 2) = cur.take ((i + 1) * 2) ++ rgsCells (R.drop i) := by rw [hc1, ← hdl]; exact splice_take (by rw [hcl]; omega)
    have e2 : (i + 1) * 2 + (R.length - i) * 2 = (R.length + 1) * 2 := by omega
    rw [e2] at e1
    have e3 : cur1.take (i * 2) = rgsCells (R.take i) := by
      have : cur1.take (i * 2) = (cur1.take ((R.length + 1) * 2)).take (i * 2) := by rw [List.take_take]; congr 1; omega
      rw [this, e1, List.take_append_of_le_length (by rw [List.length_take, hcl]; omega), List.take_take, ← rgsCells_take, ← htk, List.take_take]
      congr 1
      omega
    have e4 : (cur1.drop (i * 2 + 2)).take ((R.length + 1) * 2 - (i * 2 + 2)) = rgsCells (R.drop i) := by
      rw [List.take_drop]
      have h1 : i * 2 + 2 + ((R.length + 1) * 2 - (i * 2 + 2)) = (R.length + 1) * 2 := by omega
      rw [h1, e1, List.drop_append_of_le_length (by rw [List.length_take, hcl]; omega)]
      rw [List.drop_of_length_le (by rw [List.length_take, hcl]; omega), List.nil_append]
    have e5 : rgsCells (R.take i ++ x :: R.drop i) = rgsCells (R.take i) ++ (rgCells x ++ rgsCells (R.drop i)) := by rw [rgsCells_append]; simp [rgsCells]
    rw [e5, hc2]
    unfold spliceL
    rw [e3]
    have l1 : (rgsCells (R.take i)).length = i * 2 := by rw [rgsCells_len, List.length_take]; omega
    have l2 : (rgCells x).length = 2 := rfl
    rw [take_over _ _ (by rw [l1]; omega), take_over _ _ (by rw [l1, l2]; omega), l1, l2]
    congr 2
  have hfin : RowNew w base (some g) (R.take i ++ x :: R.drop i) (.returned (.slice (some ⟨g, 0, none⟩) (R.length + 1) c)) (W1.setRow g cur2.toArray) := by
    refine ⟨g, c, by rw [hlen], ⟨rfl, own_of_block (setRow_block hg1) hb (by rw [hlen]; exact hroom) hc hcl2 (by rw [hlen]; exact hcells)⟩, ?_, .inl rfl⟩
    rw [hW1]
    exact grown_trans (grown_drew (grown_refl w (some g)) |> fun h => grown_trans h (grown_setRow w.drew g _)) (grown_setRow _ g _)
  have HF := Lib.hid hfin
  clear hfin hcells hcl2 hc2 hv1 hg1 hW1 hcl1 hc1 hdl htk hcl hown hblk hlen
  have hw1 : IntKind.i64.wrap ((i : Int) + 1) = (i : Int) + 1 := by rw [IntKind.wrap_i64]; omega
  have mixed := mixedD
  have hb1 : (0 : Int) ≤ (i : Int) + 1 := by omega
  have htn : ((i : Int) + 1).toNat = i + 1 := by omega
  have hz2 : ¬ ((i : Int) = (R.length : Int)) := by omega
  have hb2 : ¬ (c = i + 1) := by omega
  have hb4 : ¬ (c = i) := by omega
  have hb5 : (i : Int) ≤ (R.length : Int) + 1 := by omega
  have hin : i ≤ R.length := by omega
  go_enter Tryz.func46, Tryz.ntmps46
  go_wp2_with (simp only [hov])
  go_region_law_o (refine step_copy_runI rfl _ _ 96 96 rfl _ _ (by simp [Act.eval, Act.put]) (by simp [Act.eval, Act.put]) (hcp1 _ _ _) ?_)
  go_wp2_with (at_builtin; refine wpList_copy_runI _ rfl _ _ 96 96 rfl _ _ rfl rfl (hcp2 _ _ _) ?_)
  go_ret
  exact HF.out

set_option maxRecDepth 100000 in
set_option maxHeartbeats 4000000 in
/-- slices.Insert of one range ahead of others where there is no room: a new row. -/
theorem insGrow_any (base g c i : Nat) (R : List Rg) (x : Rg) (vb vc : Nat) (tA : TypeId) (w : World) (hown : w.ownsRow base 99 2 (.slice (some ⟨g, 0, none⟩) R.length c) R.length (rgsCells R))
    (hblk : w.heap[vb]? = some (.cells (rgCells x).toArray tA (0, 0))) (hi : i < R.length) (hroom : c < R.length + 1) (hl : R.length < 1000000) (hbase : base ≤ w.heap.size) :
    Calls Tryz.prog 46 #[.slice (some ⟨g, 0, none⟩) R.length c, .int .i64 i, .slice (some ⟨vb, 0, none⟩) 1 vc] w (RowNew w base (some g) (R.take i ++ x :: R.drop i)) := by
  obtain ⟨cur, hg, hb, hn, hc, hcl, htk, -⟩ := own_block hown
  obtain ⟨i0, hi0, hz0, hzs, hzb⟩ := info_parts i_rg
  have hce : c = R.length := by omega
  subst hce
  have hgw : g < w.heap.size := (Array.getElem?_eq_some_iff.1 hg).1
  have hvw : vb < w.heap.size := (Array.getElem?_eq_some_iff.1 hblk).1
  have hold : (Builtin.firstCells i0.size i (.slice (some ⟨g, 0, none⟩) i R.length)).run Tryz.prog w.drew = .ok (rgsCells (R.take i)).toArray w.drew := by
    rw [hzs]
    refine run_firstCells_some w.drew 2 i ⟨g, 0, none⟩ i R.length (rgsCells (R.take i)) (by rw [rgsCells_len, List.length_take]; omega) (cells_block hg 0 (fun j u hu => ?_))
    rw [← rgsCells_take, List.getElem?_take] at hu
    split at hu
    · rw [← htk, List.getElem?_take] at hu
      split at hu
      · simpa using hu
      · cases hu
    · cases hu
  have hkk : (R.length : Int) + 1 - (i : Int) = ((R.length + 1 - i : Nat) : Int) := by omega
  have hik : i + (R.length + 1 - i) = R.length + 1 := by omega
  obtain ⟨G, hG⟩ : ∃ G, G = grownCap w (R.length + 1) R.length 99 := ⟨_, rfl⟩
  obtain ⟨row, hrow⟩ : ∃ row : List Value, row = rgsCells (R.take i) ++ (Builtin.zeroCells (Value.agg #[.int .i64 0, .int .i64 0]).cells (R.length + 1 - i)).toList ++ (Builtin.zeroCells (Value.agg #[.int .i64 0, .int .i64 0]).cells (G - (R.length + 1))).toList := ⟨_, rfl⟩
  have hGn : R.length + 1 ≤ G := by rw [hG]; exact grownCap_ge w _ _ _
  have hGm : G ≤ maxLen := by rw [hG]; exact grownCap_le_maxLen w (R.length + 1) R.length 99 (by unfold maxLen; omega)
  have hG63 : G ≤ 9223372036854775807 := by unfold maxLen at hGm; omega
  have hrl : row.length = G * 2 := by
    rw [hrow]
    simp only [List.length_append, rgsCells_len, List.length_take, Array.length_toList, size_zeroCells]
    show min i R.length * 2 + (R.length + 1 - i) * 2 + (G - (R.length + 1)) * 2 = G * 2
    omega
  have hrz : ∀ ty, (Builtin.append_ #[96, 3] ty #[.slice (some ⟨g, 0, none⟩) i R.length, .int .i64 ((R.length : Int) + 1 - (i : Int))]).run Tryz.prog w =
      .ok (.slice (some ⟨w.heap.size, 0, none⟩) (R.length + 1) G) (w.drew.alloc (.cells row.toArray 99)) := fun ty => by
    have h := Lib.run_append_grow_zeros w 96 3 ty 99 i0 _ .i64 .i64 u_rgs Tryz.underlying3 hi0 hz0 (some ⟨g, 0, none⟩) i R.length (rgsCells (R.take i)) hold (R.length + 1 - i) (by omega) (by omega) (by omega) (by omega) (by rw [hzb]; omega) (by rw [hzb, hik]; exact growslice_fits hroom (by omega))
    rw [hik, ← hG] at h
    rw [hkk, h, hrow]
    congr 3
    apply Array.ext'
    simp
  obtain ⟨W1, hW1⟩ : ∃ W1, W1 = w.drew.alloc (.cells row.toArray 99) := ⟨_, rfl⟩
  obtain ⟨gn, hgn⟩ : ∃ gn, gn = w.heap.size := ⟨_, rfl⟩
  rw [← hW1] at hrz
  have hg1 : W1.heap[gn]? = some (.cells row.toArray 99 (0, 0)) := by rw [hW1, hgn]; exact heap_alloc_new w.drew _
  have hv1 : W1.heap[vb]? = some (.cells (rgCells x).toArray tA (0, 0)) := by rw [hW1]; exact (heap_alloc_old w.drew _ hvw).trans hblk
  have ho1 : W1.heap[g]? = some (.cells cur.toArray 99 (0, 0)) := by rw [hW1]; exact (heap_alloc_old w.drew _ hgw).trans hg
  rw [← hgn] at hrz
  have hdl : (rgsCells (R.drop i)).length = (R.length - i) * 2 := by rw [rgsCells_len, List.length_drop]
  have hcp1 : ∀ ty dc sc, (Builtin.copy_ #[96, 96] ty #[.slice (some ⟨gn, i * 2, none⟩) (R.length + 1 - i) dc, .slice (some ⟨vb, 0, none⟩) 1 sc]).run Tryz.prog W1 = .ok (goInt (1 : Nat)) (W1.setRow gn (spliceL row (i * 2) (rgCells x)).toArray) := fun ty dc sc =>
    run_copy_rowK (P := Tryz.prog) W1 _ _ ty 99 gn (i * 2) (R.length + 1 - i) dc ⟨vb, 0, none⟩ 1 sc row 99 2 (rgCells x) u_rgs s_rg hg1 1 (by simp only [Nat.min_def]; split <;> omega) rfl
      (cells_block hv1 0 (fun j u hu => by simpa using hu)) (by rw [hrl]; show i * 2 + 2 ≤ G * 2; omega) (fun u hu => rgsCells_one [x] u (by simpa [rgsCells] using hu))
  obtain ⟨cur1, hc1⟩ : ∃ cur1, cur1 = spliceL row (i * 2) (rgCells x) := ⟨_, rfl⟩
  have hcl1 : cur1.length = G * 2 := by rw [hc1, spliceL_len (by rw [hrl]; show i * 2 + 2 ≤ G * 2; omega), hrl]
  rw [← hc1] at hcp1
  obtain ⟨W2, hW2⟩ : ∃ W2, W2 = W1.setRow gn cur1.toArray := ⟨_, rfl⟩
  have hg2 : W2.heap[gn]? = some (.cells cur1.toArray 99 (0, 0)) := by rw [hW2]; exact setRow_block hg1
  have ho2 : W2.heap[g]? = some (.cells cur.toArray 99 (0, 0)) := by rw [hW2, setRow_other W1 gn g _ (by omega)]; exact ho1
  rw [← hW2] at hcp1
  have hcp2 : ∀ ty dc sc, (Builtin.copy_ #[96, 96] ty #[.slice (some ⟨gn, (i + 1) * 2, none⟩) (R.length - i) dc, .slice (some ⟨g, i * 2, none⟩) (R.length - i) sc]).run Tryz.prog W2.drew = .ok (goInt (R.length - i : Nat)) (W2.drew.setRow gn (spliceL cur1 ((i + 1) * 2) (rgsCells (R.drop i))).toArray) := fun ty dc sc =>
    run_copy_rowK (P := Tryz.prog) W2.drew _ _ ty 99 gn ((i + 1) * 2) (R.length - i) dc ⟨g, i * 2, none⟩ (R.length - i) sc cur1 99 2 (rgsCells (R.drop i)) u_rgs s_rg hg2 (R.length - i) (by simp only [Nat.min_def]; split <;> omega) hdl
      (cells_block ho2 (i * 2) (fun j u hu => by
        rw [← rgsCells_drop, List.getElem?_drop, ← htk] at hu
        rw [List.getElem?_take] at hu
        split at hu
        · exact hu
        · cases hu)) (by rw [hdl, hcl1]; omega) (rgsCells_one _)
  obtain ⟨cur2, hc2⟩ : ∃ cur2, cur2 = spliceL cur1 ((i + 1) * 2) (rgsCells (R.drop i)) := ⟨_, rfl⟩
  rw [← hc2] at hcp2
  have hcl2 : cur2.length = G * 2 := by rw [hc2, spliceL_len (by rw [hdl, hcl1]; omega), hcl1]
  have hlen : (R.take i ++ x :: R.drop i).length = R.length + 1 := by rw [List.length_append, List.length_cons, List.length_take, List.length_drop]; omega
  have hcells : cur2.take ((R.length + 1) * 2) = rgsCells (R.take i ++ x :: R.drop i) := by
    have l1 : (rgsCells (R.take i)).length = i * 2 := by rw [rgsCells_len, List.length_take]; omega
    have l2 : (rgCells x).length = 2 := rfl
    have e1 : cur1.take ((i + 1) * 2) = rgsCells (R.take i) ++ rgCells x := by
      have e0 : row.take (i * 2) = rgsCells (R.take i) := by
        rw [hrow, List.append_assoc, List.take_append_of_le_length (by omega), List.take_of_length_le (by omega)]
      have := splice_take (cur := row) (o := i * 2) (cs := rgCells x) (by rw [hrl]; omega)
      rw [e0, l2, ← hc1] at this
      rw [← this]
      congr 1
      omega
    have e2 := splice_take (cur := cur1) (o := (i + 1) * 2) (cs := rgsCells (R.drop i)) (by rw [hcl1]; omega)
    rw [e1, hdl, ← hc2] at e2
    have e3 : (i + 1) * 2 + (R.length - i) * 2 = (R.length + 1) * 2 := by omega
    rw [e3] at e2
    rw [e2, rgsCells_append, List.append_assoc]
    simp [rgsCells]
  have hfin : RowNew w base (some g) (R.take i ++ x :: R.drop i) (.returned (.slice (some ⟨gn, 0, none⟩) (R.length + 1) G)) (W2.drew.setRow gn cur2.toArray) := by
    refine ⟨gn, G, by rw [hlen], ⟨rfl, own_of_block (setRow_block (w := W2.drew) hg2) (by omega) (by rw [hlen]; exact hGn) hGm hcl2 (by rw [hlen]; exact hcells)⟩, ?_, .inr (by omega)⟩
    refine ⟨by rw [hW2, hW1]; rfl, by rw [hW2, hW1]; rfl, by rw [hW2, hW1]; rfl, ?_, fun k hk _ => ?_⟩
    · rw [hW2, hW1]; simp
    · rw [setRow_other W2.drew gn k _ (by omega)]
      show W2.heap[k]? = _
      rw [hW2, setRow_other W1 gn k _ (by omega), hW1]
      exact heap_alloc_old w.drew _ hk
  have HF := Lib.hid hfin
  clear hfin hcells hcl2 hc2 hv1 hg1 hW1 hcl1 hc1 hdl htk hcl hown hblk hlen ho2 hg2 ho1 hW2 hrow hold hi0 hz0 hzs hzb hgw hvw hgn hG hrl hkk hik hg
  have hw1 : IntKind.i64.wrap ((i : Int) + 1) = (i : Int) + 1 := by rw [IntKind.wrap_i64]; omega
  have mixed := mixedD
  have hb1 : (0 : Int) ≤ (i : Int) + 1 := by omega
  have htn : ((i : Int) + 1).toNat = i + 1 := by omega
  have hz2 : ¬ ((i : Int) = (R.length : Int)) := by omega
  have hb2 : ¬ (G = i + 1) := by omega
  have hb3 : ¬ (G = i) := by omega
  have hb4 : ¬ (R.length = i) := by omega
  have hb5 : (i : Int) ≤ (R.length : Int) + 1 := by omega
  have hin : i ≤ R.length := by omega
  have hz3 : (R.length : Int) < (R.length : Int) + 1 := by omega
  go_enter Tryz.func46, Tryz.ntmps46
  go_wp2_with (at_builtin; refine Lib.wpList_append_run _ rfl _ _ _ _ rfl _ _ rfl rfl _ _ (hrz _) ?_)
  go_wp2_with (at_builtin; refine wpList_copy_runI _ rfl _ _ 96 96 rfl _ _ rfl rfl (hcp1 _ _ _) ?_)
  go_region_law_o (refine step_copy_runI rfl _ _ 96 96 rfl _ _ (by simp [Act.eval, Act.put]) (by simp [Act.eval, Act.put]) (hcp2 _ _ _) ?_)
  go_wp2_with fail
  go_ret
  exact HF.out

set_option maxRecDepth 100000 in
set_option maxHeartbeats 4000000 in
/-- slices.Delete of one range: in place. -/
theorem del_any (base g c i : Nat) (R : List Rg) (w : World) (hown : w.ownsRow base 99 2 (.slice (some ⟨g, 0, none⟩) R.length c) R.length (rgsCells R)) (hi : i < R.length) (hl : R.length < 1000000) :
    Calls Tryz.prog 45 #[.slice (some ⟨g, 0, none⟩) R.length c, .int .i64 i, .int .i64 ((i : Int) + 1)] w (RowNew w base (some g) (R.take i ++ R.drop (i + 1))) := by
  obtain ⟨cur, hg, hb, hn, hc, hcl, htk, -⟩ := own_block hown
  have hmx : c ≤ 9223372036854775807 := by unfold maxLen at hc; omega
  have hdl : (rgsCells (R.drop (i + 1))).length = (R.length - (i + 1)) * 2 := by rw [rgsCells_len, List.length_drop]
  have hrun : ∀ ty ad m', (R.length - (i + 1) = 0 ∨ ad = ⟨g, (i + 1) * 2, none⟩) → (Builtin.append_ #[96, 96] ty #[.slice (some ⟨g, 0, none⟩) i c, .slice (some ad) (R.length - (i + 1)) m']).run Tryz.prog w.drew = .ok (.slice (some ⟨g, 0, none⟩) (i + (R.length - (i + 1))) c) (w.drew.setRow g (spliceL cur (i * 2) (rgsCells (R.drop (i + 1)))).toArray) := fun ty ad m' had =>
    run_append_roomK (P := Tryz.prog) w.drew _ ty 99 2 u_rgs s_rg g i c cur hg ad (R.length - (i + 1)) m' (rgsCells (R.drop (i + 1))) hdl (fun j u hu => by
      rcases had with h0 | rfl
      · have := (List.getElem?_eq_some_iff.1 hu).1
        rw [hdl] at this
        omega
      · refine cells_block (w := w.drew) hg ((i + 1) * 2) (fun j u hu => ?_) j u hu
        rw [← rgsCells_drop, List.getElem?_drop, ← htk, List.getElem?_take] at hu
        split at hu
        · exact hu
        · cases hu) (rgsCells_one _) (by omega) (by rw [hdl, hcl]; omega)
  have hil : i + (R.length - (i + 1)) = R.length - 1 := by omega
  rw [hil] at hrun
  obtain ⟨cur1, hc1⟩ : ∃ cur1, cur1 = spliceL cur (i * 2) (rgsCells (R.drop (i + 1))) := ⟨_, rfl⟩
  have hcl1 : cur1.length = c * 2 := by rw [hc1, spliceL_len (by rw [hdl, hcl]; omega), hcl]
  rw [← hc1] at hrun
  obtain ⟨W1, hW1⟩ : ∃ W1, W1 = w.drew.setRow g cur1.toArray := ⟨_, rfl⟩
  have hg1 : W1.heap[g]? = some (.cells cur1.toArray 99 (0, 0)) := by rw [hW1]; exact setRow_block (cur := cur) hg
  rw [← hW1] at hrun
  have hclr : ∀ ty c', (Builtin.clear_ #[96] ty #[.slice (some ⟨g, (R.length - 1) * 2, none⟩) 1 c']).run Tryz.prog W1 = .ok (.tuple #[]) (W1.setRow g (spliceL cur1 ((R.length - 1) * 2) (Builtin.zeroCells (Value.agg #[.int .i64 0, .int .i64 0]).cells 1).toList).toArray) := fun ty c' =>
    run_clear_rowK (P := Tryz.prog) W1 96 99 ty _ u_rgs z_rg 2 (by kernel_rfl) (by rw [zc_rg]; simp [Value.oneCell']) g ((R.length - 1) * 2) c' cur1 99 hg1 (by rw [hcl1]; omega)
  obtain ⟨cur2, hc2⟩ : ∃ cur2, cur2 = spliceL cur1 ((R.length - 1) * 2) (Builtin.zeroCells (Value.agg #[.int .i64 0, .int .i64 0]).cells 1).toList := ⟨_, rfl⟩
  have hzl : (Builtin.zeroCells (Value.agg #[.int .i64 0, .int .i64 0]).cells 1).toList.length = 2 := by rw [zc_rg]; rfl
  have hcl2 : cur2.length = c * 2 := by rw [hc2, spliceL_len (by rw [hcl1, hzl]; omega), hcl1]
  rw [← hc2] at hclr
  have hlen : (R.take i ++ R.drop (i + 1)).length = R.length - 1 := by rw [List.length_append, List.length_take, List.length_drop]; omega
  have hcells : cur2.take ((R.length - 1) * 2) = rgsCells (R.take i ++ R.drop (i + 1)) := by
    have e1 := splice_take (cur := cur) (o := i * 2) (cs := rgsCells (R.drop (i + 1))) (by rw [hcl]; omega)
    rw [← hc1, hdl] at e1
    have e3 : i * 2 + (R.length - (i + 1)) * 2 = (R.length - 1) * 2 := by omega
    rw [e3] at e1
    have e4 : cur.take (i * 2) = rgsCells (R.take i) := by
      rw [← rgsCells_take, ← htk, List.take_take]
      congr 1
      omega
    rw [e4] at e1
    have e2 : cur2.take ((R.length - 1) * 2) = cur1.take ((R.length - 1) * 2) := by
      rw [hc2]
      unfold spliceL
      rw [List.take_append_of_le_length (by rw [List.length_take, hcl1]; omega), List.take_take]
      congr 1
      omega
    rw [e2, e1, rgsCells_append]
  have hfin : RowNew w base (some g) (R.take i ++ R.drop (i + 1)) (.returned (.slice (some ⟨g, 0, none⟩) (R.length - 1) c)) (W1.setRow g cur2.toArray) := by
    refine ⟨g, c, by rw [hlen], ⟨rfl, own_of_block (setRow_block hg1) hb (by rw [hlen]; omega) hc hcl2 (by rw [hlen]; exact hcells)⟩, ?_, .inl rfl⟩
    rw [hW1]
    exact grown_trans (grown_drew (grown_refl w (some g)) |> fun h => grown_trans h (grown_setRow w.drew g _)) (grown_setRow _ g _)
  have HF := Lib.hid hfin
  clear hfin hcells hcl2 hc2 hg1 hW1 hcl1 hc1 hdl htk hcl hown hlen hzl
  have hw1 : IntKind.i64.wrap ((i : Int) + 1) = (i : Int) + 1 := by rw [IntKind.wrap_i64]; omega
  have mixed := mixedD
  have hb1 : (0 : Int) ≤ (i : Int) + 1 := by omega
  have hb0 : (i : Int) + 1 ≤ (R.length : Int) := by omega
  have hb6 : (i : Int) ≤ (i : Int) + 1 := by omega
  have htn : ((i : Int) + 1).toNat = i + 1 := by omega
  have hin : i ≤ R.length := by omega
  have hic : (i : Int) ≤ (c : Int) := by omega
  have hl1 : R.length - (R.length - 1) = 1 := by omega
  have hl2 : ((R.length : Int) - 1).toNat = R.length - 1 := by omega
  have hl3 : ¬ (c = R.length - 1) := by omega
  have hl4 : ((R.length - 1 : Nat) : Int) ≤ (R.length : Int) := by omega
  have hl5 : ¬ (R.length = i) := by omega
  have hl6 : ¬ (c = i) := by omega
  have hz2 : ¬ ((i : Int) = (i : Int) + 1) := by omega
  go_enter Tryz.func45, Tryz.ntmps45
  by_cases hce : c = i + 1
  · have had : R.length - (i + 1) = 0 := by omega
    have hrun0 := fun ty => hrun ty ⟨g, 0, none⟩ 0 (.inl had)
    rw [had] at hrun0
    clear hrun
    subst hce
    go_wp2_with fail
    go_region_law_o (refine step_append_runI rfl _ _ 96 96 rfl _ _ (by simp [Act.eval, Act.put]) (by simp [Act.eval, Act.put]) (hrun0 _) ?_)
    go_wp2_with (at_builtin; refine wpList_clear_runI _ rfl _ 96 rfl _ rfl (hclr _ _) ?_)
    go_ret
    exact HF.out
  · have hce2 : ¬ (c = i + 1) := hce
    go_wp2_with fail
    go_region_law_o (refine step_append_runI rfl _ _ 96 96 rfl _ _ (by simp [Act.eval, Act.put]) (by simp [Act.eval, Act.put]) (hrun _ ⟨g, (i + 1) * 2, none⟩ (c - (i + 1)) (.inr rfl)) ?_)
    go_wp2_with (at_builtin; refine wpList_clear_runI _ rfl _ 96 rfl _ rfl (hclr _ _) ?_)
    go_ret
    exact HF.out
end Go.Proofs.YthbijemihaekiaaGreatDoor
