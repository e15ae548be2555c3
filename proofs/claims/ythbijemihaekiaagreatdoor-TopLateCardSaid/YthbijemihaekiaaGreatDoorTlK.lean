/- Contracts of slices.Insert at a row of events of one's own, anywhere; of sort.Search whatever the closure says; of slices.Clone at events (the first is printed by gen_tlk.py from DdA). -/
import Derived.Test.YthbijemihaekiaaGreatDoorTlJ
import Derived.Test.YthbijemihaekiaaGreatDoorDdA
import Derived.Test.YthbijemihaekiaaGreatDoorKitX
namespace Go.Proofs.YthbijemihaekiaaGreatDoor
open Go.ChangeShapes Go.WideShapes Go.ChangeAt Go.RowKit
set_option linter.unusedVariables false
set_option linter.unusedSimpArgs false

theorem u_evs : Tryz.prog.underlying 23 = some (.slice 41) := Tryz.underlying23
theorem s_ev : (Tryz.prog.info? 41).map (·.size) = some 8 := by kernel_rfl
theorem sz_ev (w : World) : (Go.sizeOf 41).run Tryz.prog w = .ok 8 w := by kernel_rfl
theorem evsCells_append (A B : List EvV) : evsCells (A ++ B) = evsCells A ++ evsCells B := by unfold evsCells; rw [List.flatMap_append]
theorem evsCells_one (R : List EvV) : ∀ v ∈ evsCells R, v.oneCell' = true := by
  unfold evsCells
  intro v hv
  obtain ⟨r, -, hr⟩ := List.mem_flatMap.1 hv
  exact evCells_one r v hr
theorem evsCells_take (R : List EvV) (k : Nat) : (evsCells R).take (k * 8) = evsCells (R.take k) := by
  rcases Nat.le_total k R.length with h | h
  · have e : R = R.take k ++ R.drop k := (List.take_append_drop k R).symm
    conv => lhs; rw [e, evsCells_append]
    rw [List.take_append_of_le_length (by rw [evsCells_len, List.length_take]; omega)]
    rw [List.take_of_length_le (by rw [evsCells_len, List.length_take]; omega)]
  · rw [List.take_of_length_le (by rw [evsCells_len]; omega), List.take_of_length_le h]
theorem evsCells_drop (R : List EvV) (k : Nat) : (evsCells R).drop (k * 8) = evsCells (R.drop k) := by
  rcases Nat.le_total k R.length with h | h
  · have e : R = R.take k ++ R.drop k := (List.take_append_drop k R).symm
    conv => lhs; rw [e, evsCells_append]
    rw [List.drop_append_of_le_length (by rw [evsCells_len, List.length_take]; omega)]
    rw [List.drop_of_length_le (by rw [evsCells_len, List.length_take]; omega), List.nil_append]
  · rw [List.drop_of_length_le (by rw [evsCells_len]; omega), List.drop_of_length_le h]; rfl

/-- A row of one's own, not a nil one. -/
def ERowAt (w : World) (base g n c : Nat) (R : List EvV) : Prop := n = R.length ∧ w.ownsRow base 41 8 (.slice (some ⟨g, 0, none⟩) n c) n (evsCells R)
/-- What an insertion leaves: the row in its block or in a new one. -/
def ERowNew (w : World) (base : Nat) (own : Option Nat) (R : List EvV) (e : Ending) (w' : World) : Prop :=
  ∃ g c, e = .returned (.slice (some ⟨g, 0, none⟩) R.length c) ∧ ERowAt w' base g R.length c R ∧ w.grownBy w' own ∧ (some g = own ∨ w.heap.size ≤ g)

set_option maxRecDepth 100000 in
set_option maxHeartbeats 4000000 in
/-- slices.Insert of one range at the end. -/
theorem einsEnd_any (base : Nat) (A : Option Addr) (c : Nat) (R : List EvV) (x : EvV) (vb vc : Nat) (w : World) (hown : w.ownsRow base 41 8 (.slice A R.length c) R.length (evsCells R))
    (hv : ∀ j u, (evCells x)[j]? = some u → w.cell? ((⟨vb, 0, none⟩ : Addr).add j) = some u) (hvb : vb < w.heap.size) (hbase : base ≤ w.heap.size) (hl : R.length < 1000000) :
    Calls Tryz.prog 34 #[.slice A R.length c, .int .i64 R.length, .slice (some ⟨vb, 0, none⟩) 1 vc] w (ERowNew w base (Value.slice A R.length c).ownBlock (R ++ [x])) := by
  obtain ⟨i0, hi, hz, hz1, hz2⟩ := info_parts ev_info
  obtain ⟨v', w', hrun, hown', hg, -, hblk⟩ := run_append_own_at (P := Tryz.prog) w base 23 23 41 i0 (.agg #[.string ⟨#[]⟩, .int .i64 0, .int .i64 0, .int .i64 0, .string ⟨#[]⟩, .string ⟨#[]⟩, .int .i64 0, .string ⟨#[]⟩]) 8 96 u_evs hi hz hz1 hz2 rfl (by omega) (.slice A R.length c) R.length (evsCells R) hown ⟨vb, 0, none⟩ 1 vc (evCells x) rfl hv (fun u hu => evsCells_one [x] u (by simpa [evsCells] using hu)) (by unfold maxLen; omega) (by omega) hbase
  obtain ⟨A', c', rfl⟩ := own_form hown'
  have hA' : ∃ g, A' = some ⟨g, 0, none⟩ ∧ (some g = (Value.slice A R.length c).ownBlock ∨ w.heap.size ≤ g) := by
    obtain ⟨h0, h1 | ⟨g, cap, cur, h1, h2, h3, -⟩⟩ := hown'
    · have := h1.2; omega
    · injection h1 with e1
      subst e1
      refine ⟨g, rfl, ?_⟩
      rcases hblk with q | q
      · exact .inl (q ▸ rfl)
      · injection q with q
        exact .inr (by simp only at q; omega)
  obtain ⟨g, rfl, hgg⟩ := hA'
  have hfin : ERowNew w base (Value.slice A R.length c).ownBlock (R ++ [x]) (.returned (.slice (some ⟨g, 0, none⟩) (R.length + 1) c')) w' := by
    have e : (R ++ [x]).length = R.length + 1 := by simp
    have e2 : evsCells (R ++ [x]) = evsCells R ++ evCells x := by rw [evsCells_append]; simp [evsCells]
    refine ⟨g, c', by rw [e], ⟨rfl, ?_⟩, hg, hgg⟩
    rw [e, e2]
    exact hown'
  have HF := Lib.hid hfin
  have HO := Lib.hid hown
  clear hfin hg hgg hown' hv hblk hi hz hz1 hz2
  rcases HO.out.2 with ⟨h1, h2⟩ | ⟨g0, cap, cur, h1, h2, h3, h4, -⟩
  · injection h1 with e1 e2 e3
    subst e1 e3
    have hz : R.length = 0 := h2
    rw [hz] at hrun HF ⊢
    clear HO hown h2 e2
    go_enter Tryz.func34, Tryz.ntmps34
    go_wp2_with (at_builtin; refine Lib.wpList_append_run _ rfl _ _ _ _ rfl _ _ rfl rfl _ _ hrun ?_)
    go_ret
    exact HF.out
  · injection h1 with e1 e2 e3
    subst e1 e3
    clear HO hown h2 h3
    go_enter Tryz.func34, Tryz.ntmps34
    go_wp2_with (at_builtin; refine Lib.wpList_append_run _ rfl _ _ _ _ rfl _ _ rfl rfl _ _ hrun ?_)
    all_goals (go_ret; exact HF.out)

set_option maxRecDepth 100000 in
set_option maxHeartbeats 4000000 in
/-- slices.Insert of one range ahead of others where there is room: in place. -/
theorem einsRoom_any (base g c i : Nat) (R : List EvV) (x : EvV) (vb vc kA : Nat) (tA : TypeId) (w : World) (hown : w.ownsRow base 41 8 (.slice (some ⟨g, 0, none⟩) R.length c) R.length (evsCells R))
    (hblk : w.heap[vb]? = some (.cells (evCells x).toArray tA (0, 0))) (hne : vb ≠ g) (hi : i < R.length) (hroom : R.length + 1 ≤ c) (hl : R.length < 1000000) :
    Calls Tryz.prog 34 #[.slice (some ⟨g, 0, none⟩) R.length c, .int .i64 i, .slice (some ⟨vb, 0, none⟩) 1 vc] w (ERowNew w base (some g) (R.take i ++ x :: R.drop i)) := by
  obtain ⟨cur, hg, hb, hn, hc, hcl, htk, -⟩ := own_block hown
  have hmx : c ≤ 9223372036854775807 := by unfold maxLen at hc; omega
  have hov : ∀ lb cb, (callFunc 50 #[.slice (some ⟨vb, 0, none⟩) 1 vc, .slice (some ⟨g, (i + 1) * 8, none⟩) lb cb]).run Tryz.prog w = .ok (.value (.bool false)) w := fun lb cb => by
    rw [run_callFunc_extern (P := Tryz.prog) Tryz.func50 (by kernel_rfl) (by kernel_rfl) (by kernel_rfl) (e := Extern.SlicesOverlaps.overlaps #[23, 23] #[4]) (by kernel_rfl),
      Lib.run_overlaps_apart w 23 4 41 u_evs 8 sz_ev ⟨vb, 0, none⟩ ⟨g, (i + 1) * 8, none⟩ 1 vc lb cb hne tA 41 8 (cur.length) (by rw [shape_block hblk]; rfl) (by rw [shape_block hg]; simp) (by rw [hcl]; omega) (frozen_block hblk 0) (frozen_block hblk 8)]
    rfl
  have hdl : (evsCells (R.drop i)).length = (R.length - i) * 8 := by rw [evsCells_len, List.length_drop]
  have hcp1 : ∀ ty dc sc, (Builtin.copy_ #[23, 23] ty #[.slice (some ⟨g, (i + 1) * 8, none⟩) (R.length - i) dc, .slice (some ⟨g, i * 8, none⟩) (R.length + 1 - i) sc]).run Tryz.prog w.drew = .ok (goInt (R.length - i : Nat)) (w.drew.setRow g (spliceL cur ((i + 1) * 8) (evsCells (R.drop i))).toArray) := fun ty dc sc =>
    run_copy_rowK (P := Tryz.prog) w.drew _ _ ty 41 g ((i + 1) * 8) (R.length - i) dc ⟨g, i * 8, none⟩ (R.length + 1 - i) sc cur 41 8 (evsCells (R.drop i)) u_evs s_ev hg (R.length - i) (by simp only [Nat.min_def]; split <;> omega) hdl
      (cells_block hg (i * 8) (fun j u hu => by
        rw [← evsCells_drop, List.getElem?_drop, ← htk] at hu
        rw [List.getElem?_take] at hu
        split at hu
        · exact hu
        · cases hu)) (by rw [hdl, hcl]; omega) (evsCells_one _)
  obtain ⟨cur1, hc1⟩ : ∃ cur1, cur1 = spliceL cur ((i + 1) * 8) (evsCells (R.drop i)) := ⟨_, rfl⟩
  have hcl1 : cur1.length = c * 8 := by rw [hc1, spliceL_len (by rw [hdl, hcl]; omega), hcl]
  rw [← hc1] at hcp1
  obtain ⟨W1, hW1⟩ : ∃ W1, W1 = w.drew.setRow g cur1.toArray := ⟨_, rfl⟩
  have hg1 : W1.heap[g]? = some (.cells cur1.toArray 41 (0, 0)) := by rw [hW1]; exact setRow_block (cur := cur) hg
  have hv1 : W1.heap[vb]? = some (.cells (evCells x).toArray tA (0, 0)) := by rw [hW1, setRow_other w.drew g vb _ hne]; exact hblk
  rw [← hW1] at hcp1
  have hcp2 : ∀ ty dc sc, (Builtin.copy_ #[23, 23] ty #[.slice (some ⟨g, i * 8, none⟩) (R.length + 1 - i) dc, .slice (some ⟨vb, 0, none⟩) 1 sc]).run Tryz.prog W1 = .ok (goInt (1 : Nat)) (W1.setRow g (spliceL cur1 (i * 8) (evCells x)).toArray) := fun ty dc sc =>
    run_copy_rowK (P := Tryz.prog) W1 _ _ ty 41 g (i * 8) (R.length + 1 - i) dc ⟨vb, 0, none⟩ 1 sc cur1 41 8 (evCells x) u_evs s_ev hg1 1 (by simp only [Nat.min_def]; split <;> omega) rfl
      (cells_block hv1 0 (fun j u hu => by simpa using hu)) (by rw [hcl1]; show i * 8 + 8 ≤ c * 8; omega) (fun u hu => evsCells_one [x] u (by simpa [evsCells] using hu))
  obtain ⟨cur2, hc2⟩ : ∃ cur2, cur2 = spliceL cur1 (i * 8) (evCells x) := ⟨_, rfl⟩
  rw [← hc2] at hcp2
  have hcl2 : cur2.length = c * 8 := by rw [hc2, spliceL_len (by rw [hcl1]; show i * 8 + 8 ≤ c * 8; omega), hcl1]
  have hlen : (R.take i ++ x :: R.drop i).length = R.length + 1 := by rw [List.length_append, List.length_cons, List.length_take, List.length_drop]; omega
  have hcells : cur2.take ((R.length + 1) * 8) = evsCells (R.take i ++ x :: R.drop i) := by
    have e1 : cur1.take ((i + 1) * 8 + (R.length - i) * 8) = cur.take ((i + 1) * 8) ++ evsCells (R.drop i) := by rw [hc1, ← hdl]; exact splice_take (by rw [hcl]; omega)
    have e2 : (i + 1) * 8 + (R.length - i) * 8 = (R.length + 1) * 8 := by omega
    rw [e2] at e1
    have e3 : cur1.take (i * 8) = evsCells (R.take i) := by
      have : cur1.take (i * 8) = (cur1.take ((R.length + 1) * 8)).take (i * 8) := by rw [List.take_take]; congr 1; omega
      rw [this, e1, List.take_append_of_le_length (by rw [List.length_take, hcl]; omega), List.take_take, ← evsCells_take, ← htk, List.take_take]
      congr 1
      omega
    have e4 : (cur1.drop (i * 8 + 8)).take ((R.length + 1) * 8 - (i * 8 + 8)) = evsCells (R.drop i) := by
      rw [List.take_drop]
      have h1 : i * 8 + 8 + ((R.length + 1) * 8 - (i * 8 + 8)) = (R.length + 1) * 8 := by omega
      rw [h1, e1, List.drop_append_of_le_length (by rw [List.length_take, hcl]; omega)]
      rw [List.drop_of_length_le (by rw [List.length_take, hcl]; omega), List.nil_append]
    have e5 : evsCells (R.take i ++ x :: R.drop i) = evsCells (R.take i) ++ (evCells x ++ evsCells (R.drop i)) := by rw [evsCells_append]; simp [evsCells]
    rw [e5, hc2]
    unfold spliceL
    rw [e3]
    have l1 : (evsCells (R.take i)).length = i * 8 := by rw [evsCells_len, List.length_take]; omega
    have l2 : (evCells x).length = 8 := rfl
    rw [take_over _ _ (by rw [l1]; omega), take_over _ _ (by rw [l1, l2]; omega), l1, l2]
    congr 2
  have hfin : ERowNew w base (some g) (R.take i ++ x :: R.drop i) (.returned (.slice (some ⟨g, 0, none⟩) (R.length + 1) c)) (W1.setRow g cur2.toArray) := by
    refine ⟨g, c, by rw [hlen], ⟨rfl, own_of_block (setRow_block hg1) hb (by rw [hlen]; exact hroom) hc hcl2 (by rw [hlen]; exact hcells)⟩, ?_, .inl rfl⟩
    rw [hW1]
    exact grown_trans (grown_drew (grown_refl w (some g)) |> fun h => grown_trans h (grown_setRow w.drew g _)) (grown_setRow _ g _)
  have HF := Lib.hid hfin
  clear hfin hcells hcl2 hc2 hv1 hg1 hW1 hcl1 hc1 hdl htk hcl hown hblk hlen
  have hw1 : IntKind.i64.wrap ((i : Int) + 1) = (i : Int) + 1 := by rw [IntKind.wrap_i64]; omega
  have mixed := mixedD
  have hb1 : (0 : Int) ≤ (i : Int) + 1 := by omega
  have htn : ((i : Int) + 1).toNat = i + 1 := by omega
  have hz2 : ¬ ((i : Int) = (R.length : Int)) := by omega
  have hb2 : ¬ (c = i + 1) := by omega
  have hb4 : ¬ (c = i) := by omega
  have hb5 : (i : Int) ≤ (R.length : Int) + 1 := by omega
  have hin : i ≤ R.length := by omega
  go_enter Tryz.func34, Tryz.ntmps34
  go_wp2_with (simp only [hov])
  go_region_law_o (refine step_copy_runI rfl _ _ 23 23 rfl _ _ (by simp [Act.eval, Act.put]) (by simp [Act.eval, Act.put]) (hcp1 _ _ _) ?_)
  go_wp2_with (at_builtin; refine wpList_copy_runI _ rfl _ _ 23 23 rfl _ _ rfl rfl (hcp2 _ _ _) ?_)
  go_ret
  exact HF.out

set_option maxRecDepth 100000 in
set_option maxHeartbeats 4000000 in
/-- slices.Insert of one range ahead of others where there is no room: a new row. -/
theorem einsGrow_any (base g c i : Nat) (R : List EvV) (x : EvV) (vb vc : Nat) (tA : TypeId) (w : World) (hown : w.ownsRow base 41 8 (.slice (some ⟨g, 0, none⟩) R.length c) R.length (evsCells R))
    (hblk : w.heap[vb]? = some (.cells (evCells x).toArray tA (0, 0))) (hi : i < R.length) (hroom : c < R.length + 1) (hl : R.length < 1000000) (hbase : base ≤ w.heap.size) :
    Calls Tryz.prog 34 #[.slice (some ⟨g, 0, none⟩) R.length c, .int .i64 i, .slice (some ⟨vb, 0, none⟩) 1 vc] w (ERowNew w base (some g) (R.take i ++ x :: R.drop i)) := by
  obtain ⟨cur, hg, hb, hn, hc, hcl, htk, -⟩ := own_block hown
  obtain ⟨i0, hi0, hz0, hzs, hzb⟩ := info_parts ev_info
  have hce : c = R.length := by omega
  subst hce
  have hgw : g < w.heap.size := (Array.getElem?_eq_some_iff.1 hg).1
  have hvw : vb < w.heap.size := (Array.getElem?_eq_some_iff.1 hblk).1
  have hold : (Builtin.firstCells i0.size i (.slice (some ⟨g, 0, none⟩) i R.length)).run Tryz.prog w.drew = .ok (evsCells (R.take i)).toArray w.drew := by
    rw [hzs]
    refine run_firstCells_some w.drew 8 i ⟨g, 0, none⟩ i R.length (evsCells (R.take i)) (by rw [evsCells_len, List.length_take]; omega) (cells_block hg 0 (fun j u hu => ?_))
    rw [← evsCells_take, List.getElem?_take] at hu
    split at hu
    · rw [← htk, List.getElem?_take] at hu
      split at hu
      · simpa using hu
      · cases hu
    · cases hu
  have hkk : (R.length : Int) + 1 - (i : Int) = ((R.length + 1 - i : Nat) : Int) := by omega
  have hik : i + (R.length + 1 - i) = R.length + 1 := by omega
  obtain ⟨G, hG⟩ : ∃ G, G = grownCap w (R.length + 1) R.length 41 := ⟨_, rfl⟩
  obtain ⟨row, hrow⟩ : ∃ row : List Value, row = evsCells (R.take i) ++ (Builtin.zeroCells (Value.agg #[.string ⟨#[]⟩, .int .i64 0, .int .i64 0, .int .i64 0, .string ⟨#[]⟩, .string ⟨#[]⟩, .int .i64 0, .string ⟨#[]⟩]).cells (R.length + 1 - i)).toList ++ (Builtin.zeroCells (Value.agg #[.string ⟨#[]⟩, .int .i64 0, .int .i64 0, .int .i64 0, .string ⟨#[]⟩, .string ⟨#[]⟩, .int .i64 0, .string ⟨#[]⟩]).cells (G - (R.length + 1))).toList := ⟨_, rfl⟩
  have hGn : R.length + 1 ≤ G := by rw [hG]; exact grownCap_ge w _ _ _
  have hGm : G ≤ maxLen := by rw [hG]; exact grownCap_le_maxLen w (R.length + 1) R.length 41 (by unfold maxLen; omega)
  have hG63 : G ≤ 9223372036854775807 := by unfold maxLen at hGm; omega
  have hrl : row.length = G * 8 := by
    rw [hrow]
    simp only [List.length_append, evsCells_len, List.length_take, Array.length_toList, size_zeroCells]
    show min i R.length * 8 + (R.length + 1 - i) * 8 + (G - (R.length + 1)) * 8 = G * 8
    omega
  have hrz : ∀ ty, (Builtin.append_ #[23, 3] ty #[.slice (some ⟨g, 0, none⟩) i R.length, .int .i64 ((R.length : Int) + 1 - (i : Int))]).run Tryz.prog w =
      .ok (.slice (some ⟨w.heap.size, 0, none⟩) (R.length + 1) G) (w.drew.alloc (.cells row.toArray 41)) := fun ty => by
    have h := Lib.run_append_grow_zeros w 23 3 ty 41 i0 _ .i64 .i64 u_evs Tryz.underlying3 hi0 hz0 (some ⟨g, 0, none⟩) i R.length (evsCells (R.take i)) hold (R.length + 1 - i) (by omega) (by omega) (by omega) (by omega) (by rw [hzb]; omega) (by rw [hzb, hik]; exact growslice_fits hroom (by omega))
    rw [hik, ← hG] at h
    rw [hkk, h, hrow]
    congr 3
    apply Array.ext'
    simp
  obtain ⟨W1, hW1⟩ : ∃ W1, W1 = w.drew.alloc (.cells row.toArray 41) := ⟨_, rfl⟩
  obtain ⟨gn, hgn⟩ : ∃ gn, gn = w.heap.size := ⟨_, rfl⟩
  rw [← hW1] at hrz
  have hg1 : W1.heap[gn]? = some (.cells row.toArray 41 (0, 0)) := by rw [hW1, hgn]; exact heap_alloc_new w.drew _
  have hv1 : W1.heap[vb]? = some (.cells (evCells x).toArray tA (0, 0)) := by rw [hW1]; exact (heap_alloc_old w.drew _ hvw).trans hblk
  have ho1 : W1.heap[g]? = some (.cells cur.toArray 41 (0, 0)) := by rw [hW1]; exact (heap_alloc_old w.drew _ hgw).trans hg
  rw [← hgn] at hrz
  have hdl : (evsCells (R.drop i)).length = (R.length - i) * 8 := by rw [evsCells_len, List.length_drop]
  have hcp1 : ∀ ty dc sc, (Builtin.copy_ #[23, 23] ty #[.slice (some ⟨gn, i * 8, none⟩) (R.length + 1 - i) dc, .slice (some ⟨vb, 0, none⟩) 1 sc]).run Tryz.prog W1 = .ok (goInt (1 : Nat)) (W1.setRow gn (spliceL row (i * 8) (evCells x)).toArray) := fun ty dc sc =>
    run_copy_rowK (P := Tryz.prog) W1 _ _ ty 41 gn (i * 8) (R.length + 1 - i) dc ⟨vb, 0, none⟩ 1 sc row 41 8 (evCells x) u_evs s_ev hg1 1 (by simp only [Nat.min_def]; split <;> omega) rfl
      (cells_block hv1 0 (fun j u hu => by simpa using hu)) (by rw [hrl]; show i * 8 + 8 ≤ G * 8; omega) (fun u hu => evsCells_one [x] u (by simpa [evsCells] using hu))
  obtain ⟨cur1, hc1⟩ : ∃ cur1, cur1 = spliceL row (i * 8) (evCells x) := ⟨_, rfl⟩
  have hcl1 : cur1.length = G * 8 := by rw [hc1, spliceL_len (by rw [hrl]; show i * 8 + 8 ≤ G * 8; omega), hrl]
  rw [← hc1] at hcp1
  obtain ⟨W2, hW2⟩ : ∃ W2, W2 = W1.setRow gn cur1.toArray := ⟨_, rfl⟩
  have hg2 : W2.heap[gn]? = some (.cells cur1.toArray 41 (0, 0)) := by rw [hW2]; exact setRow_block hg1
  have ho2 : W2.heap[g]? = some (.cells cur.toArray 41 (0, 0)) := by rw [hW2, setRow_other W1 gn g _ (by omega)]; exact ho1
  rw [← hW2] at hcp1
  have hcp2 : ∀ ty dc sc, (Builtin.copy_ #[23, 23] ty #[.slice (some ⟨gn, (i + 1) * 8, none⟩) (R.length - i) dc, .slice (some ⟨g, i * 8, none⟩) (R.length - i) sc]).run Tryz.prog W2.drew = .ok (goInt (R.length - i : Nat)) (W2.drew.setRow gn (spliceL cur1 ((i + 1) * 8) (evsCells (R.drop i))).toArray) := fun ty dc sc =>
    run_copy_rowK (P := Tryz.prog) W2.drew _ _ ty 41 gn ((i + 1) * 8) (R.length - i) dc ⟨g, i * 8, none⟩ (R.length - i) sc cur1 41 8 (evsCells (R.drop i)) u_evs s_ev hg2 (R.length - i) (by simp only [Nat.min_def]; split <;> omega) hdl
      (cells_block ho2 (i * 8) (fun j u hu => by
        rw [← evsCells_drop, List.getElem?_drop, ← htk] at hu
        rw [List.getElem?_take] at hu
        split at hu
        · exact hu
        · cases hu)) (by rw [hdl, hcl1]; omega) (evsCells_one _)
  obtain ⟨cur2, hc2⟩ : ∃ cur2, cur2 = spliceL cur1 ((i + 1) * 8) (evsCells (R.drop i)) := ⟨_, rfl⟩
  rw [← hc2] at hcp2
  have hcl2 : cur2.length = G * 8 := by rw [hc2, spliceL_len (by rw [hdl, hcl1]; omega), hcl1]
  have hlen : (R.take i ++ x :: R.drop i).length = R.length + 1 := by rw [List.length_append, List.length_cons, List.length_take, List.length_drop]; omega
  have hcells : cur2.take ((R.length + 1) * 8) = evsCells (R.take i ++ x :: R.drop i) := by
    have l1 : (evsCells (R.take i)).length = i * 8 := by rw [evsCells_len, List.length_take]; omega
    have l2 : (evCells x).length = 8 := rfl
    have e1 : cur1.take ((i + 1) * 8) = evsCells (R.take i) ++ evCells x := by
      have e0 : row.take (i * 8) = evsCells (R.take i) := by
        rw [hrow, List.append_assoc, List.take_append_of_le_length (by omega), List.take_of_length_le (by omega)]
      have := splice_take (cur := row) (o := i * 8) (cs := evCells x) (by rw [hrl]; omega)
      rw [e0, l2, ← hc1] at this
      rw [← this]
      congr 1
      omega
    have e2 := splice_take (cur := cur1) (o := (i + 1) * 8) (cs := evsCells (R.drop i)) (by rw [hcl1]; omega)
    rw [e1, hdl, ← hc2] at e2
    have e3 : (i + 1) * 8 + (R.length - i) * 8 = (R.length + 1) * 8 := by omega
    rw [e3] at e2
    rw [e2, evsCells_append, List.append_assoc]
    simp [evsCells]
  have hfin : ERowNew w base (some g) (R.take i ++ x :: R.drop i) (.returned (.slice (some ⟨gn, 0, none⟩) (R.length + 1) G)) (W2.drew.setRow gn cur2.toArray) := by
    refine ⟨gn, G, by rw [hlen], ⟨rfl, own_of_block (setRow_block (w := W2.drew) hg2) (by omega) (by rw [hlen]; exact hGn) hGm hcl2 (by rw [hlen]; exact hcells)⟩, ?_, .inr (by omega)⟩
    refine ⟨by rw [hW2, hW1]; rfl, by rw [hW2, hW1]; rfl, by rw [hW2, hW1]; rfl, ?_, fun k hk _ => ?_⟩
    · rw [hW2, hW1]; simp
    · rw [setRow_other W2.drew gn k _ (by omega)]
      show W2.heap[k]? = _
      rw [hW2, setRow_other W1 gn k _ (by omega), hW1]
      exact heap_alloc_old w.drew _ hk
  have HF := Lib.hid hfin
  clear hfin hcells hcl2 hc2 hv1 hg1 hW1 hcl1 hc1 hdl htk hcl hown hblk hlen ho2 hg2 ho1 hW2 hrow hold hi0 hz0 hzs hzb hgw hvw hgn hG hrl hkk hik hg
  have hw1 : IntKind.i64.wrap ((i : Int) + 1) = (i : Int) + 1 := by rw [IntKind.wrap_i64]; omega
  have mixed := mixedD
  have hb1 : (0 : Int) ≤ (i : Int) + 1 := by omega
  have htn : ((i : Int) + 1).toNat = i + 1 := by omega
  have hz2 : ¬ ((i : Int) = (R.length : Int)) := by omega
  have hb2 : ¬ (G = i + 1) := by omega
  have hb3 : ¬ (G = i) := by omega
  have hb4 : ¬ (R.length = i) := by omega
  have hb5 : (i : Int) ≤ (R.length : Int) + 1 := by omega
  have hin : i ≤ R.length := by omega
  have hz3 : (R.length : Int) < (R.length : Int) + 1 := by omega
  go_enter Tryz.func34, Tryz.ntmps34
  go_wp2_with (at_builtin; refine Lib.wpList_append_run _ rfl _ _ _ _ rfl _ _ rfl rfl _ _ (hrz _) ?_)
  go_wp2_with (at_builtin; refine wpList_copy_runI _ rfl _ _ 23 23 rfl _ _ rfl rfl (hcp1 _ _ _) ?_)
  go_region_law_o (refine step_copy_runI rfl _ _ 23 23 rfl _ _ (by simp [Act.eval, Act.put]) (by simp [Act.eval, Act.put]) (hcp2 _ _ _) ?_)
  go_wp2_with fail
  go_ret
  exact HF.out


set_option maxRecDepth 100000 in
/-- slices.Insert of one event, anywhere. -/
theorem insE_any (base : Nat) (A : Option Addr) (c i : Nat) (R : List EvV) (x : EvV) (vb vc : Nat) (tA : TypeId) (w : World) (hown : w.ownsRow base 41 8 (.slice A R.length c) R.length (evsCells R))
    (hblk : w.heap[vb]? = some (.cells (evCells x).toArray tA (0, 0))) (hne : ∀ g, A = some g → vb ≠ g.block) (hi : i ≤ R.length) (hl : R.length < 1000000) (hbase : base ≤ w.heap.size) :
    Calls Tryz.prog 34 #[.slice A R.length c, .int .i64 i, .slice (some ⟨vb, 0, none⟩) 1 vc] w (ERowNew w base (Value.slice A R.length c).ownBlock (R.take i ++ x :: R.drop i)) := by
  rcases Nat.lt_or_ge i R.length with q | q
  · rcases hown.2 with ⟨h1, h2⟩ | ⟨g, cap, cur, h1, h2, -⟩
    · omega
    injection h1 with e1
    subst e1
    rcases Nat.lt_or_ge c (R.length + 1) with q2 | q2
    · exact einsGrow_any base g c i R x vb vc tA w hown hblk q q2 hl hbase
    · exact einsRoom_any base g c i R x vb vc 0 tA w hown hblk (hne _ rfl) q q2 hl
  · have hkl : i = R.length := by omega
    have e : R.take i ++ x :: R.drop i = R ++ [x] := by rw [List.take_of_length_le q, List.drop_of_length_le q]
    rw [e, hkl]
    exact einsEnd_any base A c R x vb vc w hown (cells_block hblk 0 (fun j u hu => by simpa using hu)) (Array.getElem?_eq_some_iff.1 hblk).1 hbase hl

set_option maxHeartbeats 4000000 in
set_option maxRecDepth 1000000 in
/-- sort.Search, whatever the closure says: a place within. -/
theorem search_weak (g : Nat) (cb : Array Value) (n : Nat) (w : World) (eg : ∀ args w, (callFunc g args).run Tryz.prog w = .ok (.enter g args) w) (hsz : n < 4611686018427387904)
    (hf : ∀ W, Below w.heap.size w W → ∀ i : Nat, i < n → Calls Tryz.prog g (#[.int .i64 i] ++ cb) W fun e w' => (∃ b, e = .returned (.bool b)) ∧ Below W.heap.size W w') :
    Calls Tryz.prog 31 #[.int .i64 n, .func (.func g) #[] cb] w fun e w' => (∃ k : Nat, k ≤ n ∧ e = .returned (.int .i64 k)) ∧ Below w.heap.size w w' := by
  have HF := Lib.hid hf
  clear hf
  go_enter Tryz.func31, Tryz.ntmps31
  go_wp2
  go_loopg [5, 6] n (fun kx s5 s6 wr => ∃ (lo hi : Nat), s5 = .int .i64 lo ∧ s6 = .int .i64 hi ∧ lo ≤ hi ∧ hi ≤ n ∧ hi - lo ≤ kx ∧ Hid (Below w.heap.size w wr))
  case atStart => exact ⟨0, n, rfl, rfl, Nat.zero_le _, Nat.le_refl _, by omega, Lib.hid (Below.refl _ _)⟩
  case round =>
    obtain ⟨lo, hi, rfl, rfl, hlh, hin, hg, HB⟩ := hrel
    by_cases hlt : lo < hi
    · have hc := HF.out wr HB.out ((lo + hi) / 2) (by omega)
      rw [show (((lo + hi) / 2 : Nat) : Int) = ((lo : Int) + (hi : Int)) / 2 by omega] at hc
      have HC := Lib.hid hc
      clear hc
      go_wp2_with fail
      refine Calls.mono HC.out ?_
      rintro e w' ⟨⟨b, rfl⟩, hbw⟩
      cases b with
      | false =>
        go_wp2_with fail
        go_roundg (hi - ((lo + hi) / 2 + 1))
        case measure => omega
        case rel => exact ⟨(lo + hi) / 2 + 1, hi, by rw [show ((lo : Int) + (hi : Int)) / 2 + 1 = (((lo + hi) / 2 + 1 : Nat) : Int) by omega], rfl, by omega, hin, Nat.le_refl _, Lib.hid (HB.out.trans (hbw.mono HB.out.size))⟩
      | true =>
        go_wp2_with fail
        go_roundg ((lo + hi) / 2 - lo)
        case measure => omega
        case rel => exact ⟨lo, (lo + hi) / 2, rfl, by rw [show ((lo : Int) + (hi : Int)) / 2 = (((lo + hi) / 2 : Nat) : Int) by omega], by omega, by omega, Nat.le_refl _, Lib.hid (HB.out.trans (hbw.mono HB.out.size))⟩
    · go_wp2
      go_ret
      exact ⟨⟨lo, by omega, rfl⟩, HB.out⟩
end Go.Proofs.YthbijemihaekiaaGreatDoor
