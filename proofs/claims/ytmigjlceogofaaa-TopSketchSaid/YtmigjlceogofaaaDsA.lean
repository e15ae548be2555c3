/- Contract of slices.Insert at a row of uint64 that is the caller's own (printed by gen_dsa.py from DdA). -/
import Derived.Test.YtmigjlceogofaaaKitNs
import Derived.Test.YtmigjlceogofaaaKitR
import Derived.Test.YtmigjlceogofaaaKitL
import Derived.MapViews
import Derived.Shelf.Spec.SlicesInsert
namespace Go.Proofs.Ytmigjlceogofaaa
open Go.ChangeShapes Go.WideShapes Go.ChangeAt Go.RowKit
set_option linter.unusedVariables false
set_option linter.unusedSimpArgs false

theorem u_urs : Try.prog.underlying 127 = some (.slice 95) := Try.underlying127
theorem i_ur : (Try.prog.info? 95).map (fun i => (i.zero, i.size, i.bytes)) = some (some (.int .u64 0), 1, 8) := by kernel_rfl
theorem s_ur : (Try.prog.info? 95).map (·.size) = some 1 := by kernel_rfl
theorem sz_ur (w : World) : (Go.sizeOf 95).run Try.prog w = .ok 1 w := by kernel_rfl
def urCells (x : Int) : List Value := [.int .u64 x]
def ursCells (R : List Int) : List Value := R.map (Value.int .u64)
theorem ursCells_len (R : List Int) : (ursCells R).length = R.length := by unfold ursCells; simp
theorem ursCells_append (A B : List Int) : ursCells (A ++ B) = ursCells A ++ ursCells B := by unfold ursCells; simp
theorem ursCells_one (R : List Int) : ∀ v ∈ ursCells R, v.oneCell' = true := by
  unfold ursCells
  intro v hv
  obtain ⟨r, -, rfl⟩ := List.mem_map.1 hv
  rfl
theorem ursCells_take (R : List Int) (k : Nat) : (ursCells R).take k = ursCells (R.take k) := by unfold ursCells; rw [List.map_take]
theorem ursCells_drop (R : List Int) (k : Nat) : (ursCells R).drop k = ursCells (R.drop k) := by unfold ursCells; rw [List.map_drop]
theorem ursCells_at {R : List Int} {k : Nat} (hk : k < R.length) : (ursCells R)[k]? = some (.int .u64 R[k]) := by unfold ursCells; rw [List.getElem?_map, List.getElem?_eq_getElem hk]; rfl

/-- A row of one's own, not a nil one. -/
def URowAt (w : World) (base g n c : Nat) (R : List Int) : Prop := n = R.length ∧ w.ownsRow base 95 1 (.slice (some ⟨g, 0, none⟩) n c) n (ursCells R)
/-- What an insertion leaves: the row in its block or in a new one. -/
def URowNew (w : World) (base : Nat) (own : Option Nat) (R : List Int) (e : Ending) (w' : World) : Prop :=
  ∃ g c, e = .returned (.slice (some ⟨g, 0, none⟩) R.length c) ∧ URowAt w' base g R.length c R ∧ w.grownBy w' own ∧ (some g = own ∨ w.heap.size ≤ g)

set_option maxRecDepth 100000 in
set_option maxHeartbeats 4000000 in
/-- slices.Insert of one range at the end. -/
theorem uinsEnd_any (base : Nat) (A : Option Addr) (c : Nat) (R : List Int) (x : Int) (vb vc : Nat) (w : World) (hown : w.ownsRow base 95 1 (.slice A R.length c) R.length (ursCells R))
    (hv : ∀ j u, (urCells x)[j]? = some u → w.cell? ((⟨vb, 0, none⟩ : Addr).add j) = some u) (hvb : vb < w.heap.size) (hbase : base ≤ w.heap.size) (hl : R.length < 1000000) :
    Calls Try.prog 99 #[.slice A R.length c, .int .i64 R.length, .slice (some ⟨vb, 0, none⟩) 1 vc] w (URowNew w base (Value.slice A R.length c).ownBlock (R ++ [x])) := by
  obtain ⟨i0, hi, hz, hz1, hz2⟩ := info_parts i_ur
  obtain ⟨v', w', hrun, hown', hg, -, hblk⟩ := run_append_own_at (P := Try.prog) w base 127 127 95 i0 (.int .u64 0) 1 8 u_urs hi hz hz1 hz2 rfl (by omega) (.slice A R.length c) R.length (ursCells R) hown ⟨vb, 0, none⟩ 1 vc (urCells x) rfl hv (fun u hu => ursCells_one [x] u (by simpa [ursCells, urCells] using hu)) (by unfold maxLen; omega) (by omega) hbase
  obtain ⟨A', c', rfl⟩ := own_form hown'
  have hA' : ∃ g, A' = some ⟨g, 0, none⟩ ∧ (some g = (Value.slice A R.length c).ownBlock ∨ w.heap.size ≤ g) := by
    obtain ⟨h0, h1 | ⟨g, cap, cur, h1, h2, h3, -⟩⟩ := hown'
    · have := h1.2; omega
    · injection h1 with e1
      subst e1
      refine ⟨g, rfl, ?_⟩
      rcases hblk with q | q
      · exact .inl (q ▸ rfl)
      · injection q with q
        exact .inr (by simp only at q; omega)
  obtain ⟨g, rfl, hgg⟩ := hA'
  have hfin : URowNew w base (Value.slice A R.length c).ownBlock (R ++ [x]) (.returned (.slice (some ⟨g, 0, none⟩) (R.length + 1) c')) w' := by
    have e : (R ++ [x]).length = R.length + 1 := by simp
    have e2 : ursCells (R ++ [x]) = ursCells R ++ urCells x := by rw [ursCells_append]; simp [ursCells, urCells]
    refine ⟨g, c', by rw [e], ⟨rfl, ?_⟩, hg, hgg⟩
    rw [e, e2]
    exact hown'
  have HF := Lib.hid hfin
  have HO := Lib.hid hown
  clear hfin hg hgg hown' hv hblk hi hz hz1 hz2
  rcases HO.out.2 with ⟨h1, h2⟩ | ⟨g0, cap, cur, h1, h2, h3, h4, -⟩
  · injection h1 with e1 e2 e3
    subst e1 e3
    have hz : R.length = 0 := h2
    rw [hz] at hrun HF ⊢
    clear HO hown h2 e2
    go_enter Try.func99, Try.ntmps99
    go_wp2_with (at_builtin; refine Lib.wpList_append_run _ rfl _ _ _ _ rfl _ _ rfl rfl _ _ hrun ?_)
    go_ret
    exact HF.out
  · injection h1 with e1 e2 e3
    subst e1 e3
    clear HO hown h2 h3
    go_enter Try.func99, Try.ntmps99
    go_wp2_with (at_builtin; refine Lib.wpList_append_run _ rfl _ _ _ _ rfl _ _ rfl rfl _ _ hrun ?_)
    all_goals (go_ret; exact HF.out)

theorem take_overU (a b : List Value) {n : Nat} (h : a.length ≤ n) : (a ++ b).take n = a ++ b.take (n - a.length) := by
  rw [List.take_append, List.take_of_length_le h]
theorem mixedU : Try.prog.follows .mixedOrders = true := by kernel_rfl
theorem splice_takeU {cur : List Value} {o : Nat} {cs : List Value} (h : o ≤ cur.length) : (spliceL cur o cs).take (o + cs.length) = cur.take o ++ cs := by
  unfold spliceL
  rw [← List.append_assoc, List.take_append_of_le_length (by simp; omega)]
  rw [List.take_of_length_le (by simp; omega)]

set_option maxRecDepth 100000 in
set_option maxHeartbeats 4000000 in
/-- slices.Insert of one range ahead of others where there is room: in place. -/
theorem uinsRoom_any (base g c i : Nat) (R : List Int) (x : Int) (vb vc kA : Nat) (tA : TypeId) (w : World) (hown : w.ownsRow base 95 1 (.slice (some ⟨g, 0, none⟩) R.length c) R.length (ursCells R))
    (hblk : w.heap[vb]? = some (.cells (urCells x).toArray tA (0, 0))) (hne : vb ≠ g) (hi : i < R.length) (hroom : R.length + 1 ≤ c) (hl : R.length < 1000000) :
    Calls Try.prog 99 #[.slice (some ⟨g, 0, none⟩) R.length c, .int .i64 i, .slice (some ⟨vb, 0, none⟩) 1 vc] w (URowNew w base (some g) (R.take i ++ x :: R.drop i)) := by
  obtain ⟨cur, hg, hb, hn, hc, hcl, htk, -⟩ := own_block hown
  rw [Nat.mul_one] at hcl htk
  have hmx : c ≤ 9223372036854775807 := by unfold maxLen at hc; omega
  have hov : ∀ lb cb, (callFunc 122 #[.slice (some ⟨vb, 0, none⟩) 1 vc, .slice (some ⟨g, (i + 1), none⟩) lb cb]).run Try.prog w = .ok (.value (.bool false)) w := fun lb cb => by
    rw [run_callFunc_extern (P := Try.prog) Try.func122 (by kernel_rfl) (by kernel_rfl) (by kernel_rfl) (e := Extern.SlicesOverlaps.overlaps #[127, 127] #[4]) (by kernel_rfl),
      Lib.run_overlaps_apart w 127 4 95 u_urs 1 sz_ur ⟨vb, 0, none⟩ ⟨g, (i + 1), none⟩ 1 vc lb cb hne tA 95 1 (cur.length) (by rw [shape_block hblk]; rfl) (by rw [shape_block hg]; simp) (by rw [hcl]; omega) (frozen_block hblk 0) (frozen_block hblk 1)]
    rfl
  have hdl : (ursCells (R.drop i)).length = (R.length - i) := by rw [ursCells_len, List.length_drop]
  have hcp1 : ∀ ty dc sc, (Builtin.copy_ #[127, 127] ty #[.slice (some ⟨g, (i + 1), none⟩) (R.length - i) dc, .slice (some ⟨g, i, none⟩) (R.length + 1 - i) sc]).run Try.prog w.drew = .ok (goInt (R.length - i : Nat)) (w.drew.setRow g (spliceL cur (i + 1) (ursCells (R.drop i))).toArray) := fun ty dc sc =>
    run_copy_rowK (P := Try.prog) w.drew _ _ ty 95 g (i + 1) (R.length - i) dc ⟨g, i, none⟩ (R.length + 1 - i) sc cur 95 1 (ursCells (R.drop i)) u_urs s_ur hg (R.length - i) (by simp only [Nat.min_def]; split <;> omega) (by rw [Nat.mul_one]; exact hdl)
      (cells_block hg (i) (fun j u hu => by
        rw [← ursCells_drop, List.getElem?_drop, ← htk] at hu
        rw [List.getElem?_take] at hu
        split at hu
        · exact hu
        · cases hu)) (by rw [hdl, hcl]; omega) (ursCells_one _)
  obtain ⟨cur1, hc1⟩ : ∃ cur1, cur1 = spliceL cur (i + 1) (ursCells (R.drop i)) := ⟨_, rfl⟩
  have hcl1 : cur1.length = c := by rw [hc1, spliceL_len (by rw [hdl, hcl]; omega), hcl]
  rw [← hc1] at hcp1
  obtain ⟨W1, hW1⟩ : ∃ W1, W1 = w.drew.setRow g cur1.toArray := ⟨_, rfl⟩
  have hg1 : W1.heap[g]? = some (.cells cur1.toArray 95 (0, 0)) := by rw [hW1]; exact setRow_block (cur := cur) hg
  have hv1 : W1.heap[vb]? = some (.cells (urCells x).toArray tA (0, 0)) := by rw [hW1, setRow_other w.drew g vb _ hne]; exact hblk
  rw [← hW1] at hcp1
  have hcp2 : ∀ ty dc sc, (Builtin.copy_ #[127, 127] ty #[.slice (some ⟨g, i, none⟩) (R.length + 1 - i) dc, .slice (some ⟨vb, 0, none⟩) 1 sc]).run Try.prog W1 = .ok (goInt (1 : Nat)) (W1.setRow g (spliceL cur1 (i) (urCells x)).toArray) := fun ty dc sc =>
    run_copy_rowK (P := Try.prog) W1 _ _ ty 95 g (i) (R.length + 1 - i) dc ⟨vb, 0, none⟩ 1 sc cur1 95 1 (urCells x) u_urs s_ur hg1 1 (by simp only [Nat.min_def]; split <;> omega) rfl
      (cells_block hv1 0 (fun j u hu => by simpa using hu)) (by rw [hcl1]; show i + 1 ≤ c; omega) (fun u hu => ursCells_one [x] u (by simpa [ursCells, urCells] using hu))
  obtain ⟨cur2, hc2⟩ : ∃ cur2, cur2 = spliceL cur1 (i) (urCells x) := ⟨_, rfl⟩
  rw [← hc2] at hcp2
  have hcl2 : cur2.length = c := by rw [hc2, spliceL_len (by rw [hcl1]; show i + 1 ≤ c; omega), hcl1]
  have hlen : (R.take i ++ x :: R.drop i).length = R.length + 1 := by rw [List.length_append, List.length_cons, List.length_take, List.length_drop]; omega
  have hcells : cur2.take ((R.length + 1)) = ursCells (R.take i ++ x :: R.drop i) := by
    have e1 : cur1.take ((i + 1) + (R.length - i)) = cur.take (i + 1) ++ ursCells (R.drop i) := by rw [hc1, ← hdl]; exact splice_takeU (by rw [hcl]; omega)
    have e2 : (i + 1) + (R.length - i) = (R.length + 1) := by omega
    rw [e2] at e1
    have e3 : cur1.take (i) = ursCells (R.take i) := by
      have : cur1.take (i) = (cur1.take ((R.length + 1))).take (i) := by rw [List.take_take]; congr 1; omega
      rw [this, e1, List.take_append_of_le_length (by rw [List.length_take, hcl]; omega), List.take_take, ← ursCells_take, ← htk, List.take_take]
      congr 1
      omega
    have e4 : (cur1.drop (i + 1)).take ((R.length + 1) - (i + 1)) = ursCells (R.drop i) := by
      rw [List.take_drop]
      have h1 : i + 1 + ((R.length + 1) - (i + 1)) = (R.length + 1) := by omega
      rw [h1, e1, List.drop_append_of_le_length (by rw [List.length_take, hcl]; omega)]
      rw [List.drop_of_length_le (by rw [List.length_take, hcl]; omega), List.nil_append]
    have e5 : ursCells (R.take i ++ x :: R.drop i) = ursCells (R.take i) ++ (urCells x ++ ursCells (R.drop i)) := by rw [ursCells_append]; simp [ursCells, urCells]
    rw [e5, hc2]
    unfold spliceL
    rw [e3]
    have l1 : (ursCells (R.take i)).length = i := by rw [ursCells_len, List.length_take]; omega
    have l2 : (urCells x).length = 1 := rfl
    rw [take_overU _ _ (by rw [l1]; omega), take_overU _ _ (by rw [l1, l2]; omega), l1, l2]
    congr 2
  have hfin : URowNew w base (some g) (R.take i ++ x :: R.drop i) (.returned (.slice (some ⟨g, 0, none⟩) (R.length + 1) c)) (W1.setRow g cur2.toArray) := by
    refine ⟨g, c, by rw [hlen], ⟨rfl, own_of_block (setRow_block hg1) hb (by rw [hlen]; exact hroom) hc (by rw [Nat.mul_one]; exact hcl2) (by rw [hlen, Nat.mul_one]; exact hcells)⟩, ?_, .inl rfl⟩
    rw [hW1]
    exact grown_trans (grown_drew (grown_refl w (some g)) |> fun h => grown_trans h (grown_setRow w.drew g _)) (grown_setRow _ g _)
  have HF := Lib.hid hfin
  clear hfin hcells hcl2 hc2 hv1 hg1 hW1 hcl1 hc1 hdl htk hcl hown hblk hlen
  have hw1 : IntKind.i64.wrap ((i : Int) + 1) = (i : Int) + 1 := by rw [IntKind.wrap_i64]; omega
  have mixed := mixedU
  have hb1 : (0 : Int) ≤ (i : Int) + 1 := by omega
  have htn : ((i : Int) + 1).toNat = i + 1 := by omega
  have hz2 : ¬ ((i : Int) = (R.length : Int)) := by omega
  have hb2 : ¬ (c = i + 1) := by omega
  have hb4 : ¬ (c = i) := by omega
  have hb5 : (i : Int) ≤ (R.length : Int) + 1 := by omega
  have hin : i ≤ R.length := by omega
  go_enter Try.func99, Try.ntmps99
  go_wp2_with (simp only [hov])
  go_region_law_o (refine step_copy_runI rfl _ _ 127 127 rfl _ _ (by simp [Act.eval, Act.put]) (by simp [Act.eval, Act.put]) (hcp1 _ _ _) ?_)
  go_wp2_with (at_builtin; refine wpList_copy_runI _ rfl _ _ 127 127 rfl _ _ rfl rfl (hcp2 _ _ _) ?_)
  go_ret
  exact HF.out

set_option maxRecDepth 100000 in
set_option maxHeartbeats 4000000 in
/-- slices.Insert of one range ahead of others where there is no room: a new row. -/
theorem uinsGrow_any (base g c i : Nat) (R : List Int) (x : Int) (vb vc : Nat) (tA : TypeId) (w : World) (hown : w.ownsRow base 95 1 (.slice (some ⟨g, 0, none⟩) R.length c) R.length (ursCells R))
    (hblk : w.heap[vb]? = some (.cells (urCells x).toArray tA (0, 0))) (hi : i < R.length) (hroom : c < R.length + 1) (hl : R.length < 1000000) (hbase : base ≤ w.heap.size) :
    Calls Try.prog 99 #[.slice (some ⟨g, 0, none⟩) R.length c, .int .i64 i, .slice (some ⟨vb, 0, none⟩) 1 vc] w (URowNew w base (some g) (R.take i ++ x :: R.drop i)) := by
  obtain ⟨cur, hg, hb, hn, hc, hcl, htk, -⟩ := own_block hown
  rw [Nat.mul_one] at hcl htk
  obtain ⟨i0, hi0, hz0, hzs, hzb⟩ := info_parts i_ur
  have hce : c = R.length := by omega
  subst hce
  have hgw : g < w.heap.size := (Array.getElem?_eq_some_iff.1 hg).1
  have hvw : vb < w.heap.size := (Array.getElem?_eq_some_iff.1 hblk).1
  have hold : (Builtin.firstCells i0.size i (.slice (some ⟨g, 0, none⟩) i R.length)).run Try.prog w.drew = .ok (ursCells (R.take i)).toArray w.drew := by
    rw [hzs]
    refine run_firstCells_some w.drew 1 i ⟨g, 0, none⟩ i R.length (ursCells (R.take i)) (by rw [ursCells_len, List.length_take]; omega) (cells_block hg 0 (fun j u hu => ?_))
    rw [← ursCells_take, List.getElem?_take] at hu
    split at hu
    · rw [← htk, List.getElem?_take] at hu
      split at hu
      · simpa using hu
      · cases hu
    · cases hu
  have hkk : (R.length : Int) + 1 - (i : Int) = ((R.length + 1 - i : Nat) : Int) := by omega
  have hik : i + (R.length + 1 - i) = R.length + 1 := by omega
  obtain ⟨G, hG⟩ : ∃ G, G = grownCap w (R.length + 1) R.length 95 := ⟨_, rfl⟩
  obtain ⟨row, hrow⟩ : ∃ row : List Value, row = ursCells (R.take i) ++ (Builtin.zeroCells (Value.int .u64 0).cells (R.length + 1 - i)).toList ++ (Builtin.zeroCells (Value.int .u64 0).cells (G - (R.length + 1))).toList := ⟨_, rfl⟩
  have hGn : R.length + 1 ≤ G := by rw [hG]; exact grownCap_ge w _ _ _
  have hGm : G ≤ maxLen := by rw [hG]; exact grownCap_le_maxLen w (R.length + 1) R.length 95 (by unfold maxLen; omega)
  have hG63 : G ≤ 9223372036854775807 := by unfold maxLen at hGm; omega
  have hrl : row.length = G := by
    rw [hrow]
    simp only [List.length_append, ursCells_len, List.length_take, Array.length_toList, size_zeroCells]
    show min i R.length + (R.length + 1 - i) * 1 + (G - (R.length + 1)) * 1 = G
    omega
  have hrz : ∀ ty, (Builtin.append_ #[127, 3] ty #[.slice (some ⟨g, 0, none⟩) i R.length, .int .i64 ((R.length : Int) + 1 - (i : Int))]).run Try.prog w =
      .ok (.slice (some ⟨w.heap.size, 0, none⟩) (R.length + 1) G) (w.drew.alloc (.cells row.toArray 95)) := fun ty => by
    have h := Lib.run_append_grow_zeros w 127 3 ty 95 i0 _ .i64 .i64 u_urs Try.underlying3 hi0 hz0 (some ⟨g, 0, none⟩) i R.length (ursCells (R.take i)) hold (R.length + 1 - i) (by omega) (by omega) (by omega) (by omega) (by rw [hzb]; omega) (by rw [hzb, hik]; exact growslice_fits hroom (by omega))
    rw [hik, ← hG] at h
    rw [hkk, h, hrow]
    congr 3
    apply Array.ext'
    simp
  obtain ⟨W1, hW1⟩ : ∃ W1, W1 = w.drew.alloc (.cells row.toArray 95) := ⟨_, rfl⟩
  obtain ⟨gn, hgn⟩ : ∃ gn, gn = w.heap.size := ⟨_, rfl⟩
  rw [← hW1] at hrz
  have hg1 : W1.heap[gn]? = some (.cells row.toArray 95 (0, 0)) := by rw [hW1, hgn]; exact heap_alloc_new w.drew _
  have hv1 : W1.heap[vb]? = some (.cells (urCells x).toArray tA (0, 0)) := by rw [hW1]; exact (heap_alloc_old w.drew _ hvw).trans hblk
  have ho1 : W1.heap[g]? = some (.cells cur.toArray 95 (0, 0)) := by rw [hW1]; exact (heap_alloc_old w.drew _ hgw).trans hg
  rw [← hgn] at hrz
  have hdl : (ursCells (R.drop i)).length = (R.length - i) := by rw [ursCells_len, List.length_drop]
  have hcp1 : ∀ ty dc sc, (Builtin.copy_ #[127, 127] ty #[.slice (some ⟨gn, i, none⟩) (R.length + 1 - i) dc, .slice (some ⟨vb, 0, none⟩) 1 sc]).run Try.prog W1 = .ok (goInt (1 : Nat)) (W1.setRow gn (spliceL row (i) (urCells x)).toArray) := fun ty dc sc =>
    run_copy_rowK (P := Try.prog) W1 _ _ ty 95 gn (i) (R.length + 1 - i) dc ⟨vb, 0, none⟩ 1 sc row 95 1 (urCells x) u_urs s_ur hg1 1 (by simp only [Nat.min_def]; split <;> omega) rfl
      (cells_block hv1 0 (fun j u hu => by simpa using hu)) (by rw [hrl]; show i + 1 ≤ G; omega) (fun u hu => ursCells_one [x] u (by simpa [ursCells, urCells] using hu))
  obtain ⟨cur1, hc1⟩ : ∃ cur1, cur1 = spliceL row (i) (urCells x) := ⟨_, rfl⟩
  have hcl1 : cur1.length = G := by rw [hc1, spliceL_len (by rw [hrl]; show i + 1 ≤ G; omega), hrl]
  rw [← hc1] at hcp1
  obtain ⟨W2, hW2⟩ : ∃ W2, W2 = W1.setRow gn cur1.toArray := ⟨_, rfl⟩
  have hg2 : W2.heap[gn]? = some (.cells cur1.toArray 95 (0, 0)) := by rw [hW2]; exact setRow_block hg1
  have ho2 : W2.heap[g]? = some (.cells cur.toArray 95 (0, 0)) := by rw [hW2, setRow_other W1 gn g _ (by omega)]; exact ho1
  rw [← hW2] at hcp1
  have hcp2 : ∀ ty dc sc, (Builtin.copy_ #[127, 127] ty #[.slice (some ⟨gn, (i + 1), none⟩) (R.length - i) dc, .slice (some ⟨g, i, none⟩) (R.length - i) sc]).run Try.prog W2.drew = .ok (goInt (R.length - i : Nat)) (W2.drew.setRow gn (spliceL cur1 (i + 1) (ursCells (R.drop i))).toArray) := fun ty dc sc =>
    run_copy_rowK (P := Try.prog) W2.drew _ _ ty 95 gn (i + 1) (R.length - i) dc ⟨g, i, none⟩ (R.length - i) sc cur1 95 1 (ursCells (R.drop i)) u_urs s_ur hg2 (R.length - i) (by simp only [Nat.min_def]; split <;> omega) (by rw [Nat.mul_one]; exact hdl)
      (cells_block ho2 (i) (fun j u hu => by
        rw [← ursCells_drop, List.getElem?_drop, ← htk] at hu
        rw [List.getElem?_take] at hu
        split at hu
        · exact hu
        · cases hu)) (by rw [hdl, hcl1]; omega) (ursCells_one _)
  obtain ⟨cur2, hc2⟩ : ∃ cur2, cur2 = spliceL cur1 (i + 1) (ursCells (R.drop i)) := ⟨_, rfl⟩
  rw [← hc2] at hcp2
  have hcl2 : cur2.length = G := by rw [hc2, spliceL_len (by rw [hdl, hcl1]; omega), hcl1]
  have hlen : (R.take i ++ x :: R.drop i).length = R.length + 1 := by rw [List.length_append, List.length_cons, List.length_take, List.length_drop]; omega
  have hcells : cur2.take ((R.length + 1)) = ursCells (R.take i ++ x :: R.drop i) := by
    have l1 : (ursCells (R.take i)).length = i := by rw [ursCells_len, List.length_take]; omega
    have l2 : (urCells x).length = 1 := rfl
    have e1 : cur1.take (i + 1) = ursCells (R.take i) ++ urCells x := by
      have e0 : row.take (i) = ursCells (R.take i) := by
        rw [hrow, List.append_assoc, List.take_append_of_le_length (by omega), List.take_of_length_le (by omega)]
      have := splice_takeU (cur := row) (o := i) (cs := urCells x) (by rw [hrl]; omega)
      rw [e0, l2, ← hc1] at this
      rw [← this]
    have e2 := splice_takeU (cur := cur1) (o := (i + 1)) (cs := ursCells (R.drop i)) (by rw [hcl1]; omega)
    rw [e1, hdl, ← hc2] at e2
    have e3 : (i + 1) + (R.length - i) = (R.length + 1) := by omega
    rw [e3] at e2
    rw [e2, ursCells_append, List.append_assoc]
    simp [ursCells, urCells]
  have hfin : URowNew w base (some g) (R.take i ++ x :: R.drop i) (.returned (.slice (some ⟨gn, 0, none⟩) (R.length + 1) G)) (W2.drew.setRow gn cur2.toArray) := by
    refine ⟨gn, G, by rw [hlen], ⟨rfl, own_of_block (setRow_block (w := W2.drew) hg2) (by omega) (by rw [hlen]; exact hGn) hGm (by rw [Nat.mul_one]; exact hcl2) (by rw [hlen, Nat.mul_one]; exact hcells)⟩, ?_, .inr (by omega)⟩
    refine ⟨by rw [hW2, hW1]; rfl, by rw [hW2, hW1]; rfl, by rw [hW2, hW1]; rfl, ?_, fun k hk _ => ?_⟩
    · rw [hW2, hW1]; simp
    · rw [setRow_other W2.drew gn k _ (by omega)]
      show W2.heap[k]? = _
      rw [hW2, setRow_other W1 gn k _ (by omega), hW1]
      exact heap_alloc_old w.drew _ hk
  have HF := Lib.hid hfin
  clear hfin hcells hcl2 hc2 hv1 hg1 hW1 hcl1 hc1 hdl htk hcl hown hblk hlen ho2 hg2 ho1 hW2 hrow hold hi0 hz0 hzs hzb hgw hvw hgn hG hrl hkk hik hg
  have hw1 : IntKind.i64.wrap ((i : Int) + 1) = (i : Int) + 1 := by rw [IntKind.wrap_i64]; omega
  have mixed := mixedU
  have hb1 : (0 : Int) ≤ (i : Int) + 1 := by omega
  have htn : ((i : Int) + 1).toNat = i + 1 := by omega
  have hz2 : ¬ ((i : Int) = (R.length : Int)) := by omega
  have hb2 : ¬ (G = i + 1) := by omega
  have hb3 : ¬ (G = i) := by omega
  have hb4 : ¬ (R.length = i) := by omega
  have hb5 : (i : Int) ≤ (R.length : Int) + 1 := by omega
  have hin : i ≤ R.length := by omega
  have hz3 : (R.length : Int) < (R.length : Int) + 1 := by omega
  go_enter Try.func99, Try.ntmps99
  go_wp2_with (at_builtin; refine Lib.wpList_append_run _ rfl _ _ _ _ rfl _ _ rfl rfl _ _ (hrz _) ?_)
  go_wp2_with (at_builtin; refine wpList_copy_runI _ rfl _ _ 127 127 rfl _ _ rfl rfl (hcp1 _ _ _) ?_)
  go_region_law_o (refine step_copy_runI rfl _ _ 127 127 rfl _ _ (by simp [Act.eval, Act.put]) (by simp [Act.eval, Act.put]) (hcp2 _ _ _) ?_)
  go_wp2_with fail
  go_ret
  exact HF.out

end Go.Proofs.Ytmigjlceogofaaa
