/- slices.Values, slices.Collect, slices.Sort and slices.Compact of texts, in the words of ownsRow. -/
import Derived.Test.YtbmkejiijkbmlaaKitW
import Derived.Test.YtbmkejiijkbmlaaKitG
import Derived.Test.YtbmkejiijkbmlaaKitQ
import Derived.Test.YtbmkejiijkbmlaaLayK
import Derived.Shelf.Slices.Cells
import Derived.WalkSmall
import Derived.RangeFuncBox
import Derived.Maps.AppendAt
namespace Go.Proofs.Ytbmkejiijkbmlaa
open Go.ChangeShapes Go.WideShapes Go.ChangeAt Go.RowKit Go.Shelf Go.Lib Go.Sort Go.Proofs
attribute [local go_sem] Oper.semAt_some
set_option linter.unusedVariables false
set_option linter.unusedSimpArgs false

/-- Blocks below B stay. -/
structure KeepsLow (B : Nat) (W W' : World) : Prop where
  size : W.heap.size ≤ W'.heap.size
  same : ∀ k, k < B → k < W.heap.size → W'.heap[k]? = W.heap[k]?
theorem KeepsLow.refl (B : Nat) (W : World) : KeepsLow B W W := ⟨Nat.le_refl _, fun _ _ _ => rfl⟩
theorem KeepsLow.trans {B : Nat} {X Y Z : World} (h : KeepsLow B X Y) (k : KeepsLow B Y Z) : KeepsLow B X Z := ⟨Nat.le_trans h.size k.size, fun i hi hx => (k.same i hi (by have := h.size; omega)).trans (h.same i hi hx)⟩
theorem KeepsLow.cell {B : Nat} {W W' : World} (h : KeepsLow B W W') (hB : B ≤ W.heap.size) {b o : Nat} (hb : b < B) : W'.cell? ⟨b, o, none⟩ = W.cell? ⟨b, o, none⟩ := World.cell?_of_block (w := W) (a := ⟨b, o, none⟩) (h.same b hb (by omega))

def leftV (n : Nat) : Value → Nat
  | .int _ k => n - k.toNat
  | _ => 0

set_option maxRecDepth 100000 in
set_option maxHeartbeats 1000000 in
/-- The iterator over a row of texts. -/
theorem values1_all (n : Nat) (hn : 1 ≤ n) (A : Option Addr) (c B B0 Bm : Nat) (xs : List ByteArray) (w : World) (hm : w.cell? ⟨Bm, 0, none⟩ = some (.slice A xs.length c)) (hBm : Bm < w.heap.size) (hx : StrsAt w B A xs) (hB : B ≤ B0) (hB0 : B0 ≤ w.heap.size) (hl : (xs.length : Int) ≤ 1000000) :
    SeqAll Fence.wide n Try.prog 39 #[.pointer (some ⟨Bm, 0, none⟩)] (fun x : ByteArray => #[Value.string x]) (KeepsLow B0) (fun ys => ys = xs) xs.length w := by
  intro l J W hW hsz hJ hY h0
  have hmW : W.cell? ⟨Bm, 0, none⟩ = some (.slice A xs.length c) := (hW.cell (p := ⟨Bm, 0, none⟩) hBm).trans hm
  have hxW : StrsAt W B A xs := hx.below (hW.mono (by omega))
  have HX := Lib.hid hxW
  have HY := Lib.hid hY
  have HSZ := Lib.hid hsz
  clear hY hxW hx hm hsz
  refine callsIn_of_wp Try.func39 rfl trivial ?_ rfl
  simp only [Try.ntmps39, List.size_toArray, List.length_cons, List.length_nil, Nat.reduceAdd, Nat.reduceSub, Array.replicate_succ, Array.replicate_zero, List.push_toArray, List.append_toArray, List.nil_append, List.cons_append]
  gi_wp2
  gi_loopw [7] (fun v wr => ∃ k : Nat, v = .int .i64 k ∧ Hid (k ≤ xs.length) ∧ J (xs.take k) wr ∧ Hid (KeepsLow B0 W wr)) (fun v wr => leftV xs.length v)
  case atStart => exact ⟨0, rfl, Lib.hid (by omega), by simpa using h0, Lib.hid (KeepsLow.refl _ _)⟩
  case round =>
    obtain ⟨k, rfl, HK, hJk, HKL⟩ := hrel
    by_cases hk : (k : Int) < (xs.length : Int)
    · have hkl : k < xs.length := by omega
      obtain ⟨b, o, rfl, hbl, d1, s1⟩ := HX.out.one hkl
      have d2 := (HKL.out.cell (o := o + k) (by have := HSZ.out; omega) (show b < B0 by omega)).trans d1
      have hts := List.take_succ_eq_append_getElem hkl
      obtain ⟨fn, tmps, assign, body, hy, hR⟩ := HY.out (xs.take k) xs[k] wr hJk (by simp; omega)
      rw [← hts] at hR
      have HR := Lib.hid hR
      clear hts d1 hR
      generalize xs[k] = x at *
      gi_wp2
      refine HR.out.mono ?_
      rintro e W3 ⟨rfl, hJ3, hk3⟩
      have HK3 := Lib.hid (HKL.out.trans hk3)
      clear hk3 HR d2
      gi_wp2
      go_roundw
      case rel => exact ⟨k + 1, by go_num, Lib.hid (by omega), hJ3, HK3⟩
      case measure => simp only [leftV]; omega
    · gi_wp2
      go_end0
      have : k = xs.length := by have := HK.out; omega
      subst this
      rw [List.take_length] at hJk
      exact ⟨⟨_, rfl⟩, hJk⟩

theorem KeepsLow.record {B : Nat} {W : World} {l : Nat} {o : Obj} (hl : B ≤ l) : KeepsLow B W (W.putObj l o) := ⟨by simp [World.putObj], fun k hk _ => World.putObj_heap_other (by omega)⟩
theorem KeepsLow.ofBelow {B : Nat} {W W' : World} (h : Below B W W') : KeepsLow B W W' := ⟨h.size, fun k hk _ => h.block k hk⟩

theorem str_infoK : (Try.prog.info? 9).map (fun i => (i.zero, i.size, i.bytes)) = some (some (.string ByteArray.empty), 1, 16) := by kernel_rfl

set_option maxRecDepth 100000 in
set_option maxHeartbeats 2000000 in
theorem appendValues_any (A : Option Addr) (c B Bm : Nat) (xs : List ByteArray) (w : World) (hm : w.cell? ⟨Bm, 0, none⟩ = some (.slice A xs.length c)) (hBm : Bm < w.heap.size) (hx : StrsAt w B A xs) (hB : B ≤ w.heap.size) (hl : (xs.length : Int) ≤ 1000000) :
    Calls Try.prog 49 #[.slice none 0 0, .func (.func 39) #[] #[.pointer (some ⟨Bm, 0, none⟩)]] w fun e w' => ∃ A' c', e = .returned (.slice A' xs.length c') ∧ w'.ownsRow w.heap.size 9 1 (.slice A' xs.length c') xs.length (xs.map Value.string) ∧ Below w.heap.size w w' := by
  refine (callsIn_wide (n := 6)).1 ?_
  obtain ⟨W4, hW4⟩ : ∃ W4, W4 = w.alloc (Obj.cells #[Value.slice none 0 0] 32) := ⟨_, rfl⟩
  have hB4 : Below w.heap.size w W4 := by rw [hW4]; exact (Below.refl _ w).alloc (Nat.le_refl _) _
  have hz4 : W4.heap.size = w.heap.size + 1 := by rw [hW4]; simp
  have b4 : Boxed W4 w.heap.size 32 (.slice none 0 0) := by rw [hW4]; exact Boxed.new _ _ _
  have hm4 := (hB4.cell (p := ⟨Bm, 0, none⟩) hBm).trans hm
  have hx4 : StrsAt W4 B A xs := hx.below (hB4.mono hB)
  refine callsIn_of_wp_marks Try.func49 rfl trivial ?_ rfl
  simp only [Try.ntmps49, List.size_toArray, List.length_cons, List.length_nil, Nat.reduceAdd, Nat.reduceSub, Array.replicate_succ, Array.replicate_zero, List.push_toArray, List.append_toArray, List.nil_append, List.cons_append]
  gi_wp2
  rw [← hW4]
  clear hW4
  apply wpIn_rangeFunc_all (hro := rfl) (h1 := by omega) (gf := 39) (lb := #[.pointer (some ⟨Bm, 0, none⟩)]) (hg := rfl) (hFg := trivial) (eg := enters_of Try.func39 (by kernel_rfl) rfl)
    (hseq := values1_all _ (by omega) A c B w.heap.size Bm xs W4 hm4 (by omega) hx4 hB (by omega) hl)
    (hKt := KeepsLow.trans) (hKb := fun W o o' ho hc hw => KeepsLow.record (by omega)) (hps := fun _ => rfl)
    (I := fun pre W => (∃ v, Boxed W w.heap.size 32 v ∧ W.ownsRow w.heap.size 9 1 v (List.length pre) (pre.map Value.string) ∧ True) ∧ Below w.heap.size w W)
    (hI := OwnFrom.and (Own.from (holdsRow_own w.heap.size w.heap.size 32 9 1 (fun pre : List ByteArray => pre.length) (fun pre => pre.map Value.string) (fun _ _ => True)) _) (ownFrom_below (Nat.le_refl _) (by omega)))
    (h0 := ⟨⟨_, b4, World.ownsRow_nil _ _ _ _, trivial⟩, hB4⟩)
  case hassign =>
    intro l x W K hK
    gi_wp2
    exact hK
  case hbody =>
    rintro l pre x W ⟨⟨v, hv, hrow, -⟩, hB⟩ hlt
    obtain ⟨A, c, rfl⟩ := own_form hrow
    have hvc := hv.cell
    have hz := hB.size
    obtain ⟨i0, hi, hz0, hz1, hz2⟩ := info_parts str_infoK
    gi_wp2_with (gi_at_builtin; refine wpListIn_append_own _ rfl _ _ 32 rfl w.heap.size 9 i0 (.string ByteArray.empty) 1 16 Try.underlying32 hi hz0 hz1 hz2 rfl (by decide) (Value.slice A pre.length c) pre.length (pre.map Value.string) rfl (hrow.alloc _) ⟨W.heap.size, 0, none⟩ 1 1 [.string x] rfl rfl (cell_one_new _ _ _) (by simp [Value.oneCell']) (by unfold maxLen; omega) (by omega) (by simp; omega) ?_; intro v' w1 hown' hgrow _; obtain ⟨g', cap', rfl⟩ := ownsRow_succ hown'; obtain ⟨hv1, hv2, hr2, hk2, hb2⟩ := hv.appended (by decide) hrow hB.size (Nat.le_refl _) hown' hgrow; have hc1 := hv1.cell; have hf1 := hv1.frozen)
    refine ⟨hk2.from _, KeepsLow.ofBelow hb2, ⟨⟨_, hv2, ?_, trivial⟩, hB.trans hb2⟩⟩
    have e : (pre ++ [x]).map Value.string = pre.map Value.string ++ [Value.string x] := by simp
    rw [e, List.length_append]
    exact hr2
  case hdone =>
    rintro D ys W hD rfl ⟨⟨v, hv, hrow, -⟩, hB⟩ hK
    obtain ⟨A, c, rfl⟩ := own_form hrow
    have hvc := hv.cell
    have HB := Lib.hid hB
    have HROW := Lib.hid hrow
    have HK := Lib.hid hK
    clear hrow hB hK
    gi_wp2
    refine ⟨by simp, .inl ⟨_, _, rfl, run_takeDeferred HK.out, ?_⟩⟩
    refine ⟨_, results_tmp rfl _ _ _, A, c, rfl, ?_, HB.out.trans (belowK_b (w := w) (Nat.le_refl _) W D _ _ (by omega) HK.out rfl rfl)⟩
    exact ownsRow_putObj HROW.out _ HK.out rfl

theorem collectValues_any (A : Option Addr) (c B Bm : Nat) (xs : List ByteArray) (w : World) (hm : w.cell? ⟨Bm, 0, none⟩ = some (.slice A xs.length c)) (hBm : Bm < w.heap.size) (hx : StrsAt w B A xs) (hB : B ≤ w.heap.size) (hl : (xs.length : Int) ≤ 1000000) :
    Calls Try.prog 37 #[.func (.func 39) #[] #[.pointer (some ⟨Bm, 0, none⟩)]] w fun e w' => ∃ A' c', e = .returned (.slice A' xs.length c') ∧ w'.ownsRow w.heap.size 9 1 (.slice A' xs.length c') xs.length (xs.map Value.string) ∧ Below w.heap.size w w' := by
  have H := Lib.hid (appendValues_any A c B Bm xs w hm hBm hx hB hl)
  clear hm hx
  go_enter Try.func37, Try.ntmps37
  go_wp2_with fail
  refine H.out.mono ?_
  rintro e w' ⟨A', c', rfl, h1, h2⟩
  have H1 := Lib.hid h1
  clear h1
  go_wp2
  go_ret
  exact ⟨A', c', rfl, H1.out, h2⟩

theorem values_any (A : Option Addr) (n c : Nat) (w : World) : Calls Try.prog 31 #[.slice A n c] w fun e w' => e = .returned (.func (.func 39) #[] #[.pointer (some ⟨w.heap.size, 0, none⟩)]) ∧ w' = w.alloc (.cells #[.slice A n c] 32) := by
  go_enter Try.func31, Try.ntmps31
  go_wp2
  go_ret
  exact ⟨rfl, rfl⟩

theorem sLt_bytes (x y : ByteArray) : sLt x y = Op.bytesLess x.data.toList y.data.toList := by unfold sLt; rw [toList_data, toList_data]
theorem bl_tot_or (x y : List UInt8) : (!Op.bytesLess y x) = true ∨ (!Op.bytesLess x y) = true := by
  by_cases h : Op.bytesLess y x = true
  · right
    by_cases h2 : Op.bytesLess x y = true
    · have := bl_trans _ _ _ h h2
      rw [bl_irrefl] at this
      cases this
    · simpa using h2
  · left; simpa using h

/-- slices.Sort of texts some of which may be one. -/
theorem sortStrD {P : Program} {ρ : Ren} (L : Lays.n190 P ρ) (base : Nat) (e : TypeId) (A : Option Addr) (cap : Nat) (l : List ByteArray) (w : World) (hown : w.ownsRow base e 1 (.slice A l.length cap) l.length (l.map Value.string)) (hsz : l.length < 4611686018427387904) :
    Calls P (ρ.f 190) #[.slice A l.length cap] w fun r w' => r = .returned (.tuple #[]) ∧ ∃ m : List ByteArray, l.Perm m ∧ m.Pairwise (fun x y => sLt y x = false) ∧ w'.ownsRow base e 1 (.slice A l.length cap) l.length (m.map Value.string) ∧ Keeps (fun j => (Value.slice A l.length cap).ownBlock = some j) w w' := by
  rcases l with _ | ⟨a, l'⟩
  · refine (Any.slices_Sort_string_none (P := P) (ρ := ρ) L A cap w).mono ?_
    rintro r w' ⟨rfl, rfl⟩
    exact ⟨rfl, [], List.Perm.refl _, List.Pairwise.nil, by simpa using hown, Keeps.refl _ _⟩
  · generalize hll : a :: l' = l at *
    obtain ⟨g, cap', hv, hb, hlt⟩ := hown.form (by rw [← hll]; simp)
    injection hv with e1 e2 e3
    subst e1 e3
    obtain ⟨hH, hg⟩ := own_holds hown
    have hHS : Holds encStr w g 0 (l.map (fun s : ByteArray => s.data.toList)).toArray := fun j hj => by
      have := hH j (by simpa using hj)
      have hj' : j < l.length := by simpa using hj
      simpa [hj', encStr] using this
    have q := Any.slices_Sort_string (P := P) (ρ := ρ) L g 0 cap (l.map (fun s : ByteArray => s.data.toList)) w hHS hg (by simpa using hsz)
    rw [List.length_map] at q
    refine q.mono ?_
    rintro r w' ⟨rfl, m', os, rfl⟩
    have e1 : (fun x y : List UInt8 => decide (x ≤ y)) = fun x y => !Op.bytesLess y x := by funext x y; exact le_bytes x y
    rw [e1]
    obtain ⟨ms, hms⟩ : ∃ ms, ms = (l.map (fun s : ByteArray => s.data.toList)).mergeSort (fun x y => !Op.bytesLess y x) := ⟨_, rfl⟩
    have hperm : ms.Perm (l.map (fun s : ByteArray => s.data.toList)) := by rw [hms]; exact List.mergeSort_perm _ _
    have hsort : ms.Pairwise (fun x y => (!Op.bytesLess y x) = true) := by
      rw [hms]
      refine List.pairwise_mergeSort (fun x y z h1 h2 => ?_) (fun x y => by have := bl_tot_or x y; simpa using this) _
      simp only [Bool.not_eq_true'] at *
      exact ntrans_of bl_trans bl_total z y x h2 h1
    rw [← hms]
    have hback : (ms.map mkS).map (fun s : ByteArray => s.data.toList) = ms := by
      rw [List.map_map]
      refine (List.map_congr_left (fun x _ => ?_)).trans (List.map_id _)
      rfl
    clear hms e1
    generalize hm : ms.map mkS = m at *
    have hpm : l.Perm m := by
      rw [← hm]
      have := (hperm.map mkS).symm
      rw [List.map_map] at this
      have e : l.map (mkS ∘ fun s : ByteArray => s.data.toList) = l := (List.map_congr_left (fun x _ => rfl)).trans (List.map_id _)
      rwa [e] at this
    have hso : m.Pairwise (fun x y => sLt y x = false) := by
      rw [← hm, List.pairwise_map]
      refine hsort.imp (fun {x y} h => ?_)
      rw [sLt_bytes]
      show Op.bytesLess y x = false
      simpa using h
    rw [← hback]
    have pr : putRow encStr (Sort.ahead w m') g 0 (m.map (fun s : ByteArray => s.data.toList)).toArray = putRow id (Sort.ahead w m') g 0 (m.map Value.string).toArray := by
      unfold putRow
      refine mapBlock_congr _ _ _ _ (fun c _ _ _ => ?_)
      unfold putCells
      apply Array.ext_getElem?
      intro j
      simp only [Array.getElem?_mapIdx]
      congr 1
      funext x
      by_cases hj : j < m.length
      · simp [hj, encStr]
      · simp [hj]
    rw [pr]
    obtain ⟨o1, o2⟩ := own_put hown (ys := m.map Value.string) (by simp [hpm.length_eq]) m' os
    exact ⟨rfl, m, hpm, hso, o1, o2.mono (fun j _ hj => by subst hj; rfl)⟩

/-- slices.Sorted of a row's values. -/
theorem sortedValues_any (A : Option Addr) (c B Bm : Nat) (xs : List ByteArray) (w : World) (hm : w.cell? ⟨Bm, 0, none⟩ = some (.slice A xs.length c)) (hBm : Bm < w.heap.size) (hx : StrsAt w B A xs) (hB : B ≤ w.heap.size) (hl : (xs.length : Int) ≤ 1000000) :
    Calls Try.prog 30 #[.func (.func 39) #[] #[.pointer (some ⟨Bm, 0, none⟩)]] w fun e w' => ∃ A' c' m, e = .returned (.slice A' (List.length m) c') ∧ xs.Perm m ∧ m.Pairwise (fun x y => sLt y x = false) ∧ w'.ownsRow w.heap.size 9 1 (.slice A' m.length c') m.length (m.map Value.string) ∧ Below w.heap.size w w' := by
  have H := Lib.hid (collectValues_any A c B Bm xs w hm hBm hx hB hl)
  clear hm hx
  go_enter Try.func30, Try.ntmps30
  go_wp2_with fail
  refine H.out.mono ?_
  rintro e w1 ⟨A', c', rfl, h1, h2⟩
  have q := sortStrD (P := Try.prog) Try.sortStrs w.heap.size 9 A' c' xs w1 h1 (by omega)
  have hbase := fun j (hj : (Value.slice A' xs.length c').ownBlock = some j) => (h1.lt j hj).1
  have Q := Lib.hid q
  have HB := Lib.hid hbase
  clear q h1 hbase
  go_wp2_with fail
  refine Q.out.mono ?_
  rintro e w2 ⟨rfl, m, hp, hs, ho, hk⟩
  have hb := h2.trans (hk.toBelow h2.size (fun j hj => HB.out j hj))
  have HO := Lib.hid ho
  have HS := Lib.hid hs
  have HP := Lib.hid hp
  clear ho hs hp hk
  go_wp2
  go_ret
  exact ⟨A', c', m, by rw [HP.out.length_eq]; rfl, HP.out, HS.out, by rw [← HP.out.length_eq]; exact HO.out, hb⟩
end Go.Proofs.Ytbmkejiijkbmlaa

/- What slices.Compact leaves of a row in order. -/
namespace Go.Proofs.Ytbmkejiijkbmlaa
open Go.ChangeShapes Go.WideShapes Go.ChangeAt Go.RowKit Go.Shelf Go.Lib Go.Sort Go.Proofs
theorem keeps_first (d : Array (List UInt8)) : ∀ j : Nat, ∃ i, i ≤ j ∧ keeps d i = true ∧ d[i]! = d[j]!
  | 0 => ⟨0, Nat.le_refl _, by simp [keeps], rfl⟩
  | j + 1 => by
    by_cases h : d[j + 1]! = d[j]!
    · obtain ⟨i, h1, h2, h3⟩ := keeps_first d j
      exact ⟨i, by omega, h2, h3.trans h.symm⟩
    · exact ⟨j + 1, Nat.le_refl _, by simp [keeps, h], rfl⟩
theorem compact_mem (zs : List (List UInt8)) (x : List UInt8) : x ∈ compact zs ↔ x ∈ zs := by
  unfold compact compactUpTo
  rw [List.mem_map]
  constructor
  · rintro ⟨i, hi, rfl⟩
    rw [List.mem_filter, List.mem_range] at hi
    simp [hi.1]
  · intro h
    obtain ⟨j, hj, rfl⟩ := List.getElem_of_mem h
    obtain ⟨i, h1, h2, h3⟩ := keeps_first zs.toArray j
    refine ⟨i, List.mem_filter.2 ⟨List.mem_range.2 (by omega), h2⟩, h3.trans ?_⟩
    simp [hj]
theorem compact_sorted (zs : List (List UInt8)) (h : zs.Pairwise (fun x y => Op.bytesLess y x = false)) : (compact zs).Pairwise (fun x y => Op.bytesLess x y = true) := by
  unfold compact compactUpTo
  rw [List.pairwise_map]
  have hle : ∀ i j, i < j → j < zs.length → Op.bytesLess zs.toArray[j]! zs.toArray[i]! = false := fun i j hij hj => by
    have := (List.pairwise_iff_getElem.1 h) i j (by omega) hj hij
    simpa [hj, show i < zs.length by omega] using this
  refine List.Pairwise.imp_of_mem ?_ (List.Pairwise.sublist List.filter_sublist (List.pairwise_lt_range (n := zs.length)))
  intro i j hi hj hij
  rw [List.mem_filter, List.mem_range] at hi hj
  have hj0 : j ≠ 0 := by omega
  have hk : zs.toArray[j]! ≠ zs.toArray[j - 1]! := by simpa [keeps, hj0] using hj.2
  cases hb : Op.bytesLess zs.toArray[i]! zs.toArray[j]! with
  | true => rfl
  | false =>
    exfalso
    have e1 := bl_total _ _ hb (hle i j hij hj.1)
    by_cases e : i = j - 1
    · subst e; exact hk e1.symm
    · have a1 := hle i (j - 1) (by omega) (by omega)
      have a2 := hle (j - 1) j (by omega) hj.1
      rw [← e1] at a2
      have e2 := bl_total _ _ a2 a1
      exact hk (e1.symm.trans e2)
end Go.Proofs.Ytbmkejiijkbmlaa
