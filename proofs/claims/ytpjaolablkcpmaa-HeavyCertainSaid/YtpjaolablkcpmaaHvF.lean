/- Contract of heavy.Sure: a range over each() whose body appends under a test. -/
import Derived.Test.YtpjaolablkcpmaaHvE
import Derived.Test.YtpjaolablkcpmaaKitZ
namespace Go.Proofs.Ytpjaolablkcpmaa
open Go.ChangeShapes Go.WideShapes Go.ChangeAt Go.RowKit Go.Shelf Go.Lib Go.Sort Go.Proofs
attribute [local go_sem] Oper.semAt_some
set_option linter.unusedVariables false
set_option linter.unusedSimpArgs false

/-- The keys that have so much. -/
def sureL (S : CntrL) (n : Int) : List ByteArray := (S.filter (fun p => decide (n ≤ p.2))).map (·.1)
def SureOf (S : CntrL) (n : Int) (ks : List ByteArray) : Prop := ks.Pairwise (fun x y => sLt x y = true) ∧ ∀ k, k ∈ ks ↔ ∃ p ∈ S, p.1 = k ∧ n ≤ p.2
theorem mem_sureL {S : CntrL} {n : Int} {k : ByteArray} : k ∈ sureL S n ↔ ∃ p ∈ S, p.1 = k ∧ n ≤ p.2 := by
  unfold sureL
  rw [List.mem_map]
  constructor
  · rintro ⟨p, hp, e⟩
    obtain ⟨h1, h2⟩ := List.mem_filter.1 hp
    exact ⟨p, h1, e, by simpa using h2⟩
  · rintro ⟨p, hp, e, h⟩
    exact ⟨p, List.mem_filter.2 ⟨hp, by simpa using h⟩, e⟩
theorem sureL_nodup {S : CntrL} (hn : (S.map (·.1)).Nodup) (n : Int) : (sureL S n).Nodup := hn.sublist ((List.filter_sublist).map _)
theorem strs_nodup {ks : List ByteArray} (h : ks.Pairwise (fun x y => sLt x y = true)) : ks.Nodup := h.imp (fun {x y} h e => by subst e; rw [sLt_irrefl] at h; cases h)
theorem SureOf.uniq {S : CntrL} {n : Int} {ks ms : List ByteArray} (h : SureOf S n ks) (k : SureOf S n ms) : ks = ms :=
  sorted_unique sLt sLt_irrefl (fun x y z => sLt_trans) ((List.perm_ext_iff_of_nodup (strs_nodup h.1) (strs_nodup k.1)).2 (fun x => by rw [h.2, k.2])) h.1 k.1
theorem SureOf.perm {S T : CntrL} {n : Int} {ks : List ByteArray} (h : SureOf S n ks) (hp : S.Perm T) : SureOf T n ks :=
  ⟨h.1, fun k => (h.2 k).trans ⟨fun ⟨p, hp', e⟩ => ⟨p, hp.mem_iff.1 hp', e⟩, fun ⟨p, hp', e⟩ => ⟨p, hp.mem_iff.2 hp', e⟩⟩⟩
abbrev boxS (n : Int) {S : CntrL} (pre : List (PairOf S)) : List ByteArray := sureL (pre.map (·.1)) n
theorem boxS_snoc (n : Int) {S : CntrL} (pre : List (PairOf S)) (x : PairOf S) : boxS n (pre ++ [x]) = boxS n pre ++ (if n ≤ x.1.2 then [x.1.1] else []) := by
  unfold boxS sureL
  rw [List.map_append, List.filter_append, List.map_append]
  by_cases h : n ≤ x.1.2 <;> simp [h]
theorem boxS_len (n : Int) {S : CntrL} (pre : List (PairOf S)) : (boxS n pre).length ≤ pre.length := by
  unfold boxS sureL
  rw [List.length_map]
  refine Nat.le_trans (List.length_filter_le _ _) ?_
  rw [List.length_map]
  exact Nat.le_refl _
theorem str_infoH : (Try.prog.info? 9).map (fun i => (i.zero, i.size, i.bytes)) = some (some (.string ByteArray.empty), 1, 16) := by kernel_rfl

set_option maxRecDepth 100000 in
set_option maxHeartbeats 4000000 in
theorem hsure_any {hb cb : Nat} {room added total slack : Int} {S : CntrL} {w : World} (h : HeavyAt w hb cb room added total slack S) (hl : (S.length : Int) ≤ 10000) (n : Int) :
    Calls Try.prog 18 #[.pointer (some ⟨hb, 0, none⟩), .int .i64 n] w fun e w' => ∃ A c ks, e = .returned (.slice A (List.length ks) c) ∧ SureOf S n ks ∧ w'.ownsRow w.heap.size 9 1 (.slice A ks.length c) ks.length (ks.map Value.string) ∧ Below w.heap.size w w' := by
    refine (callsIn_wide (n := 8)).1 ?_
    have hbl : hb < w.heap.size := (Array.getElem?_eq_some_iff.1 h.blk).1
    have HA := Lib.hid h
    have hcbl : cb < w.heap.size := h.cnt.lt
    clear h
    refine callsIn_of_wp_marks Try.func18 rfl trivial ?_ rfl
    simp only [Try.ntmps18, List.size_toArray, List.length_cons, List.length_nil, Nat.reduceAdd, Nat.reduceSub, Array.replicate_succ, Array.replicate_zero, List.push_toArray, List.append_toArray, List.nil_append, List.cons_append]
    gi_wp2
    obtain ⟨W4, hW4⟩ : ∃ W4, W4 = (w.alloc (Obj.cells #[Value.int .i64 n] 2)).alloc (Obj.cells #[Value.slice none 0 0] 25) := ⟨_, rfl⟩
    have hB4 : Below w.heap.size w W4 := by rw [hW4]; exact ((Below.refl _ w).alloc (Nat.le_refl _) _).alloc (by simp) _
    have hz4 : W4.heap.size = w.heap.size + 1 + 1 := by rw [hW4]; simp
    have b4 : Boxed W4 (w.heap.size + 1) 25 (.slice none 0 0) := by
      rw [hW4]
      have := Boxed.new (w.alloc (Obj.cells #[Value.int .i64 n] 2)) 25 (.slice none 0 0)
      rwa [World.size_alloc] at this
    have n4 : W4.heap[w.heap.size]? = some (.cells #[Value.int .i64 n] 2) := by
      rw [hW4]
      exact (Below.heap_alloc _ _ _ (by simp)).trans (heap_alloc_new w _)
    have hA4 : HeavyAt W4 hb cb room added total slack S := ⟨(hB4.block hb hbl).trans HA.out.blk, HA.out.cnt.below hB4 hcbl⟩
    obtain ⟨q0, q1, q2, q3, q4⟩ := hA4.cells
    rw [← hW4]
    clear hW4
    refine ⟨trivial, (callsIn_wide.2 (each_any hb cb W4 q2)).mono ?_⟩
    rintro e w1 ⟨rfl, rfl⟩
    obtain ⟨W5, hW5⟩ : ∃ W5, W5 = W4.alloc (.cells #[.map (some cb)] 52) := ⟨_, rfl⟩
    have hB5 : Below W4.heap.size W4 W5 := by rw [hW5]; exact (Below.refl _ W4).alloc (Nat.le_refl _) _
    have hz5 : W5.heap.size = w.heap.size + 1 + 1 + 1 := by rw [hW5, ← hz4]; simp
    have k5 : W5.heap[w.heap.size + 1 + 1]? = some (.cells #[.map (some cb)] 52) := by
      rw [hW5, ← hz4]
      exact heap_alloc_new W4 _
    have b5 : W5.cell? ⟨w.heap.size + 1 + 1, 0, none⟩ = some (.map (some cb)) := by simp [World.cell?, k5]
    have hB45 : Below w.heap.size w W5 := hB4.trans (hB5.mono hB4.size)
    have hS5 := hA4.cnt.below hB5 hA4.cnt.lt
    have x5 : Boxed W5 (w.heap.size + 1) 25 (.slice none 0 0) := (hB5.block _ (by omega)).trans b4
    have n5 : W5.heap[w.heap.size]? = some (.cells #[Value.int .i64 n] 2) := (hB5.block _ (by omega)).trans n4
    rw [← hW5]
    clear hW5 q0 q1 q2 q3 q4 b4 k5 hA4 n4
    rw [hz4]
    gi_wp2
    apply wpIn_rangeFunc_ownG (hro := rfl) (h1 := by omega) (gf := 52) (lb := #[.pointer (some ⟨w.heap.size + 1 + 1, 0, none⟩)]) (hg := rfl) (hFg := trivial) (eg := enters_of Try.func52 (by kernel_rfl) rfl)
      (hseq := allIs_stops (ρ := Try.allH_ren) { Try.allH with } Fence.wide _ trivial rfl (by omega) (w.heap.size + 1 + 1) cb (w.heap.size + 1) (by omega) S W5 (by omega) (by omega) b5 hS5) (hKt := KeepsBut.trans) (hKb := fun W l o o' _ ho _ hw => KeepsBut.putObj _ W l o o' ho hw) (hb0 := Below.refl _ _) (hps := fun _ => rfl)
      (I := fun pre W => (W.heap[w.heap.size]? = some (.cells #[Value.int .i64 n] 2) ∧ (∃ v, Boxed W (w.heap.size + 1) 25 v ∧ W.ownsRow w.heap.size 9 1 v (boxS n pre).length ((boxS n pre).map Value.string) ∧ True)) ∧ Below w.heap.size w W)
      (Ix := fun _ _ _ => False)
      (hI := OwnFrom.and (OwnFrom.and (fun s A B row hs hg hr => (hg.block _ (Array.getElem?_eq_some_iff.1 hs).1 (fun e => by have := (hr _ e.symm).1; omega)).trans hs) (Own.from (holdsRow_own w.heap.size (w.heap.size + 1) 25 9 1 (fun pre : List (PairOf S) => (boxS n pre).length) (fun pre => (boxS n pre).map Value.string) (fun _ _ => True)) _)) (ownFrom_below (Nat.le_refl _) (by omega)))
      (hIx := fun _ _ _ _ _ hs _ _ => hs)
      (h0 := ⟨⟨n5, ⟨_, x5, World.ownsRow_nil _ _ _ _, trivial⟩⟩, hB45⟩)
    case hassign =>
      intro l x W K hK
      gi_wp2
      exact hK
    case hstop =>
      rintro D c pre W _ _ h _
      exact h.elim
    case hbody =>
      rintro l pre x W ⟨⟨hn, ⟨v, hv, hrow, -⟩⟩, hB⟩ hlt
      obtain ⟨A, c, rfl⟩ := own_form hrow
      have hvc := hv.cell
      have hnc : W.cell? ⟨w.heap.size, 0, none⟩ = some (.int .i64 n) := by simp [World.cell?, hn]
      have hz := hB.size
      have hbl2 := boxS_len n pre
      have hsn := boxS_snoc n pre x
      have HSN := Lib.hid hsn
      clear hsn
      obtain ⟨i0, hi, hz0, hz1, hz2⟩ := info_parts str_infoH
      generalize hbs : boxS n pre = bs at *
      by_cases hx : n ≤ x.1.2
      · gi_wp2_with (gi_at_builtin; refine wpListIn_append_own _ rfl _ _ 25 rfl w.heap.size 9 i0 (.string ByteArray.empty) 1 16 Try.underlying25 hi hz0 hz1 hz2 rfl (by decide) (Value.slice A bs.length c) bs.length (bs.map Value.string) rfl (hrow.alloc _) ⟨W.heap.size, 0, none⟩ 1 1 [.string x.1.1] rfl rfl (cell_one_new _ _ _) (by simp [Value.oneCell']) (by unfold maxLen; omega) (by omega) (by simp; omega) ?_; intro v' w1 hown' hgrow _; obtain ⟨g', cap', rfl⟩ := ownsRow_succ hown'; obtain ⟨hv1, hv2, hr2, hk2, hb2⟩ := hv.appended (by decide) hrow hB.size (by omega) hown' hgrow; have hc1 := hv1.cell; have hf1 := hv1.frozen)
        have hn2 : (w1.setCell ⟨w.heap.size + 1, 0, none⟩ (.slice (some ⟨g', 0, none⟩) (bs.length + 1) cap')).heap[w.heap.size]? = some (.cells #[Value.int .i64 n] 2) := by
          have h1 : w1.heap[w.heap.size]? = some (.cells #[Value.int .i64 n] 2) := by
            refine (hgrow.block w.heap.size (by simp; omega) (fun e => ?_)).trans ((Below.heap_alloc W _ _ (Array.getElem?_eq_some_iff.1 hn).1).trans hn)
            obtain ⟨c', fz, hc'⟩ := own_kind hrow w.heap.size e.symm
            rw [hn] at hc'
            injection hc' with hc'
            injection hc' with _ hc' _
            exact absurd hc' (by decide)
          exact (Below.heap_setCell _ _ _ _ (by show w.heap.size ≠ w.heap.size + 1; omega)).trans h1
        refine ⟨hk2.from _, KeepsBut.of_others hk2, ⟨⟨hn2, ⟨_, hv2, ?_, trivial⟩⟩, hB.trans hb2⟩⟩
        have e : boxS n (pre ++ [x]) = bs ++ [x.1.1] := by rw [HSN.out, if_pos hx]
        rw [e, List.length_append, List.map_append]
        exact hr2
      · gi_wp2
        have e : boxS n (pre ++ [x]) = bs := by rw [HSN.out, if_neg (by omega), List.append_nil]
        have hrow2 : W.ownsRow w.heap.size 9 1 (.slice A (boxS n (pre ++ [x])).length c) (boxS n (pre ++ [x])).length ((boxS n (pre ++ [x])).map Value.string) := by rw [e]; exact hrow
        have hv2 : Boxed W (w.heap.size + 1) 25 (.slice A (boxS n (pre ++ [x])).length c) := by rw [e]; exact hv
        refine ⟨KeepsFrom.refl _ _, KeepsBut.refl _ _, ⟨⟨hn, ⟨_, hv2, ?_⟩⟩, hB⟩⟩
        first | exact hrow2 | exact ⟨hrow2, trivial⟩
    case hdone =>
      rintro D ys W hD hS ⟨⟨hn, ⟨v, hv, hrow, -⟩⟩, hB⟩ hK
      obtain ⟨A, c, rfl⟩ := own_form hrow
      have hyl : ys.length = S.length := by have := hS.length_eq; simpa using this
      have hbl2 := boxS_len n ys
      have hmem : ∀ k, k ∈ boxS n ys ↔ ∃ p ∈ S, p.1 = k ∧ n ≤ p.2 := fun k => by
        rw [mem_sureL]
        exact ⟨fun ⟨p, hp', e⟩ => ⟨p, hS.mem_iff.1 hp', e⟩, fun ⟨p, hp', e⟩ => ⟨p, hS.mem_iff.2 hp', e⟩⟩
      have hnd : (boxS n ys).Nodup := sureL_nodup (((hS.map (·.1)).nodup_iff).2 HA.out.cnt.nodup) n
      generalize hbs : boxS n ys = bs at *
      obtain ⟨M, hM, hMs⟩ := sort_ex (lt := sLt) sLt_irrefl (fun x y z => sLt_trans) (fun x y => sLt_total) hnd
      have hso : SureOf S n M := ⟨hMs, fun k => by rw [← hM.mem_iff, hmem]⟩
      have hvc := hv.cell
      have hnr : some (w.heap.size + 1) ≠ (Value.slice A bs.length c).ownBlock := hv.not_row (by decide) hrow
      have hnD : (Value.slice A bs.length c).ownBlock ≠ some D := fun e => by
        obtain ⟨c', fz, hc'⟩ := own_kind hrow D e
        rw [hK] at hc'
        cases hc'
      have q := sortStr (P := Try.prog) Try.sortStrs w.heap.size 9 A bs.length c bs rfl W hrow (by omega) M hM hMs
      have Q := Lib.hid q
      have HSO := Lib.hid hso
      have HB := Lib.hid hB
      have HROW := Lib.hid hrow
      have HK := Lib.hid hK
      have HML := Lib.hid hM.length_eq
      clear q hnd hS hbs hmem hrow hB hK hyl hso hM hMs hn
      gi_wp2
      refine ⟨trivial, (callsIn_wide.2 Q.out).mono ?_⟩
      rintro e w3 ⟨rfl, ho3, hk3⟩
      have hb3 : Below w.heap.size w w3 := HB.out.trans (hk3.toBelow HB.out.size (fun j hj => (HROW.out.lt j hj).1))
      have hDl : D < W.heap.size := (Array.getElem?_eq_some_iff.1 HK.out).1
      have hK3 : w3.heap[D]? = some (.deferred (some [])) := (hk3.block D hDl hnD).trans HK.out
      have hv3 : w3.heap[w.heap.size + 1]? = some (.cells #[.slice A bs.length c] 25 (0, 0)) := (hk3.block _ hv.lt (fun e => hnr e.symm)).trans hv
      have hc3 : w3.cell? ⟨w.heap.size + 1, 0, none⟩ = some (.slice A bs.length c) := by simp [World.cell?, hv3]
      have HK3 := Lib.hid hK3
      have HO3 := Lib.hid ho3
      have HB3 := Lib.hid hb3
      clear hK3 ho3 hb3 hk3 hv3 hnr hnD
      gi_wp2
      refine ⟨by simp, .inl ⟨_, _, rfl, run_takeDeferred HK3.out, ?_⟩⟩
      refine ⟨_, results_tmp rfl _ _ _, A, c, M, by rw [← HML.out]; rfl, HSO.out, ?_, HB3.out.trans (belowK_b (w := w) (Nat.le_refl _) w3 D _ _ (by omega) HK3.out rfl rfl)⟩
      rw [← HML.out]
      exact ownsRow_putObj HO3.out _ HK3.out rfl
end Go.Proofs.Ytpjaolablkcpmaa
