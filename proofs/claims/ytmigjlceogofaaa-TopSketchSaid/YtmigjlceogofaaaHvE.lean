/- Contracts of heavy's Top and Sure: ranges over each() whose bodies append. -/
import Derived.Test.YtmigjlceogofaaaHvC
import Derived.Test.YtmigjlceogofaaaHvQ
import Derived.WalkSmall
import Derived.RangeFuncBox
import Derived.Test.YtmigjlceogofaaaKitG
namespace Go.Proofs.Ytmigjlceogofaaa
open Go.ChangeShapes Go.WideShapes Go.ChangeAt Go.RowKit Go.Shelf Go.Lib Go.Sort Go.Proofs
attribute [local go_sem] Oper.semAt_some
set_option linter.unusedVariables false
set_option linter.unusedSimpArgs false

theorem KeepsBut.of_others {mb : Nat} {W W' : World} (h : KeepsOthers W W') : KeepsBut mb W W' := ⟨h.size, fun k o hk ho _ => h.same k o hk (by cases o <;> first | rfl | cases ho)⟩

theorem own_kind {w : World} {B : Nat} {e : TypeId} {size : Nat} {v : Value} {n : Nat} {xs : List Value} (h : w.ownsRow B e size v n xs) : ∀ g, v.ownBlock = some g → ∃ c fz, w.heap[g]? = some (.cells c e fz) := by
  intro g hg
  rcases h.2 with ⟨rfl, _⟩ | ⟨g', cap, cur, rfl, _, hb, _⟩
  · simp [Value.ownBlock] at hg
  · obtain rfl : g' = g := by simpa [Value.ownBlock] using hg
    exact ⟨_, _, hb⟩
abbrev boxF (S : CntrL) (pre : List (PairOf S)) : List Value := (pre.map (fun x => hToCnt x.1)).flatMap cntEnc

set_option maxRecDepth 100000 in
set_option maxHeartbeats 4000000 in
theorem htop_any {hb cb : Nat} {room added total slack : Int} {S : CntrL} {w : World} (h : HeavyAt w hb cb room added total slack S) (hl : (S.length : Int) ≤ 10000) (n : Int) (hn : n ≤ 9223372036854775807) :
    Calls Try.prog 68 #[.pointer (some ⟨hb, 0, none⟩), .int .i64 n] w fun e w' => ∃ A c ts, e = .returned (.slice A (List.length ts) c) ∧ TopH S n ts ∧ w'.ownsRow w.heap.size 140 2 (.slice A ts.length c) ts.length (ts.flatMap cntEnc) ∧ Below w.heap.size w w' := by
  by_cases n0 : n ≤ 0
  · have fin : TopH S n [] := TopH.none_ h.cnt.nodup n0
    have FIN := Lib.hid fin
    clear fin h
    go_enter Try.func68, Try.ntmps68
    go_wp2
    go_ret
    exact ⟨none, 0, [], rfl, FIN.out, World.ownsRow_nil _ _ _ _, Below.refl _ _⟩
  · refine (callsIn_wide (n := 8)).1 ?_
    have hbl : hb < w.heap.size := (Array.getElem?_eq_some_iff.1 h.blk).1
    have HA := Lib.hid h
    have hcbl : cb < w.heap.size := h.cnt.lt
    clear h
    refine callsIn_of_wp_marks Try.func68 rfl trivial ?_ rfl
    simp only [Try.ntmps68, List.size_toArray, List.length_cons, List.length_nil, Nat.reduceAdd, Nat.reduceSub, Array.replicate_succ, Array.replicate_zero, List.push_toArray, List.append_toArray, List.nil_append, List.cons_append]
    gi_wp2
    obtain ⟨W4, hW4⟩ : ∃ W4, W4 = w.alloc (Obj.cells #[Value.slice none 0 0] 137) := ⟨_, rfl⟩
    have hB4 : Below w.heap.size w W4 := by rw [hW4]; exact (Below.refl _ w).alloc (Nat.le_refl _) _
    have hz4 : W4.heap.size = w.heap.size + 1 := by rw [hW4]; simp
    have b4 : Boxed W4 w.heap.size 137 (.slice none 0 0) := by rw [hW4]; exact Boxed.new _ _ _
    have hA4 : HeavyAt W4 hb cb room added total slack S := ⟨(hB4.block hb hbl).trans HA.out.blk, HA.out.cnt.below hB4 hcbl⟩
    obtain ⟨q0, q1, q2, q3, q4⟩ := hA4.cells
    rw [← hW4]
    clear hW4
    refine ⟨trivial, (callsIn_wide.2 (each_any hb cb W4 q2)).mono ?_⟩
    rintro e w1 ⟨rfl, rfl⟩
    obtain ⟨W5, hW5⟩ : ∃ W5, W5 = W4.alloc (.cells #[.map (some cb)] 57) := ⟨_, rfl⟩
    have hB5 : Below W4.heap.size W4 W5 := by rw [hW5]; exact (Below.refl _ W4).alloc (Nat.le_refl _) _
    have hz5 : W5.heap.size = w.heap.size + 1 + 1 := by rw [hW5, ← hz4]; simp
    have k5 : W5.heap[w.heap.size + 1]? = some (.cells #[.map (some cb)] 57) := by
      rw [hW5, ← hz4]
      exact heap_alloc_new W4 _
    have b5 : W5.cell? ⟨w.heap.size + 1, 0, none⟩ = some (.map (some cb)) := by simp [World.cell?, k5]
    have hB45 : Below w.heap.size w W5 := hB4.trans (hB5.mono hB4.size)
    have hS5 := hA4.cnt.below hB5 hA4.cnt.lt
    have x5 : Boxed W5 w.heap.size 137 (.slice none 0 0) := (hB5.block _ (by omega)).trans b4
    rw [← hW5]
    clear hW5 q0 q1 q2 q3 q4 b4 k5 hA4
    rw [hz4]
    gi_wp2
    apply wpIn_rangeFunc_ownG (hro := rfl) (h1 := by omega) (gf := 121) (lb := #[.pointer (some ⟨w.heap.size + 1, 0, none⟩)]) (hg := rfl) (hFg := trivial) (eg := enters_of Try.func121 (by kernel_rfl) rfl)
      (hseq := allIs_stops (ρ := Try.allH_ren) { Try.allH with } Fence.wide _ trivial rfl (by omega) (w.heap.size + 1) cb w.heap.size (by omega) S W5 (by omega) (by omega) b5 hS5) (hKt := KeepsBut.trans) (hKb := fun W l o o' _ ho _ hw => KeepsBut.putObj _ W l o o' ho hw) (hb0 := Below.refl _ _) (hps := fun _ => rfl)
      (I := fun pre W => (∃ v, Boxed W w.heap.size 137 v ∧ W.ownsRow w.heap.size 140 2 v pre.length (boxF S pre) ∧ True) ∧ Below w.heap.size w W)
      (Ix := fun _ _ _ => False)
      (hI := OwnFrom.and (Own.from (holdsRow_own w.heap.size w.heap.size 137 140 2 (fun pre : List (PairOf S) => pre.length) (boxF S) (fun _ _ => True)) _) (ownFrom_below (Nat.le_refl _) (by omega)))
      (hIx := fun _ _ _ _ _ hs _ _ => hs)
      (h0 := ⟨⟨_, x5, World.ownsRow_nil _ _ _ _, trivial⟩, hB45⟩)
    case hassign =>
      intro l x W K hK
      gi_wp2
      exact hK
    case hstop =>
      rintro D c pre W _ _ h _
      exact h.elim
    case hbody =>
      rintro l pre x W ⟨⟨v, hv, hrow, -⟩, hB⟩ hlt
      obtain ⟨A, c, rfl⟩ := own_form hrow
      have hvc := hv.cell
      have hz := hB.size
      obtain ⟨i0, hi, hz0, hz1, hz2⟩ := info_parts cnt_info
      gi_wp2_with (gi_at_builtin; refine wpListIn_append_own _ rfl _ _ 137 rfl w.heap.size 140 i0 (.agg #[.string ByteArray.empty, .int .i64 0]) 2 24 Try.underlying137 hi hz0 hz1 hz2 rfl (by decide) (Value.slice A pre.length c) pre.length (boxF S pre) rfl (hrow.alloc _) ⟨W.heap.size, 0, none⟩ 1 1 [.string x.1.1, .int .i64 x.1.2] rfl rfl (cell_two_new _ _ _ _) (by simp [Value.oneCell']) (by unfold maxLen; omega) (by omega) (by simp; omega) ?_; intro v' w1 hown' hgrow _; obtain ⟨g', cap', rfl⟩ := ownsRow_succ hown'; obtain ⟨hv1, hv2, hr2, hk2, hb2⟩ := hv.appended (by decide) hrow hB.size (Nat.le_refl _) hown' hgrow; have hc1 := hv1.cell; have hf1 := hv1.frozen)
      refine ⟨hk2.from _, KeepsBut.of_others hk2, ⟨⟨_, hv2, ?_, trivial⟩, hB.trans hb2⟩⟩
      have e : boxF S (pre ++ [x]) = boxF S pre ++ [Value.string x.1.1, Value.int .i64 x.1.2] := by unfold boxF; rw [List.map_append, List.flatMap_append]; rfl
      rw [e, List.length_append]
      exact hr2
    case hdone =>
      rintro D ys W hD hS ⟨⟨v, hv, hrow, -⟩, hB⟩ hK
      obtain ⟨A, c, rfl⟩ := own_form hrow
      have hyl : ys.length = S.length := by have := hS.length_eq; simpa using this
      obtain ⟨rs, hrs⟩ : ∃ rs, rs = ys.map (fun x => hToCnt x.1) := ⟨_, rfl⟩
      have hrl : rs.length = ys.length := by rw [hrs, List.length_map]
      have hbx : boxF S ys = rs.flatMap cntEnc := by rw [hrs]
      rw [← hrl] at hv hrow
      rw [hbx] at hrow
      have hperm : rs.Perm (S.map hToCnt) := by
        have := hS.map hToCnt
        rw [List.map_map] at this
        rw [hrs]
        exact this
      have hnd : rs.Nodup := hperm.nodup_iff.2 (toCnt_nodup HA.out.cnt.nodup)
      have hvc := hv.cell
      have hnr : some w.heap.size ≠ (Value.slice A rs.length c).ownBlock := hv.not_row (by decide) hrow
      have hnD : (Value.slice A rs.length c).ownBlock ≠ some D := fun e => by
        obtain ⟨c', fz, hc'⟩ := own_kind hrow D e
        rw [hK] at hc'
        cases hc'
      have q := csort_any w.heap.size A c rs W hnd hrow (by omega)
      have Q := Lib.hid q
      have HP := Lib.hid hperm
      have HB := Lib.hid hB
      have HROW := Lib.hid hrow
      have HK := Lib.hid hK
      have hrS : (rs.length : Int) ≤ 10000 := by omega
      clear q hperm hnd hS hrs hbx hrow hB hK hrl hyl
      gi_wp2
      refine ⟨trivial, (callsIn_wide.2 Q.out).mono ?_⟩
      rintro e w3 ⟨rfl, ms, hp, hs, ho3, hk3⟩
      have hml : ms.length = rs.length := hp.length_eq.symm
      have hT : TopOf S ms := ⟨HP.out.symm.trans hp, hs⟩
      have hb3 : Below w.heap.size w w3 := HB.out.trans (hk3.toBelow HB.out.size (fun j hj => (HROW.out.lt j hj).1))
      have hDl : D < W.heap.size := (Array.getElem?_eq_some_iff.1 HK.out).1
      have hK3 : w3.heap[D]? = some (.deferred (some [])) := (hk3.block D hDl hnD).trans HK.out
      have hv3 : w3.heap[w.heap.size]? = some (.cells #[.slice A rs.length c] 137 (0, 0)) := (hk3.block _ hv.lt (fun e => hnr e.symm)).trans hv
      have hc3 : w3.cell? ⟨w.heap.size, 0, none⟩ = some (.slice A rs.length c) := by simp [World.cell?, hv3]
      have hat : CntsAt w3 w3.heap.size A ms := by unfold CntsAt; rw [hml]; exact Reads.of_own ho3
      have hcap := own_capC ho3
      have hll := topM_le n rs.length
      have hzz := hb3.size
      have hq := clone_cnt A w3.heap.size (topM n rs.length) c (ms.take (topM n rs.length)) w3 (hat.take _ (by rw [hml]; exact hll)) (by omega)
      have fin : ∀ A9 c9 w9, w9.ownsRow w3.heap.size 140 2 (.slice A9 (topM n rs.length) c9) (topM n rs.length) ((ms.take (topM n rs.length)).flatMap cntEnc) → Below w3.heap.size w3 w9 → ∃ A c ts, Ending.returned (.slice A9 (topM n rs.length) c9) = .returned (.slice A (List.length ts) c) ∧ TopH S n ts ∧ (w9.putObj D (.deferred none)).ownsRow w.heap.size 140 2 (.slice A ts.length c) ts.length (ts.flatMap cntEnc) ∧ Below w.heap.size w (w9.putObj D (.deferred none)) := by
        intro A9 c9 w9 ho9 hb9
        have hlt : (ms.take (topM n rs.length)).length = topM n rs.length := by rw [List.length_take, hml]; omega
        have hK9 : w9.heap[D]? = some (.deferred (some [])) := (hb9.block D (Array.getElem?_eq_some_iff.1 hK3).1).trans hK3
        refine ⟨A9, c9, ms.take (topM n rs.length), by rw [hlt], ⟨ms, hT, by rw [hml]⟩, by rw [hlt]; exact ownsRow_putObj (own_base ho9 hzz) _ hK9 rfl, (hb3.trans (hb9.mono hzz)).trans (belowK_b (w := w) (Nat.le_refl _) w9 D _ _ (by omega) hK9 rfl rfl)⟩
      have hK9 : ∀ w9, Below w3.heap.size w3 w9 → w9.heap[D]? = some (.deferred (some [])) := fun w9 hb9 => (hb9.block D (Array.getElem?_eq_some_iff.1 hK3).1).trans hK3
      have FIN := Lib.hid fin
      have HK9 := Lib.hid hK9
      have HQ := Lib.hid hq
      clear fin hq hat hT hp hs ho3 hk3 hml hb3 hll hK9 hnr hnD hv3 hK3
      unfold topM at FIN HQ
      have hnm : max n 0 = n := by omega
      rw [hnm] at FIN HQ
      generalize rs.length = lr at *
      gi_wp2
      refine ⟨trivial, (callsIn_wide.2 HQ.out).mono ?_⟩
      rintro r w9 ⟨A9, c9, rfl, ho9, hb9⟩
      gi_wp2
      refine ⟨by simp, .inl ⟨_, _, rfl, run_takeDeferred (HK9.out _ hb9), ?_⟩⟩
      refine ⟨_, results_tmp rfl _ _ _, ?_⟩
      exact FIN.out A9 c9 _ ho9 hb9
end Go.Proofs.Ytmigjlceogofaaa
