/- Contract of rising.Of. -/
import Derived.Test.YtmigjlceogofaaaRisC
namespace Go.Proofs.Ytmigjlceogofaaa
open Go.ChangeShapes Go.WideShapes Go.ChangeAt Go.RowKit Go.Shelf Go.Lib Go.Sort Go.Proofs
set_option linter.unusedVariables false
set_option linter.unusedSimpArgs false

set_option maxRecDepth 20000 in
set_option maxHeartbeats 2000000 in
theorem rof_yes (pb : Nat) (F : Nat → Prop) (wd : Int) (hist : List AddD) (span now floor : Int) (w : World) (h : PaneObj w pb F wd hist) (hB : ofB wd span now = true) :
    Calls Try.prog 35 #[.pointer (some ⟨pb, 0, none⟩), .int .i64 span, .int .i64 now, .int .i64 floor] w (RisesNew w wd hist span now floor) := by
  have hB' := hB
  simp only [ofB, Bool.and_eq_true, decide_eq_true_eq] at hB'
  obtain ⟨⟨⟨⟨s1, s2⟩, s3⟩, n1⟩, n2⟩ := hB'
  have hwd := h.wide
  have c0 := h.cells
  have t1 : span.tmod wd = 0 := by rw [Int.tmod_eq_emod_of_nonneg (by omega)]; exact s3
  have t2 : now.tmod wd = now % wd := Int.tmod_eq_emod_of_nonneg n1
  have hm1 := Int.emod_nonneg now (show wd ≠ 0 by omega)
  have hm2 := Int.emod_lt_of_pos now (show 0 < wd by omega)
  have hm3 : now % wd ≤ now := by
    have := Int.mul_ediv_add_emod now wd
    have h2 : 0 ≤ wd * (now / wd) := Int.mul_nonneg (by omega) (Int.ediv_nonneg n1 (by omega))
    omega
  have hz : ¬ wd = 0 := by omega
  have hbg : begB wd now = now - now % wd := rfl
  have hwr : IntKind.i64.wrap (now - now % wd) = begB wd now := by rw [hbg]; exact IntWalk.i64_in _ (by omega)
  have hb1 : 0 ≤ begB wd now ∧ begB wd now ≤ 1099511627776 := by omega
  have HO := Lib.hid h
  have HB := Lib.hid hB
  have hcnt : (hist.length : Int) ≤ 1048576 := by have := h.cnt; omega
  clear h hB hbg s3
  go_enter Try.func35, Try.ntmps35
  go_wp2_with (go_at_call 72; refine (pwidth_any pb wd _ c0).mono ?_; rintro e w1 ⟨rfl, rfl⟩)
  generalize hbb : begB wd now = b at *
  have HBB := Lib.hid hbb
  clear hbb hwr t1 t2 hm1 hm2 hm3
  refine (pkeys_any pb F wd hist (b - span) b _ HO.out (by omega) (by omega) (by omega) (by omega)).mono ?_
  rintro e w1 ⟨A1, c1, ks, rfl, hks, hown1, hbw1⟩
  have hO1 : PaneObj w1 pb F wd hist := HO.out.below hbw1
  have hstr : Reads w1 w1.heap.size 1 A1 ks.length (ks.map Value.string) := Reads.of_own hown1
  have hksl : (ks.length : Int) ≤ 1048576 := by have := hks.len; omega
  have HKS := Lib.hid hks
  have HO1 := Lib.hid hO1
  have HSTR := Lib.hid hstr
  have hz1 := hbw1.size
  clear hks hO1 hstr hown1 c0
  go_wp2_with fail
  go_loopg [10, 52] ks.length (fun rest l i wr => ∃ (k : Nat) (A : Option Addr) (c : Nat) (rs : List RiseV), i = .int .i64 k ∧ Hid (k + rest = ks.length) ∧ l = .slice A rs.length c ∧ Hid (rs = gath wd hist span b floor (ks.take k)) ∧
    wr.ownsRow w1.heap.size 70 3 (.slice A rs.length c) rs.length (rs.flatMap riseEnc) ∧ Below w1.heap.size w1 wr)
  case atStart => exact ⟨0, none, 0, [], rfl, Lib.hid (by simp), rfl, Lib.hid rfl, World.ownsRow_nil _ _ _ _, Below.refl _ _⟩
  case round =>
    obtain ⟨k, A, c, rs, rfl, HK, rfl, HR, hown, hb⟩ := hrel
    have hz := hb.size
    have hrl : (rs.length : Int) ≤ (k : Int) := by
      have h1 := gath_len wd hist span b floor (ks.take k)
      have h2 := List.length_take_le k ks
      rw [HR.out]
      omega
    by_cases hk : (k : Int) < (ks.length : Int)
    · have hkl : k < ks.length := by omega
      obtain ⟨b0, o0, rfl, hbl, hcell⟩ := (HSTR.out.below hb).one hkl
      have hmem : 0 < histTot wd hist ks[k] ((b - span) / wd) (b / wd) := (HKS.out.2 _).1 (List.getElem_mem hkl)
      have hxs : ks[k].size ≤ maxLen := by have := HO1.out.key_sz hmem; unfold maxLen; omega
      have hsn := gath_snoc wd hist span b floor (ks.take k) ks[k]
      rw [← List.take_succ_eq_append_getElem hkl, ← HR.out] at hsn
      generalize ks[k] = x at *
      have q1 := psum_any pb F wd hist x (b - span) b wr (HO1.out.below hb) hxs (by omega) (by omega) (by omega) (by omega)
      have q2 := psum_any pb F wd hist x (b - 2 * span) (b - span) wr (HO1.out.below hb) hxs (by omega) (by omega) (by omega) (by omega)
      have t1 := HO1.out.tot_bd x ((b - span) / wd) (b / wd)
      have t2 := HO1.out.tot_bd x ((b - 2 * span) / wd) ((b - span) / wd)
      unfold riseOf at hsn
      generalize histTot wd hist x ((b - span) / wd) (b / wd) = n at *
      generalize histTot wd hist x ((b - 2 * span) / wd) ((b - span) / wd) = o at *
      have Q1 := Lib.hid q1
      have Q2 := Lib.hid q2
      clear q1 q2
      by_cases hfl : floor ≤ n
      · rw [if_pos hfl] at hsn
        have HSN := Lib.hid hsn
        clear hsn
        go_wp2_with fail
        refine Q1.out.mono ?_
        rintro e w2 ⟨rfl, rfl⟩
        go_wp2_with fail
        refine Q2.out.mono ?_
        rintro e w2 ⟨rfl, rfl⟩
        have hownB : (wr.alloc (Obj.cells #[Value.string x, Value.int .i64 n, Value.int .i64 o] 70)).ownsRow w1.heap.size 70 3 (.slice A rs.length c) rs.length (rs.flatMap riseEnc) := hown.alloc _
        go_wp2_with (at_builtin; refine wpList_append_one (wr.alloc (Obj.cells #[Value.string x, Value.int .i64 n, Value.int .i64 o] 70)) rfl _ _ _ rfl w1.heap.size 70 (.agg #[.string ByteArray.empty, .int .i64 0, .int .i64 0]) 3 32 Try.underlying67 rise_info rfl (by decide) A rs.length c _ rfl hownB [.string x, .int .i64 n, .int .i64 o] (by rw [World.size_alloc]; rfl) rfl (by intro u hu; simp at hu; rcases hu with rfl | rfl | rfl <;> rfl) (by omega) (by unfold maxLen; omega) (by simp; omega) ?_; intro A5 c5 w5 hown5 hg5 hb5)
        have hb6 : Below w1.heap.size w1 w5 := (hb.alloc hz _).trans hb5
        have hl5 : (rs ++ [(⟨x, n, o⟩ : RiseV)]).length = rs.length + 1 := by simp
        have HO5 : Hid (w5.ownsRow w1.heap.size 70 3 (.slice A5 (rs ++ [(⟨x, n, o⟩ : RiseV)]).length c5) (rs ++ [(⟨x, n, o⟩ : RiseV)]).length ((rs ++ [(⟨x, n, o⟩ : RiseV)]).flatMap riseEnc)) := Lib.hid (by
          rw [hl5, List.flatMap_append]
          exact hown5)
        clear hown5 hg5 hb5 hown hownB
        go_wp2
        go_roundg (gk - 1)
        case measure => have := HK.out; omega
        case rel => exact ⟨k + 1, A5, c5, rs ++ [⟨x, n, o⟩], by go_num, Lib.hid (by have := HK.out; omega), by rw [hl5], Lib.hid HSN.out.symm, HO5.out, hb6⟩
      · rw [if_neg hfl, List.append_nil] at hsn
        have HSN := Lib.hid hsn
        clear hsn
        go_wp2_with fail
        refine Q1.out.mono ?_
        rintro e w2 ⟨rfl, rfl⟩
        go_wp2_with fail
        refine Q2.out.mono ?_
        rintro e w2 ⟨rfl, rfl⟩
        go_wp2
        go_roundg (gk - 1)
        case measure => have := HK.out; omega
        case rel => exact ⟨k + 1, A, c, rs, by go_num, Lib.hid (by have := HK.out; omega), rfl, Lib.hid HSN.out.symm, hown.alloc _, hb.alloc hz _⟩
    · have hrs : rs = gath wd hist span b floor ks := by
        have h1 := HR.out
        have h2 := HK.out
        rw [List.take_of_length_le (by omega)] at h1
        exact h1
      have hok : ∀ r ∈ rs, RiseOk r := by
        intro r hr
        rw [hrs] at hr
        unfold gath at hr
        rw [List.mem_filter, List.mem_map] at hr
        obtain ⟨⟨y, hy, rfl⟩, _⟩ := hr
        exact riseOf_ok HO1.out span b ((HKS.out.2 y).1 hy)
      have hnd : rs.Nodup := by rw [hrs]; exact gath_nodup _ _ _ _ _ (sLt_nodup HKS.out.1)
      have q := rsort_any w1.heap.size A c rs wr hok hnd hown (by have := HK.out; omega)
      have Q := Lib.hid q
      have HRS := Lib.hid hrs
      clear q hrs hok hnd
      go_wp2_with fail
      refine Q.out.mono ?_
      rintro e w3 ⟨rfl, ms, hp, hs, ho3, hk3⟩
      have hml : ms.length = rs.length := hp.length_eq.symm
      have HML := Lib.hid hml
      have hb3 : Below w.heap.size w w3 := hbw1.trans ((hb.trans (hk3.toBelow hb.size (fun j hj => by have := (hown.lt j hj).1; omega))).mono hz1)
      have HRO : Hid (RisesOf wd hist span now floor ms) := Lib.hid (by
        refine gath_is HB.out (ks := ks) ?_ ?_ hs
        · rw [HBB.out]; exact HKS.out
        · rw [HBB.out, ← HRS.out]; exact hp)
      have HO3 : Hid (w3.ownsRow w.heap.size 70 3 (.slice A ms.length c) ms.length (ms.flatMap riseEnc)) := Lib.hid (by rw [HML.out]; exact own_base ho3 hz1)
      have HLE : Hid (ms.length ≤ hist.length) := Lib.hid (by
        have h1 := gath_len wd hist span b floor ks
        have h2 := HKS.out.len
        rw [← HRS.out] at h1
        rw [HML.out]
        omega)
      clear ho3 hk3 hml hp hs Q
      go_wp2
      go_ret
      exact ⟨A, c, ms, by rw [HML.out]; rfl, HRO.out, HO3.out, hb3, HLE.out⟩

theorem ofB_no {wd span now : Int} {hist : List AddD} {floor : Int} (w : World) (h : ofB wd span now = false) (e : Ending) (he : e = .returned (.slice none 0 0)) (w' : World) (hb : Below w.heap.size w w') : RisesNew w wd hist span now floor e w' :=
  ⟨none, 0, [], he, by unfold RisesOf; rw [if_neg (by simp [h])], World.ownsRow_nil _ _ _ _, hb, by simp⟩

set_option maxRecDepth 20000 in
set_option maxHeartbeats 2000000 in
theorem rof_any (pb : Nat) (F : Nat → Prop) (wd : Int) (hist : List AddD) (span now floor : Int) (w : World) (h : PaneObj w pb F wd hist) :
    Calls Try.prog 35 #[.pointer (some ⟨pb, 0, none⟩), .int .i64 span, .int .i64 now, .int .i64 floor] w (RisesNew w wd hist span now floor) := by
  by_cases hB : ofB wd span now = true
  · exact rof_yes pb F wd hist span now floor w h hB
  · have hB2 : ofB wd span now = false := by simpa using hB
    have fin := fun e he => ofB_no (hist := hist) (floor := floor) w hB2 e he w (Below.refl _ _)
    have hwd := h.wide
    have c0 := h.cells
    have hz : ¬ wd = 0 := by omega
    have FIN := Lib.hid fin
    have HB := Lib.hid hB2
    clear fin hB hB2 h
    by_cases s1 : span < 1
    · clear HB
      go_enter Try.func35, Try.ntmps35
      go_wp2
      go_ret
      exact FIN.out _ rfl
    · by_cases s2 : 1099511627776 < span
      · clear HB
        go_enter Try.func35, Try.ntmps35
        go_wp2
        go_ret
        exact FIN.out _ rfl
      · have t1 : span.tmod wd = span % wd := Int.tmod_eq_emod_of_nonneg (by omega)
        by_cases s3 : span % wd = 0
        · have t2 : span.tmod wd = 0 := by rw [t1, s3]
          by_cases n1 : now < 0
          · clear HB s3 t1
            go_enter Try.func35, Try.ntmps35
            go_wp2_with (go_at_call 72; refine (pwidth_any pb wd _ c0).mono ?_; rintro e w1 ⟨rfl, rfl⟩)
            go_ret
            exact FIN.out _ rfl
          · by_cases n2 : 1099511627776 < now
            · clear HB s3 t1
              go_enter Try.func35, Try.ntmps35
              go_wp2_with (go_at_call 72; refine (pwidth_any pb wd _ c0).mono ?_; rintro e w1 ⟨rfl, rfl⟩)
              go_ret
              exact FIN.out _ rfl
            · exfalso
              have := HB.out
              have e : ofB wd span now = true := by
                unfold ofB
                rw [decide_eq_true (by omega : 1 ≤ span), decide_eq_true (by omega : span ≤ 1099511627776), decide_eq_true s3, decide_eq_true (by omega : 0 ≤ now), decide_eq_true (by omega : now ≤ 1099511627776)]
                rfl
              rw [e] at this
              cases this
        · clear HB t1
          go_enter Try.func35, Try.ntmps35
          go_wp2_with (go_at_call 72; refine (pwidth_any pb wd _ c0).mono ?_; rintro e w1 ⟨rfl, rfl⟩)
          go_ret
          exact FIN.out _ rfl

set_option maxHeartbeats 1000000 in
theorem rof_nil (span now floor : Int) (w : World) :
    Calls Try.prog 35 #[.pointer none, .int .i64 span, .int .i64 now, .int .i64 floor] w fun e w' => e = .returned (.slice none 0 0) ∧ w = w' := by
  go_enter Try.func35, Try.ntmps35
  go_wp2
  go_ret
  exact ⟨rfl, rfl⟩
end Go.Proofs.Ytmigjlceogofaaa
