/- Contract of window.Top. -/
import Derived.Test.YtcaglkefhbbnbaaWtA
import Derived.Test.YtcaglkefhbbnbaaLawC
import Derived.Test.YtcaglkefhbbnbaaLawD
namespace Go.Proofs.Ytcaglkefhbbnbaa
open Go.ChangeShapes Go.WideShapes Go.ChangeAt Go.RowKit Go.Shelf Go.Lib Go.Sort Go.Proofs
set_option linter.unusedVariables false
set_option linter.unusedSimpArgs false

/-- What window.Top tells. -/
def TopIs (wd : Int) (hist : List AddD) (s h e n : Int) (ts : List CntV) : Prop :=
  if 0 < n ∧ isEndB s h wd e = true then ∃ cs, CntsOf wd hist ((e - s) / wd) (e / wd) cs ∧ ts = cs.take (topM n cs.length) else ts = []
def TopIsNew (w : World) (wd : Int) (hist : List AddD) (s h e n : Int) (r : Ending) (w' : World) : Prop :=
  ∃ A c ts, r = .returned (.slice A (List.length ts) c) ∧ TopIs wd hist s h e n ts ∧ w'.ownsRow w.heap.size 53 2 (.slice A ts.length c) ts.length (ts.flatMap cntEnc) ∧ Below w.heap.size w w' ∧ ts.length ≤ hist.length

def cntOf (wd : Int) (hist : List AddD) (lo hi : Int) (k : ByteArray) : CntV := ⟨k, histTot wd hist k lo hi⟩
theorem cnts_of_keys {wd : Int} {hist : List AddD} {lo hi : Int} {ks : List ByteArray} {ms : List CntV} (h : KeysOf wd hist lo hi ks) (hp : (ks.map (cntOf wd hist lo hi)).Perm ms) (hs : ms.Pairwise (fun x y => cntLt x y = true)) : CntsOf wd hist lo hi ms := by
  refine ⟨hs, fun r => ?_⟩
  rw [← hp.mem_iff, List.mem_map]
  constructor
  · rintro ⟨k, hk, rfl⟩
    exact ⟨rfl, (h.2 k).1 hk⟩
  · rintro ⟨h1, h2⟩
    exact ⟨r.key, (h.2 _).2 (by omega), CntV.same ⟨rfl, h1.symm⟩⟩
theorem cnts_keys_nodup {wd : Int} {hist : List AddD} {lo hi : Int} {ks : List ByteArray} (h : ks.Nodup) : (ks.map (cntOf wd hist lo hi)).Nodup := by
  refine List.pairwise_map.2 (h.imp ?_)
  intro a b hab e
  exact hab (congrArg CntV.key e)

theorem PaneObj.pb_lt {w : World} {pb : Nat} {F : Nat → Prop} {wd : Int} {hist : List AddD} (h : PaneObj w pb F wd hist) : pb < w.heap.size := by
  obtain ⟨bs, br, S, R, h1, h2, rfl⟩ := h
  exact (Array.getElem?_eq_some_iff.1 h1.blk).1
theorem PaneObj.tot_bd2 {w : World} {pb : Nat} {F : Nat → Prop} {wd : Int} {hist : List AddD} (h : PaneObj w pb F wd hist) (key : ByteArray) (lo hi : Int) : 0 ≤ histTot wd hist key lo hi ∧ histTot wd hist key lo hi ≤ 1099511627776 := by
  obtain ⟨bs, br, S, R, h1, h2, rfl⟩ := h
  rw [← h2.same]
  exact h2.bound key lo hi
theorem PaneObj.key_sz2 {w : World} {pb : Nat} {F : Nat → Prop} {wd : Int} {hist : List AddD} (h : PaneObj w pb F wd hist) {key : ByteArray} {lo hi : Int} (hk : 0 < histTot wd hist key lo hi) : 1 ≤ key.size ∧ key.size ≤ 24 := by
  obtain ⟨bs, br, S, R, h1, h2, rfl⟩ := h
  obtain ⟨a, ha, e, _⟩ := histTot_key (wd := wd) (hist := hist) (key := key) (lo := lo) (hi := hi) (by omega)
  rw [← e]
  exact (h2.ticks a ha).2.2.2.2
theorem PaneObj.cnt2 {w : World} {pb : Nat} {F : Nat → Prop} {wd : Int} {hist : List AddD} (h : PaneObj w pb F wd hist) : hist.length ≤ 1048576 := by
  obtain ⟨bs, br, S, R, h1, h2, rfl⟩ := h
  exact h2.cnt

set_option maxRecDepth 20000 in
set_option maxHeartbeats 2000000 in
theorem wtop_any (pb : Nat) (F : Nat → Prop) (wd : Int) (hist : List AddD) (s h e n : Int) (w : World) (hO : PaneObj w pb F wd hist) (hn : n ≤ 9223372036854775807) :
    Calls Try.prog 28 #[.pointer (some ⟨pb, 0, none⟩), .agg #[.int .i64 s, .int .i64 h], .int .i64 e, .int .i64 n] w (TopIsNew w wd hist s h e n) := by
  have hwd := hO.wide
  have hpb : pb < w.heap.size := hO.pb_lt
  have HO := Lib.hid hO
  have hb0 : Below w.heap.size w (w.alloc (Obj.cells #[.int .i64 s, .int .i64 h] 23)) := (Below.refl _ _).alloc (Nat.le_refl _) _
  have HO0 := Lib.hid (HO.out.below hb0)
  have hc := HO0.out.cells
  have hno : ∀ W', Below w.heap.size w W' → ¬ (0 < n ∧ isEndB s h wd e = true) → TopIsNew w wd hist s h e n (.returned (.slice none 0 0)) W' := fun W' hb hx =>
    ⟨none, 0, [], rfl, by unfold TopIs; rw [if_neg hx], World.ownsRow_nil _ _ _ _, hb, by simp⟩
  have HNO := Lib.hid hno
  clear hno hO
  by_cases n0 : n ≤ 0
  · go_enter Try.func28, Try.ntmps28
    go_wp2
    go_ret
    exact HNO.out _ hb0 (fun x => by omega)
  · have q := isEnd_any pb s h wd e (w.alloc (Obj.cells #[.int .i64 s, .int .i64 h] 23)) hc (by simp; omega) hwd.2
    have Q := Lib.hid q
    clear q
    have hz0 : w.heap.size < (w.alloc (Obj.cells #[.int .i64 s, .int .i64 h] 23)).heap.size := by simp
    by_cases hE : isEndB s h wd e = true
    · have hbd := isEndB_bd hE
      have HE := Lib.hid hE
      clear hE
      go_enter Try.func28, Try.ntmps28
      go_wp2_with fail
      have k0 : (w.alloc (Obj.cells #[.int .i64 s, .int .i64 h] 23)).cell? ⟨w.heap.size, 0, none⟩ = some (.int .i64 s) := by simp
      have k1 : (w.alloc (Obj.cells #[.int .i64 s, .int .i64 h] 23)).cell? ⟨w.heap.size, 1, none⟩ = some (.int .i64 h) := by simp
      generalize w.alloc (Obj.cells #[.int .i64 s, .int .i64 h] 23) = W0 at *
      refine Q.out.mono ?_
      rintro r w1 ⟨rfl, hb1⟩
      rw [HE.out]
      have hB1 : Below w.heap.size w w1 := hb0.trans (hb1.mono hb0.size)
      have j0 := (hb1.cell (p := ⟨w.heap.size, 0, none⟩) hz0).trans k0
      have HO1 := Lib.hid (HO0.out.below hb1)
      have hz1 : w.heap.size < w1.heap.size := by have := hb1.size; omega
      clear hb1 k0 k1 hb0 hz0 Q hc
      go_wp2_with fail
      refine (pkeys_any pb F wd hist (e - s) e w1 HO1.out (by omega) (by omega) (by omega) (by omega)).mono ?_
      rintro r w2 ⟨A2, c2, ks, rfl, hks, hown2, hb2⟩
      have hO2 : PaneObj w2 pb F wd hist := HO1.out.below hb2
      have hstr : Reads w2 w2.heap.size 1 A2 ks.length (ks.map Value.string) := Reads.of_own hown2
      have hcnt : (hist.length : Int) ≤ 1048576 := by have := HO.out.cnt2; omega
      have hksl : (ks.length : Int) ≤ 1048576 := by have := hks.len; omega
      have hB2 : Below w.heap.size w w2 := hB1.trans (hb2.mono hB1.size)
      have i0 := (hb2.cell (p := ⟨w.heap.size, 0, none⟩) hz1).trans j0
      have hz2 : w.heap.size < w2.heap.size := by have := hb2.size; omega
      have HKS := Lib.hid hks
      have HO2 := Lib.hid hO2
      have HSTR := Lib.hid hstr
      have HB2 := Lib.hid hB2
      clear hks hO2 hstr hown2 j0 hb2 hB1 hB2 hz1 HO1
      go_wp2_with fail
      go_loopg [9, 29] ks.length (fun rest l i wr => ∃ (k : Nat) (A : Option Addr) (c : Nat) (rs : List CntV), i = .int .i64 k ∧ Hid (k + rest = ks.length) ∧ l = .slice A rs.length c ∧ Hid (rs = (ks.take k).map (cntOf wd hist ((e - s) / wd) (e / wd))) ∧
        wr.ownsRow w2.heap.size 53 2 (.slice A rs.length c) rs.length (rs.flatMap cntEnc) ∧ Below w2.heap.size w2 wr)
      case atStart => exact ⟨0, none, 0, [], rfl, Lib.hid (by simp), rfl, Lib.hid rfl, World.ownsRow_nil _ _ _ _, Below.refl _ _⟩
      case round =>
        obtain ⟨k, A, c, rs, rfl, HK, rfl, HR, hown, hb⟩ := hrel
        have hz := hb.size
        have hrl : (rs.length : Int) ≤ (k : Int) := by
          have h2 := List.length_take_le k ks
          rw [HR.out, List.length_map]
          omega
        have m0 := (hb.cell (p := ⟨w.heap.size, 0, none⟩) hz2).trans i0
        by_cases hk : (k : Int) < (ks.length : Int)
        · have hkl : k < ks.length := by omega
          obtain ⟨b0, o0, rfl, hbl, hcell⟩ := (HSTR.out.below hb).one hkl
          have hmem : 0 < histTot wd hist ks[k] ((e - s) / wd) (e / wd) := (HKS.out.2 _).1 (List.getElem_mem hkl)
          have hxs : ks[k].size ≤ maxLen := by have := HO2.out.key_sz2 hmem; unfold maxLen; omega
          have hsn : (ks.take (k + 1)).map (cntOf wd hist ((e - s) / wd) (e / wd)) = rs ++ [cntOf wd hist ((e - s) / wd) (e / wd) ks[k]] := by
            rw [List.take_succ_eq_append_getElem hkl, List.map_append, ← HR.out]
            rfl
          generalize ks[k] = x at *
          have q1 := psum_any pb F wd hist x (e - s) e wr (HO2.out.below hb) hxs (by omega) (by omega) (by omega) (by omega)
          have Q1 := Lib.hid q1
          have HSN := Lib.hid hsn
          unfold cntOf at HSN
          clear q1 hsn
          have t1 := HO2.out.tot_bd2 x ((e - s) / wd) (e / wd)
          generalize histTot wd hist x ((e - s) / wd) (e / wd) = N at *
          go_wp2_with fail
          refine Q1.out.mono ?_
          rintro r w3 ⟨rfl, rfl⟩
          go_wp2_with (at_builtin; refine wpList_append_one wr rfl _ _ _ rfl w2.heap.size 53 (.agg #[.string ByteArray.empty, .int .i64 0]) 2 24 Try.underlying47 cnt_info rfl (by decide) A rs.length c _ rfl hown [.string x, .int .i64 N] rfl rfl (by intro u hu; simp at hu; rcases hu with rfl | rfl <;> rfl) (by omega) (by unfold maxLen; omega) (by omega) ?_; intro A5 c5 w5 hown5 hg5 hb5)
          have hb6 : Below w2.heap.size w2 w5 := hb.trans hb5
          have hl5 : (rs ++ [(⟨x, N⟩ : CntV)]).length = rs.length + 1 := by simp
          have HO5 : Hid (w5.ownsRow w2.heap.size 53 2 (.slice A5 (rs ++ [(⟨x, N⟩ : CntV)]).length c5) (rs ++ [(⟨x, N⟩ : CntV)]).length ((rs ++ [(⟨x, N⟩ : CntV)]).flatMap cntEnc)) := Lib.hid (by
            rw [hl5, List.flatMap_append]
            exact hown5)
          clear hown5 hg5 hb5 hown
          go_wp2
          go_roundg (gk - 1)
          case measure => have := HK.out; omega
          case rel => exact ⟨k + 1, A5, c5, rs ++ [⟨x, N⟩], by go_num, Lib.hid (by have := HK.out; omega), by rw [hl5], Lib.hid HSN.out.symm, HO5.out, hb6⟩
        · have hrs : rs = ks.map (cntOf wd hist ((e - s) / wd) (e / wd)) := by
            have h1 := HR.out
            have h2 := HK.out
            rw [List.take_of_length_le (by omega)] at h1
            exact h1
          have hnd : rs.Nodup := by rw [hrs]; exact cnts_keys_nodup (sLt_nodup HKS.out.1)
          have q := csort_any w2.heap.size A c rs wr hnd hown (by have := HK.out; omega)
          have Q := Lib.hid q
          have HRS := Lib.hid hrs
          clear q hrs hnd
          go_wp2_with fail
          refine Q.out.mono ?_
          rintro r w3 ⟨rfl, ms, hp, hs, ho3, hk3⟩
          have hml : ms.length = rs.length := hp.length_eq.symm
          have hcs : CntsOf wd hist ((e - s) / wd) (e / wd) ms := cnts_of_keys HKS.out (by rw [← HRS.out]; exact hp) hs
          have hb3 : Below w2.heap.size w2 w3 := hb.trans (hk3.toBelow hb.size (fun j hj => by have := (hown.lt j hj).1; omega))
          have hB3 : Below w.heap.size w w3 := HB2.out.trans (hb3.mono HB2.out.size)
          have hcap := own_capC ho3
          have hat : CntsAt w3 w3.heap.size A ms := by unfold CntsAt; rw [hml]; exact Reads.of_own ho3
          have hzz := hB3.size
          have hll := topM_le n rs.length
          have hq := clone_cnt A w3.heap.size (topM n rs.length) c (ms.take (topM n rs.length)) w3 (hat.take _ (by rw [hml]; exact hll)) (by have := HK.out; omega)
          have fin : ∀ A9 c9 w9, w9.ownsRow w3.heap.size 53 2 (.slice A9 (topM n rs.length) c9) (topM n rs.length) ((ms.take (topM n rs.length)).flatMap cntEnc) → Below w3.heap.size w3 w9 → TopIsNew w wd hist s h e n (.returned (.slice A9 (topM n rs.length) c9)) w9 := by
            intro A9 c9 w9 ho9 hb9
            have hlt : (ms.take (topM n rs.length)).length = topM n rs.length := by rw [List.length_take, hml]; omega
            refine ⟨A9, c9, ms.take (topM n rs.length), by rw [hlt], ?_, by rw [hlt]; exact own_base ho9 hzz, hB3.trans (hb9.mono hzz), by rw [hlt]; have := hcs.len; omega⟩
            unfold TopIs
            rw [if_pos ⟨by omega, HE.out⟩]
            exact ⟨ms, hcs, by rw [hml]⟩
          have FIN := Lib.hid fin
          have HQ := Lib.hid hq
          clear fin hq hat hcs hp hs ho3 hk3 hml hown hb3 hB3 hll HR HRS Q
          unfold topM at FIN HQ
          have hnm : max n 0 = n := by omega
          rw [hnm] at FIN HQ
          generalize rs.length = lr at *
          go_wp2_with fail
          refine HQ.out.mono ?_
          rintro r w9 ⟨A9, c9, rfl, ho9, hb9⟩
          go_wp2
          refine bodyPost_ret (results_tmp rfl _ _ _) rfl ?_
          exact FIN.out A9 c9 _ ho9 hb9
    · have hE' : isEndB s h wd e = false := by simpa using hE
      have HE := Lib.hid hE'
      clear hE hE'
      go_enter Try.func28, Try.ntmps28
      go_wp2_with fail
      refine Q.out.mono ?_
      rintro r w1 ⟨rfl, hb1⟩
      rw [HE.out]
      go_wp2
      go_ret
      exact HNO.out _ (hb0.trans (hb1.mono hb0.size)) (fun x => by rw [HE.out] at x; cases x.2)

set_option maxHeartbeats 1000000 in
theorem wtop_nil (s h e n : Int) (w : World) :
    Calls Try.prog 28 #[.pointer none, .agg #[.int .i64 s, .int .i64 h], .int .i64 e, .int .i64 n] w fun r w' => r = .returned (.slice none 0 0) ∧ Below w.heap.size w w' := by
  have hb0 : Below w.heap.size w (w.alloc (Obj.cells #[.int .i64 s, .int .i64 h] 23)) := (Below.refl _ _).alloc (Nat.le_refl _) _
  by_cases n0 : n ≤ 0
  · go_enter Try.func28, Try.ntmps28
    go_wp2
    go_ret
    exact ⟨rfl, hb0⟩
  · have q := isEnd_nil s h e (w.alloc (Obj.cells #[.int .i64 s, .int .i64 h] 23))
    have Q := Lib.hid q
    clear q
    go_enter Try.func28, Try.ntmps28
    go_wp2_with fail
    refine Q.out.mono ?_
    rintro r w1 ⟨rfl, hb1⟩
    go_wp2
    go_ret
    exact ⟨rfl, hb0.trans (hb1.mono hb0.size)⟩
end Go.Proofs.Ytcaglkefhbbnbaa
