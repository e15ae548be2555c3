/- The walk of the statement TopRising. -/
import Derived.Test.YtmigjlceogofaaaRisX
import Derived.Test.YtmigjlceogofaaaTpA
namespace Go.Proofs.Ytmigjlceogofaaa
open Go.ChangeShapes Go.WideShapes Go.ChangeAt Go.RowKit Go.Shelf Go.Lib Go.Sort Go.Proofs
set_option linter.unusedVariables false
set_option linter.unusedSimpArgs false

abbrev CntM := List (ByteArray × Int)
def cntAt (M : CntM) (k : ByteArray) : Int := (mget M k).getD 0
theorem zero_int (w : World) : (zeroValue 3).run Try.prog w = .ok (.int .i64 0) w := by kernel_rfl
theorem look_cnt {w : World} {mb : Nat} {M : CntM} (h : MapIs w strKf intVf strOk mb M) {k : ByteArray} (hk : strOk k) :
    (Instr.lookup 66 (.map (some mb)) (.string k) false).run Try.prog w = .ok (.int .i64 (cntAt M k)) w := by
  have := h.look strKey Try.underlying66 zero_int hk
  have e : ((mget M k).map intVf).getD (.int .i64 0) = .int .i64 (cntAt M k) := by
    unfold cntAt
    cases mget M k <;> rfl
  rw [e] at this
  exact this
/-- 'm[k]++' -/
theorem bump_cnt {w : World} {mb : Nat} {M : CntM} (h : MapIs w strKf intVf strOk mb M) {k : ByteArray} (hk : strOk k) (v : Int) :
    ∃ w', (Instr.mapUpdate 66 (.map (some mb)) (.string k) (.int .i64 v)).run Try.prog w = .ok () w' ∧ MapIs w' strKf intVf strOk mb (mput M k v) ∧ Keeps (fun j => j = mb) w w' ∧ w'.heap.size = w.heap.size :=
  h.put strKey Try.underlying66 (x := k) hk v
theorem cntAt_put (M : CntM) (k : ByteArray) (v : Int) (x : ByteArray) : cntAt (mput M k v) x = if x = k then v else cntAt M x := by
  unfold cntAt
  rw [mget_mput]
  by_cases e : x = k
  · simp [e]
  · simp [e]
/-- What the first loop leaves: all keys that were added. -/
structure KeysM (l : List AddD) (M : CntM) : Prop where
  mem : ∀ p ∈ M, ∃ a ∈ l, a.key = p.1
  bd : ∀ k, 0 ≤ cntAt M k ∧ cntAt M k ≤ l.length
theorem KeysM.nil : KeysM [] [] := ⟨by simp, fun k => by simp [cntAt, mget]⟩
theorem KeysM.add {l : List AddD} {M : CntM} (h : KeysM l M) (a : AddD) : KeysM (l ++ [a]) (mput M a.key (cntAt M a.key + 1)) := by
  refine ⟨fun p hp => ?_, fun k => ?_⟩
  · rcases mem_mput hp with rfl | ⟨hp, _⟩
    · exact ⟨a, by simp, rfl⟩
    · obtain ⟨x, hx, e⟩ := h.mem p hp
      exact ⟨x, by simp [hx], e⟩
  · rw [cntAt_put, List.length_append]
    have h1 := h.bd k
    have h2 := h.bd a.key
    simp only [List.length_cons, List.length_nil]
    split <;> omega
/-- What was told of the rises. -/
def ToldM (rs : List RiseV) (M : CntM) : Prop := (∀ k, (∃ r ∈ rs, r.key = k) → cntAt M k = 1) ∧ ∀ k, (¬ ∃ r ∈ rs, r.key = k) → cntAt M k = 0
theorem ToldM.nil : ToldM [] [] := ⟨fun k h => by simp at h, fun k h => rfl⟩
theorem ToldM.add {rs : List RiseV} {M : CntM} (h : ToldM rs M) {r : RiseV} (hr : ¬ ∃ x ∈ rs, x.key = r.key) : ToldM (rs ++ [r]) (mput M r.key (cntAt M r.key + 1)) ∧ cntAt M r.key = 0 := by
  have h0 : cntAt M r.key = 0 := h.2 _ hr
  refine ⟨⟨fun k hk => ?_, fun k hk => ?_⟩, h0⟩
  · rw [cntAt_put, h0]
    by_cases e : k = r.key
    · rw [if_pos e]; rfl
    · rw [if_neg e]
      obtain ⟨x, hx, ex⟩ := hk
      rw [List.mem_append] at hx
      rcases hx with hx | hx
      · exact h.1 k ⟨x, hx, ex⟩
      · simp at hx
        subst hx
        exact absurd ex.symm e
  · rw [cntAt_put]
    have e : ¬ k = r.key := fun e => hk ⟨r, by simp, e.symm⟩
    rw [if_neg e]
    exact h.2 k (fun ⟨x, hx, ex⟩ => hk ⟨x, by simp [hx], ex⟩)
theorem rises_keys_nodup {w : World} {pb : Nat} {F : Nat → Prop} {wd span now floor : Int} {hist : List AddD} {rs : List RiseV} (hB : ofB wd span now = true) (h : RisesOf wd hist span now floor rs) : (rs.map (fun r : RiseV => r.key)).Nodup := by
  unfold RisesOf at h
  rw [if_pos hB] at h
  refine List.pairwise_map.2 (h.1.imp_of_mem ?_)
  intro x y hx hy hxy e
  have ex := ((h.2 x).1 hx).1
  have ey := ((h.2 y).1 hy).1
  have : x = y := by rw [ex, ey, e]
  rw [this, riseLt_irr] at hxy
  cases hxy
theorem keepT {W0 W : World} (h : Grew W0 W) {p q o : Nat} {v0 v1 v2 v3 v4 v5 : Option Value} (hp : p < W0.heap.size) (hq : q < W0.heap.size) (d0 : W0.cell? ⟨p, 0, none⟩ = v0) (d1 : W0.cell? ⟨p, 1, none⟩ = v1) (d2 : W0.cell? ⟨p, 2, none⟩ = v2) (d3 : W0.cell? ⟨q, o, none⟩ = v3) (d4 : W0.cell? ⟨q, o + 1, none⟩ = v4) (d5 : W0.cell? ⟨q, o + 2, none⟩ = v5) :
    W.cell? ⟨p, 0, none⟩ = v0 ∧ W.cell? ⟨p, 1, none⟩ = v1 ∧ W.cell? ⟨p, 2, none⟩ = v2 ∧ W.cell? ⟨q, o, none⟩ = v3 ∧ W.cell? ⟨q, o + 1, none⟩ = v4 ∧ W.cell? ⟨q, o + 2, none⟩ = v5 :=
  ⟨(h.below.cell (p := ⟨p, 0, none⟩) hp).trans d0, (h.below.cell (p := ⟨p, 1, none⟩) hp).trans d1, (h.below.cell (p := ⟨p, 2, none⟩) hp).trans d2, (h.below.cell (p := ⟨q, o, none⟩) hq).trans d3, (h.below.cell (p := ⟨q, o + 1, none⟩) hq).trans d4, (h.below.cell (p := ⟨q, o + 2, none⟩) hq).trans d5⟩
theorem end_is {now wd : Int} (hw : 1 ≤ wd) (h0 : 0 ≤ now) : now / wd * wd = begB wd now := by
  unfold begB
  have := Int.mul_ediv_add_emod now wd
  rw [Int.mul_comm] at this
  omega

set_option maxRecDepth 20000 in
set_option maxHeartbeats 1500000 in
theorem toprising_walk (A : Option Addr) (c : Nat) (l : List AddD) (width spans now floor : Int) (w : World) (hl : TAddsAt w w.heap.size A l) (hlen : (l.length : Int) ≤ 9223372036854775807)
    (hw0 : 0 ≤ width) (hw1 : width ≤ 255) (ht0 : 0 ≤ spans) (ht1 : spans ≤ 255) (hn0 : 0 ≤ now) (hn1 : now ≤ 65535) (hf0 : 0 ≤ floor) (hf1 : floor ≤ 255) :
    Calls Try.prog 6 #[.slice A l.length c, .int .u8 width, .int .u8 spans, .int .u16 now, .int .u8 floor] w fun e w' => e = .returned (.bool true) ∧ Below w.heap.size w w' := by
  have HL := Lib.hid hl
  clear hl
  by_cases g1 : fewB l = true
  · obtain ⟨hl60, hk24⟩ := fewB_yes g1
    have HK24 := Lib.hid hk24
    clear hk24
    have t1 : width.tmod 20 = width % 20 := Int.tmod_eq_emod_of_nonneg hw0
    have t2 : spans.tmod 5 = spans % 5 := Int.tmod_eq_emod_of_nonneg ht0
    have x1 : 1 ≤ 1 + width % 20 ∧ 1 + width % 20 ≤ 20 := by omega
    have x2 : 1 ≤ 1 + spans % 5 ∧ 1 + spans % 5 ≤ 5 := by omega
    have x3 : 1 ≤ (1 + width % 20) * (1 + spans % 5) ∧ (1 + width % 20) * (1 + spans % 5) ≤ 100 := by
      have h1 := Int.mul_le_mul x1.1 x2.1 (by omega) (by omega)
      have h2 := Int.mul_le_mul x1.2 x2.2 (by omega) (by omega)
      omega
    have hT : ∃ T : Int, 1 + spans % 5 = T := ⟨_, rfl⟩
    go_enter Try.func6, Try.ntmps6
    go_wp2_with fail
    refine (counts_any _).mono ?_
    rintro r w1 ⟨rfl, hb1⟩
    go_wp2_with fail
    refine (few_any A c l _ ⟨(HL.out.1.below hb1).more hb1.size, HL.out.2⟩ hlen).mono ?_
    rintro r w2 ⟨rfl, hb2⟩
    rw [g1]
    have hB2 : Below w.heap.size w w2 := hb1.trans (hb2.mono hb1.size)
    clear hb1 hb2
    go_wp2_with fail
    obtain ⟨T, hT⟩ := hT
    rw [hT] at x2 x3 ⊢
    clear hT t2
    generalize 1 + width % 20 = wd at *
    have hwo : widthOf wd = wd := by unfold widthOf; omega
    have hq := pnew_any wd w2
    rw [hwo] at hq
    have HQ := Lib.hid hq
    clear hq hwo
    refine HQ.out.mono ?_
    rintro r w3 ⟨pb, F, rfl, hO, hF, hb3⟩
    have hB3 : Below w.heap.size w w3 := hB2.trans (hb3.mono hB2.size)
    have hmm := @run_makeMap Try.prog
    have hb4 : Below w3.heap.size w3 (w3.alloc (Obj.map #[] 0)) := (Below.refl _ _).alloc (Nat.le_refl _) _
    have hM4 : MapIs (w3.alloc (Obj.map #[] 0)) strKf intVf strOk w3.heap.size [] := MapIs.made w3 _ _ _
    have hO4 := hO.below hb4
    have hB4 : Below w.heap.size w (w3.alloc (Obj.map #[] 0)) := hB3.trans (hb4.mono hB3.size)
    have hF4 : ∀ j, F j → w.heap.size ≤ j ∧ j ≠ w3.heap.size := fun j hj => ⟨by have := hF j hj; have := hB2.size; omega, by have := hO.lt j hj; omega⟩
    have hkbw : w.heap.size ≤ w3.heap.size := hB3.size
    have HO4 := Lib.hid hO4
    have HM4 := Lib.hid hM4
    have HB4 := Lib.hid hB4
    have HF4 := Lib.hid hF4
    clear hO hF hb3 hB2 hB3 hb4 hM4 hO4 hB4 hF4 HQ
    go_wp2_with fail
    clear hmm
    generalize w3.alloc (Obj.map #[] 0) = W4 at *
    generalize w3.heap.size = kb at *
    generalize hsp : wd * T = span at *
    go_loopg [47] l.length (fun rest i wr => ∃ (k : Nat) (F' : Nat → Prop) (M : CntM), i = .int .i64 k ∧ Hid (k + rest = l.length) ∧ Hid (PaneObj wr pb F' wd (l.take k)) ∧ Hid (∀ j, F' j → w.heap.size ≤ j ∧ j ≠ kb) ∧ Hid (KeysM (l.take k) M) ∧ Hid (MapIs wr strKf intVf strOk kb M) ∧ Below w.heap.size w wr)
    case atStart => exact ⟨0, F, [], rfl, Lib.hid (by simp), HO4, HF4, Lib.hid KeysM.nil, HM4, HB4.out⟩
    case round =>
      clear HO4 HF4 HM4 HB4
      obtain ⟨k, F', M, rfl, HK, HO, HF, HKM, HM, hb⟩ := hrel
      have hz := hb.size
      by_cases hk : (k : Int) < (l.length : Int)
      · have hkl : k < l.length := by omega
        obtain ⟨b, o, rfl, hbl, c1, c2, c3⟩ := (HL.out.below hb).one hkl
        have hok := HL.out.2 _ (List.getElem_mem hkl)
        have hsz := HK24.out _ (List.getElem_mem hkl)
        have hkt : l.take (k + 1) = l.take k ++ [l[k]] := List.take_succ_eq_append_getElem hkl
        generalize l[k] = x at *
        obtain ⟨xs, ⟨xa0, xa1⟩, ⟨xn0, xn1⟩⟩ := hok
        have c3' : wr.cell? ⟨b, o + k * 3 + 2, none⟩ = some (.int .u16 x.n) := c3
        have hbA : Below w.heap.size w (wr.alloc (Obj.cells #[Value.string x.key, Value.int .u16 x.at_, Value.int .u16 x.n] 31)) := hb.alloc hz _
        have hnil : (⟨#[]⟩ : ByteArray).toList = [] := by simp
        by_cases he0 : x.key.toList = []
        · have he : (x.key.toList == []) = true := by simp [he0]
          have he2 : (x.key.toList == (⟨#[]⟩ : ByteArray).toList) = true := by rw [he0, hnil]; rfl
          clear hnil
          have HBA := Lib.hid hbA
          clear he0 hbA
          go_wp2
          go_ret
          exact ⟨rfl, HBA.out⟩
        · have he : (x.key.toList == []) = false := by simpa using he0
          have he2 : (x.key.toList == (⟨#[]⟩ : ByteArray).toList) = false := by rw [hnil]; exact he
          clear hnil
          have hOA := HO.out.below ((Below.refl wr.heap.size wr).alloc (Nat.le_refl _) (Obj.cells #[Value.string x.key, Value.int .u16 x.at_, Value.int .u16 x.n] 31))
          have hMA := HM.out.alloc (Obj.cells #[Value.string x.key, Value.int .u16 x.at_, Value.int .u16 x.n] 31)
          have hq := padd_any pb F' wd (l.take k) x.key x.at_ x.n _ hOA
          cases hab : addB x.key x.at_ x.n (l.take k).length with
          | false =>
            rw [hab] at hq
            have HQ := Lib.hid hq
            have HBA := Lib.hid hbA
            clear hq hab hOA hMA hbA
            go_wp2_with fail
            refine HQ.out.mono ?_
            rintro r w5 ⟨rfl, F5, hO5, hK5, hF5⟩
            have HB5 : Hid (Below w.heap.size w w5) := Lib.hid (HBA.out.trans (hK5.toBelow HBA.out.size (fun j hj => (HF.out j hj).1)))
            clear hO5 hK5 hF5 HQ
            go_wp2
            go_ret
            exact ⟨rfl, HB5.out⟩
          | true =>
            rw [hab] at hq
            have HQ := Lib.hid hq
            have HBA := Lib.hid hbA
            have HMA := Lib.hid hMA
            have HKT := Lib.hid hkt
            clear hq hab hOA hMA hbA hkt
            have m0 : (wr.alloc (Obj.cells #[Value.string x.key, Value.int .u16 x.at_, Value.int .u16 x.n] 31)).cell? ⟨wr.heap.size, 0, none⟩ = some (.string x.key) := by simp
            have hzA : wr.heap.size < (wr.alloc (Obj.cells #[Value.string x.key, Value.int .u16 x.at_, Value.int .u16 x.n] 31)).heap.size := by simp
            have hFl : ∀ j, F' j → j < wr.heap.size := HO.out.lt
            go_wp2_with fail
            refine HQ.out.mono ?_
            rintro r w5 ⟨rfl, F5, hO5, hK5, hF5⟩
            rw [if_pos rfl] at hO5
            have hB5 : Below w.heap.size w w5 := HBA.out.trans (hK5.toBelow HBA.out.size (fun j hj => (HF.out j hj).1))
            have hM5 := HMA.out.keep hK5 (fun hf => (HF.out _ hf).2 rfl)
            have hF5' : ∀ j, F5 j → w.heap.size ≤ j ∧ j ≠ kb := fun j hj => by
              rcases hF5 j hj with h1 | h1
              · exact HF.out j h1
              · have := HMA.out.lt
                exact ⟨by have := HBA.out.size; omega, by omega⟩
            have m5 := (hK5.cell (p := ⟨wr.heap.size, 0, none⟩) hzA (fun hf => Nat.lt_irrefl _ (hFl _ hf))).trans m0
            have hlk := look_cnt hM5 xs
            have hbd := HKM.out.bd x.key
            have hKA := HKM.out.add x
            have hkle : ((l.take k).length : Int) ≤ 60 := by rw [List.length_take]; omega
            obtain ⟨w6, hrun, hM6, hK6, hz6⟩ := bump_cnt hM5 xs (cntAt M x.key + 1)
            have hO6 := hO5.keep hK6 (fun j hj e => (hF5' j hj).2 e)
            have hB6 : Below w.heap.size w w6 := hB5.trans (hK6.toBelow hB5.size (fun j e => by omega))
            rw [← HKT.out] at hO6 hKA
            have HO6 := Lib.hid hO6
            have HM6 := Lib.hid hM6
            have HB6 := Lib.hid hB6
            have HF6 := Lib.hid hF5'
            have HKA := Lib.hid hKA
            generalize cntAt M x.key = cv at *
            clear hO5 hK5 hF5 HQ hO6 hM6 hB6 hF5' hKA hM5 hB5 hK6 hz6 m0
            go_wp2
            go_roundg (gk - 1)
            case measure => have := HK.out; omega
            case rel => exact ⟨k + 1, F5, _, by go_num, Lib.hid (by have := HK.out; omega), HO6, HF6, HKA, HM6, HB6.out⟩
      · have hall : l.take k = l := List.take_of_length_le (by omega)
        have hO := HO.out
        have hKM := HKM.out
        rw [hall] at hO hKM
        have HOa := Lib.hid hO
        have HKMa := Lib.hid hKM
        clear hO hKM hall HO HKM
        have td : now.tdiv wd = now / wd := Int.tdiv_eq_ediv_of_nonneg hn0
        have hbd := begB_bd x1.1 hn0
        have hend := end_is x1.1 hn0
        have hwe : IntKind.i64.wrap (now / wd * wd) = begB wd now := by rw [hend]; exact IntWalk.i64_in _ (by omega)
        have hdv : 0 ≤ now / wd ∧ now / wd ≤ now := ⟨Int.ediv_nonneg hn0 (by omega), Int.ediv_le_self wd hn0⟩
        have hzw : ¬ wd = 0 := by omega
        have hsm : span % wd = 0 := by rw [← hsp]; exact Int.mul_emod_right wd T
        have hofB : ofB wd span now = true := by
          unfold ofB
          rw [decide_eq_true (by omega : 1 ≤ span), decide_eq_true (by omega : span ≤ 1099511627776), decide_eq_true hsm, decide_eq_true (by omega : 0 ≤ now), decide_eq_true (by omega : now ≤ 1099511627776)]
          rfl
        have HOFB := Lib.hid hofB
        clear hsm hofB
        have HBr := Lib.hid hb
        have hmm := @run_makeMap Try.prog
        clear hb
        go_wp2_with fail
        refine (rof_any pb F' wd l span now floor wr HOa.out).mono ?_
        rintro r w5 ⟨A5, c5, rs, rfl, hrs, hown, hb5, hlen5⟩
        have hM5 := HM.out.below hb5 HM.out.lt
        have hO5 := HOa.out.below hb5
        have hat5 : RisesAt w5 w5.heap.size A5 rs := Reads.of_own hown
        have hfa := RisesOf.facts hO5 hrs
        have hnd := rises_keys_nodup (w := w5) (pb := pb) (F := F') HOFB.out hrs
        have hrs' : ∀ r, r ∈ rs ↔ (r = riseOf wd l span (begB wd now) r.key ∧ 1 ≤ r.new ∧ floor ≤ r.new) := by
          have := hrs
          unfold RisesOf at this
          rw [if_pos HOFB.out] at this
          exact this.2
        have hrl : (rs.length : Int) ≤ 60 := by omega
        have hB5 : Below w.heap.size w w5 := HBr.out.trans (hb5.mono HBr.out.size)
        have hb6 : Below w5.heap.size w5 (w5.alloc (Obj.map #[] 0)) := (Below.refl _ _).alloc (Nat.le_refl _) _
        have hM6 : MapIs (w5.alloc (Obj.map #[] 0)) strKf intVf strOk w5.heap.size [] := MapIs.made w5 _ _ _
        have hz6 : w5.heap.size < (w5.alloc (Obj.map #[] 0)).heap.size := by simp
        have hO6 := hO5.below hb6
        have hK6 := hM5.below hb6 hM5.lt
        have hat6 : RisesAt (w5.alloc (Obj.map #[] 0)) w5.heap.size A5 rs := hat5.below hb6
        have HFlt : Hid (∀ j, F' j → j < w5.heap.size) := Lib.hid (hO5.lt)
        have hkb5 : kb < w5.heap.size := hM5.lt
        have HB6 : Hid (Below w.heap.size w (w5.alloc (Obj.map #[] 0))) := Lib.hid (hB5.trans (hb6.mono hB5.size))
        have hz5 := hB5.size
        have HM6 := Lib.hid hM6
        have HO6 := Lib.hid hO6
        have HK6 := Lib.hid hK6
        have HAT6 := Lib.hid hat6
        have HFA := Lib.hid hfa
        have HND := Lib.hid hnd
        have HRS := Lib.hid hrs'
        clear hM5 hO5 hat5 hfa hnd hrs' hrs hown hb5 hlen5 hB5 hb6 hM6 hO6 hK6 hat6 HOa HM HBr
        go_wp2_with fail
        clear hmm td hdv hend hwe hk
        generalize hbg : begB wd now = bg at *
        generalize hW6 : w5.alloc (Obj.map #[] 0) = W6 at *
        clear hW6
        generalize w5.heap.size = tb at *
        generalize wr = wold at *
        generalize gk = gold at *
        go_loopg [89] rs.length (fun rest i wr => ∃ (k : Nat) (M2 : CntM), i = .int .i64 k ∧ Hid (k + rest = rs.length) ∧ Hid (ToldM (rs.take k) M2) ∧ Hid (MapIs wr strKf intVf strOk tb M2) ∧ Keeps (fun j => j = tb) W6 wr)
        case atStart => exact ⟨0, [], rfl, Lib.hid (by simp), Lib.hid ToldM.nil, HM6, Keeps.refl _ _⟩
        case round =>
          obtain ⟨k, M2, rfl, HK2, HTM, HM2, hkp⟩ := hrel
          have hbx : Below tb W6 wr := hkp.toBelow (by omega) (fun j e => by omega)
          have hz := hkp.size
          by_cases hk : (k : Int) < (rs.length : Int)
          · have hkl : k < rs.length := by omega
            obtain ⟨b, o, rfl, hbl, c1, c2, c3⟩ := (HAT6.out.below hbx).one hkl
            obtain ⟨⟨y1, y2, y3, y4⟩, y5⟩ := HFA.out.2 rs[k] (List.getElem_mem hkl)
            have hrise := ((HRS.out rs[k]).1 (List.getElem_mem hkl)).1
            have hnew : rs[k].new = histTot wd l rs[k].key ((bg - span) / wd) (bg / wd) := congrArg RiseV.new hrise
            have hold : rs[k].old = histTot wd l rs[k].key ((bg - 2 * span) / wd) ((bg - span) / wd) := congrArg RiseV.old hrise
            have hksz : strOk rs[k].key := by
              have := HO6.out.key_sz (key := rs[k].key) (lo := (bg - span) / wd) (hi := bg / wd) (by omega)
              unfold strOk maxLen
              omega
            have hnotin : ¬ ∃ x ∈ rs.take k, x.key = rs[k].key := by
              rintro ⟨r, hr, er⟩
              obtain ⟨j, hj, ej⟩ := List.getElem_of_mem hr
              rw [List.length_take] at hj
              rw [List.getElem_take] at ej
              have hp := List.pairwise_iff_getElem.1 HND.out j k (by simp; omega) (by simp; omega) (by omega)
              simp only [List.getElem_map] at hp
              exact hp (by rw [ej]; exact er)
            have hta := HTM.out.add hnotin
            rw [← List.take_succ_eq_append_getElem hkl] at hta
            have hlt : 0 < k → ∀ (hm : k - 1 < rs.length), riseLt rs[k - 1] rs[k] = true := fun h0 hm => (List.pairwise_iff_getElem.1 HFA.out.1) (k - 1) k hm hkl (by omega)
            have hps1 := fun W (hW : PaneObj W pb F' wd l) => psum_any pb F' wd l rs[k].key (bg - span) bg W hW hksz (by omega) (by omega) (by omega) (by omega)
            have hps2 := fun W (hW : PaneObj W pb F' wd l) => psum_any pb F' wd l rs[k].key (bg - 2 * span) (bg - span) W hW hksz (by omega) (by omega) (by omega) (by omega)
            rw [← hnew] at hps1
            rw [← hold] at hps2
            have q2 := fun W => ratio_any rs[k].key rs[k].new rs[k].old (by omega) W
            rw [ratNum_ok (by omega) (by omega) (by omega), ratDen_ok (by omega) (by omega) (by omega)] at q2
            have HLT := Lib.hid hlt
            have HPS1 := Lib.hid hps1
            have HPS2 := Lib.hid hps2
            have Q2 := Lib.hid q2
            have HTA := Lib.hid hta.1
            have ht0 := hta.2
            clear hrise hnew hold hnotin hta hlt hps1 hps2 q2
            generalize hyy : rs[k] = y at *
            have c3' : wr.cell? ⟨b, o + k * 3 + 2, none⟩ = some (.int .i64 y.old) := c3
            have hMA := HM2.out.alloc (Obj.cells #[Value.string y.key, Value.int .i64 y.new, Value.int .i64 y.old] 70)
            have hlk := look_cnt hMA hksz
            obtain ⟨w7, hrun, hM7, hK7, hz7⟩ := bump_cnt hMA hksz (cntAt M2 y.key + 1)
            rw [ht0] at hlk hrun hM7
            rw [ht0] at HTA
            have hlk7 := look_cnt hM7.drew hksz
            have e1 : cntAt (mput M2 y.key (0 + 1)) y.key = 1 := by rw [cntAt_put, if_pos rfl]; rfl
            rw [e1] at hlk7
            have hrun' : (Instr.mapUpdate 66 (.map (some tb)) (.string y.key) (.int .i64 1)).run Try.prog (wr.alloc (Obj.cells #[Value.string y.key, Value.int .i64 y.new, Value.int .i64 y.old] 70)) = .ok () w7 := hrun
            have hkp7 : Keeps (fun j => j = tb) W6 w7 := (hkp.alloc _).trans hK7 (fun _ _ e => e)
            have hbx7 : Below tb W6 w7 := hkp7.toBelow (by omega) (fun j e => by omega)
            have hO7 : PaneObj w7.drew pb F' wd l := (HO6.out.keep hkp7 (fun j hj e => by have := HFlt.out j hj; omega)).below ((Below.refl _ _).drew)
            have m0 : w7.cell? ⟨wr.heap.size, 0, none⟩ = some (.string y.key) := (hK7.cell (p := ⟨wr.heap.size, 0, none⟩) (by simp) (by show ¬ wr.heap.size = tb; omega)).trans (by simp)
            have m1 : w7.cell? ⟨wr.heap.size, 1, none⟩ = some (.int .i64 y.new) := (hK7.cell (p := ⟨wr.heap.size, 1, none⟩) (by simp) (by show ¬ wr.heap.size = tb; omega)).trans (by simp)
            have m2 : w7.cell? ⟨wr.heap.size, 2, none⟩ = some (.int .i64 y.old) := (hK7.cell (p := ⟨wr.heap.size, 2, none⟩) (by simp) (by show ¬ wr.heap.size = tb; omega)).trans (by simp)
            have hz77 : wr.heap.size < w7.heap.size := by rw [hz7]; simp
            have HM7 := Lib.hid hM7
            have HO7 := Lib.hid hO7
            have HKP7 := Lib.hid hkp7
            have hne1 : (y.new != y.new) = false := by simp
            have hne2 : (y.old != y.old) = false := by simp
            have hwf : IntKind.i64.wrap floor = floor := IntWalk.i64_in _ (by omega)
            have hws : IntKind.i64.wrap (bg - span) = bg - span := IntWalk.i64_in _ (by omega)
            have hw2 : IntKind.i64.wrap (2 * span) = 2 * span := IntWalk.i64_in _ (by omega)
            have hw3 : IntKind.i64.wrap (bg - 2 * span) = bg - 2 * span := IntWalk.i64_in _ (by omega)
            have hlf : decide (y.new < floor) = false := by simp; omega
            have hg1 : decide ((1 : Int) < 1) = false := by simp
            clear hMA hrun hM7 hK7 hz7 hO7 hkp7 e1
            go_wp2_with fail
            clear hlk hrun' c1 c2 c3 c3'
            refine heldStart 41 (S := fun W => W.cell? ⟨wr.heap.size, 0, none⟩ = some (.string y.key) ∧ W.cell? ⟨wr.heap.size, 1, none⟩ = some (.int .i64 y.new) ∧ W.cell? ⟨wr.heap.size, 2, none⟩ = some (.int .i64 y.old) ∧ (Instr.lookup 66 (.map (some tb)) (.string y.key) false).run Try.prog W = .ok (.int .i64 1) W) (by kernel_rfl) ?_ (fun hHeld => ?_)
            · exact ⟨m0, m1, m2, hlk7⟩
            refine heldTake 0 (v := ?_) (by simp only [List.getElem?_toArray, List.getElem?_cons_succ, List.getElem?_cons_zero]; rfl) (by kernel_rfl) (by intro _ _ _ h; exact h) (by rfl) (by assumption) ?_ ?_
            rotate_left
            · intro W hSw; (try dsimp only at hSw); go_simp; try with_reducible rfl
            simp only [Act.put, List.setIfInBounds_toArray, List.set_cons_zero, List.set_cons_succ]
            refine heldTake 1 (v := ?_) (by simp only [List.getElem?_toArray, List.getElem?_cons_succ, List.getElem?_cons_zero]; rfl) (by kernel_rfl) (by intro _ _ _ h; exact h) (by rfl) (by assumption) ?_ ?_
            rotate_left
            · intro W hSw; (try dsimp only at hSw); go_simp; try with_reducible rfl
            simp only [Act.put, List.setIfInBounds_toArray, List.set_cons_zero, List.set_cons_succ]
            refine heldTake 2 (v := ?_) (by simp only [List.getElem?_toArray, List.getElem?_cons_succ, List.getElem?_cons_zero]; rfl) (by kernel_rfl) (by intro _ _ _ h; exact h) (by rfl) (by assumption) ?_ ?_
            rotate_left
            · intro W hSw; (try dsimp only at hSw); go_simp; try with_reducible rfl
            simp only [Act.put, List.setIfInBounds_toArray, List.set_cons_zero, List.set_cons_succ]
            refine heldTake 3 (v := ?_) (by simp only [List.getElem?_toArray, List.getElem?_cons_succ, List.getElem?_cons_zero]; rfl) (by kernel_rfl) (by intro _ _ _ h; exact h) (by rfl) (by assumption) ?_ ?_
            rotate_left
            · intro W hSw; (try dsimp only at hSw); go_simp; try with_reducible rfl
            simp only [Act.put, List.setIfInBounds_toArray, List.set_cons_zero, List.set_cons_succ]
            refine heldTake 4 (v := ?_) (by simp only [List.getElem?_toArray, List.getElem?_cons_succ, List.getElem?_cons_zero]; rfl) (by kernel_rfl) (by intro _ _ _ h; exact h) (by rfl) (by assumption) ?_ ?_
            rotate_left
            · intro W hSw; (try dsimp only at hSw); go_simp; try with_reducible rfl
            simp only [Act.put, List.setIfInBounds_toArray, List.set_cons_zero, List.set_cons_succ]
            refine heldTake 5 (v := ?_) (by simp only [List.getElem?_toArray, List.getElem?_cons_succ, List.getElem?_cons_zero]; rfl) (by kernel_rfl) (by intro _ _ _ h; exact h) (by rfl) (by assumption) ?_ ?_
            rotate_left
            · intro W hSw; (try dsimp only at hSw); go_simp; try with_reducible rfl
            simp only [Act.put, List.setIfInBounds_toArray, List.set_cons_zero, List.set_cons_succ]
            refine heldTake 6 (v := ?_) (by simp only [List.getElem?_toArray, List.getElem?_cons_succ, List.getElem?_cons_zero]; rfl) (by kernel_rfl) (by intro _ _ _ h; exact h) (by rfl) (by assumption) ?_ ?_
            rotate_left
            · intro W hSw; (try dsimp only at hSw); go_simp; try with_reducible rfl
            simp only [Act.put, List.setIfInBounds_toArray, List.set_cons_zero, List.set_cons_succ]
            refine heldTake 7 (v := ?_) (by simp only [List.getElem?_toArray, List.getElem?_cons_succ, List.getElem?_cons_zero]; rfl) (by kernel_rfl) (by intro _ _ _ h; exact h) (by rfl) (by assumption) ?_ ?_
            rotate_left
            · intro W hSw; (try dsimp only at hSw); go_simp; try with_reducible rfl
            simp only [Act.put, List.setIfInBounds_toArray, List.set_cons_zero, List.set_cons_succ]
            refine heldTake 8 (v := ?_) (by simp only [List.getElem?_toArray, List.getElem?_cons_succ, List.getElem?_cons_zero]; rfl) (by kernel_rfl) (by intro _ _ _ h; exact h) (by rfl) (by assumption) ?_ ?_
            rotate_left
            · intro W hSw; (try dsimp only at hSw); go_simp; try with_reducible rfl
            simp only [Act.put, List.setIfInBounds_toArray, List.set_cons_zero, List.set_cons_succ]
            refine heldCall 9 (by simp only [List.getElem?_toArray, List.getElem?_cons_succ, List.getElem?_cons_zero]; rfl) (by kernel_rfl) (fun K hK => ?_)
            go_simp
            refine (HPS1.out _ HO7.out).mono ?_
            rintro e w8 ⟨rfl, rfl⟩
            go_wp2_with fail
            refine hK.out _ _ ?_ (fun hHeld => ?_)
            · exact ⟨m0, m1, m2, hlk7⟩
            clear hK K
            (try simp only [Act.put, List.setIfInBounds_toArray, List.set_cons_zero, List.set_cons_succ])
            refine heldTake 10 (v := ?_) (by simp only [List.getElem?_toArray, List.getElem?_cons_succ, List.getElem?_cons_zero]; rfl) (by kernel_rfl) (by intro _ _ _ h; exact h) (by rfl) (by assumption) ?_ ?_
            rotate_left
            · intro W hSw; (try dsimp only at hSw); go_simp; try with_reducible rfl
            simp only [Act.put, List.setIfInBounds_toArray, List.set_cons_zero, List.set_cons_succ]
            refine heldTake 11 (v := ?_) (by simp only [List.getElem?_toArray, List.getElem?_cons_succ, List.getElem?_cons_zero]; rfl) (by kernel_rfl) (by intro _ _ _ h; exact h) (by rfl) (by assumption) ?_ ?_
            rotate_left
            · intro W hSw; (try dsimp only at hSw); go_simp; try with_reducible rfl
            simp only [Act.put, List.setIfInBounds_toArray, List.set_cons_zero, List.set_cons_succ]
            refine heldTake 12 (v := ?_) (by simp only [List.getElem?_toArray, List.getElem?_cons_succ, List.getElem?_cons_zero]; rfl) (by kernel_rfl) (by intro _ _ _ h; exact h) (by rfl) (by assumption) ?_ ?_
            rotate_left
            · intro W hSw; (try dsimp only at hSw); go_simp; try with_reducible rfl
            simp only [Act.put, List.setIfInBounds_toArray, List.set_cons_zero, List.set_cons_succ]
            refine heldTake 13 (v := ?_) (by simp only [List.getElem?_toArray, List.getElem?_cons_succ, List.getElem?_cons_zero]; rfl) (by kernel_rfl) (by intro _ _ _ h; exact h) (by rfl) (by assumption) ?_ ?_
            rotate_left
            · intro W hSw; (try dsimp only at hSw); go_simp; try with_reducible rfl
            simp only [Act.put, List.setIfInBounds_toArray, List.set_cons_zero, List.set_cons_succ]
            refine heldTake 14 (v := ?_) (by simp only [List.getElem?_toArray, List.getElem?_cons_succ, List.getElem?_cons_zero]; rfl) (by kernel_rfl) (by intro _ _ _ h; exact h) (by rfl) (by assumption) ?_ ?_
            rotate_left
            · intro W hSw; (try dsimp only at hSw); go_simp; try with_reducible rfl
            simp only [Act.put, List.setIfInBounds_toArray, List.set_cons_zero, List.set_cons_succ]
            refine heldTake 15 (v := ?_) (by simp only [List.getElem?_toArray, List.getElem?_cons_succ, List.getElem?_cons_zero]; rfl) (by kernel_rfl) (by intro _ _ _ h; exact h) (by rfl) (by assumption) ?_ ?_
            rotate_left
            · intro W hSw; (try dsimp only at hSw); go_simp; try with_reducible rfl
            simp only [Act.put, List.setIfInBounds_toArray, List.set_cons_zero, List.set_cons_succ]
            refine heldTake 16 (v := ?_) (by simp only [List.getElem?_toArray, List.getElem?_cons_succ, List.getElem?_cons_zero]; rfl) (by kernel_rfl) (by intro _ _ _ h; exact h) (by rfl) (by assumption) ?_ ?_
            rotate_left
            · intro W hSw; (try dsimp only at hSw); go_simp; try with_reducible rfl
            simp only [Act.put, List.setIfInBounds_toArray, List.set_cons_zero, List.set_cons_succ]
            refine heldTake 17 (v := ?_) (by simp only [List.getElem?_toArray, List.getElem?_cons_succ, List.getElem?_cons_zero]; rfl) (by kernel_rfl) (by intro _ _ _ h; exact h) (by rfl) (by assumption) ?_ ?_
            rotate_left
            · intro W hSw; (try dsimp only at hSw); go_simp; try with_reducible rfl
            simp only [Act.put, List.setIfInBounds_toArray, List.set_cons_zero, List.set_cons_succ]
            refine heldTake 18 (v := ?_) (by simp only [List.getElem?_toArray, List.getElem?_cons_succ, List.getElem?_cons_zero]; rfl) (by kernel_rfl) (by intro _ _ _ h; exact h) (by rfl) (by assumption) ?_ ?_
            rotate_left
            · intro W hSw; (try dsimp only at hSw); go_simp; try with_reducible rfl
            simp only [Act.put, List.setIfInBounds_toArray, List.set_cons_zero, List.set_cons_succ]
            refine heldTake 19 (v := ?_) (by simp only [List.getElem?_toArray, List.getElem?_cons_succ, List.getElem?_cons_zero]; rfl) (by kernel_rfl) (by intro _ _ _ h; exact h) (by rfl) (by assumption) ?_ ?_
            rotate_left
            · intro W hSw; (try dsimp only at hSw); go_simp; try with_reducible rfl
            simp only [Act.put, List.setIfInBounds_toArray, List.set_cons_zero, List.set_cons_succ]
            refine heldTake 20 (v := ?_) (by simp only [List.getElem?_toArray, List.getElem?_cons_succ, List.getElem?_cons_zero]; rfl) (by kernel_rfl) (by intro _ _ _ h; exact h) (by rfl) (by assumption) ?_ ?_
            rotate_left
            · intro W hSw; (try dsimp only at hSw); go_simp; try with_reducible rfl
            simp only [Act.put, List.setIfInBounds_toArray, List.set_cons_zero, List.set_cons_succ]
            refine heldTake 21 (v := ?_) (by simp only [List.getElem?_toArray, List.getElem?_cons_succ, List.getElem?_cons_zero]; rfl) (by kernel_rfl) (by intro _ _ _ h; exact h) (by rfl) (by assumption) ?_ ?_
            rotate_left
            · intro W hSw; (try dsimp only at hSw); go_simp; try with_reducible rfl
            simp only [Act.put, List.setIfInBounds_toArray, List.set_cons_zero, List.set_cons_succ]
            refine heldTake 22 (v := ?_) (by simp only [List.getElem?_toArray, List.getElem?_cons_succ, List.getElem?_cons_zero]; rfl) (by kernel_rfl) (by intro _ _ _ h; exact h) (by rfl) (by assumption) ?_ ?_
            rotate_left
            · intro W hSw; (try dsimp only at hSw); go_simp; try with_reducible rfl
            simp only [Act.put, List.setIfInBounds_toArray, List.set_cons_zero, List.set_cons_succ]
            refine heldTake 23 (v := ?_) (by simp only [List.getElem?_toArray, List.getElem?_cons_succ, List.getElem?_cons_zero]; rfl) (by kernel_rfl) (by intro _ _ _ h; exact h) (by rfl) (by assumption) ?_ ?_
            rotate_left
            · intro W hSw; (try dsimp only at hSw); go_simp; try with_reducible rfl
            simp only [Act.put, List.setIfInBounds_toArray, List.set_cons_zero, List.set_cons_succ]
            refine heldCall 24 (by simp only [List.getElem?_toArray, List.getElem?_cons_succ, List.getElem?_cons_zero]; rfl) (by kernel_rfl) (fun K hK => ?_)
            go_simp
            refine (HPS2.out _ HO7.out).mono ?_
            rintro e w8 ⟨rfl, rfl⟩
            go_wp2_with fail
            refine hK.out _ _ ?_ (fun hHeld => ?_)
            · exact ⟨m0, m1, m2, hlk7⟩
            clear hK K
            (try simp only [Act.put, List.setIfInBounds_toArray, List.set_cons_zero, List.set_cons_succ])
            refine heldTake 25 (v := ?_) (by simp only [List.getElem?_toArray, List.getElem?_cons_succ, List.getElem?_cons_zero]; rfl) (by kernel_rfl) (by intro _ _ _ h; exact h) (by rfl) (by assumption) ?_ ?_
            rotate_left
            · intro W hSw; (try dsimp only at hSw); go_simp; try with_reducible rfl
            simp only [Act.put, List.setIfInBounds_toArray, List.set_cons_zero, List.set_cons_succ]
            refine heldTake 26 (v := ?_) (by simp only [List.getElem?_toArray, List.getElem?_cons_succ, List.getElem?_cons_zero]; rfl) (by kernel_rfl) (by intro _ _ _ h; exact h) (by rfl) (by assumption) ?_ ?_
            rotate_left
            · intro W hSw; (try dsimp only at hSw); go_simp; try with_reducible rfl
            simp only [Act.put, List.setIfInBounds_toArray, List.set_cons_zero, List.set_cons_succ]
            refine heldTake 27 (v := ?_) (by simp only [List.getElem?_toArray, List.getElem?_cons_succ, List.getElem?_cons_zero]; rfl) (by kernel_rfl) (by intro _ _ _ h; exact h) (by rfl) (by assumption) ?_ ?_
            rotate_left
            · intro W hSw; (try dsimp only at hSw); go_simp; try with_reducible rfl
            simp only [Act.put, List.setIfInBounds_toArray, List.set_cons_zero, List.set_cons_succ]
            refine heldTake 28 (v := ?_) (by simp only [List.getElem?_toArray, List.getElem?_cons_succ, List.getElem?_cons_zero]; rfl) (by kernel_rfl) (by intro _ _ _ h; exact h) (by rfl) (by assumption) ?_ ?_
            rotate_left
            · intro W hSw; (try dsimp only at hSw); go_simp; try with_reducible rfl
            simp only [Act.put, List.setIfInBounds_toArray, List.set_cons_zero, List.set_cons_succ]
            refine heldTake 29 (v := ?_) (by simp only [List.getElem?_toArray, List.getElem?_cons_succ, List.getElem?_cons_zero]; rfl) (by kernel_rfl) (by intro _ _ _ h; exact h) (by rfl) (by assumption) ?_ ?_
            rotate_left
            · intro W hSw; (try dsimp only at hSw); go_simp; try with_reducible rfl
            simp only [Act.put, List.setIfInBounds_toArray, List.set_cons_zero, List.set_cons_succ]
            refine heldTake 30 (v := ?_) (by simp only [List.getElem?_toArray, List.getElem?_cons_succ, List.getElem?_cons_zero]; rfl) (by kernel_rfl) (by intro _ _ _ h; exact h) (by rfl) (by assumption) ?_ ?_
            rotate_left
            · intro W hSw; (try dsimp only at hSw); go_simp; try with_reducible rfl
            simp only [Act.put, List.setIfInBounds_toArray, List.set_cons_zero, List.set_cons_succ]
            refine heldTake 31 (v := ?_) (by simp only [List.getElem?_toArray, List.getElem?_cons_succ, List.getElem?_cons_zero]; rfl) (by kernel_rfl) (by intro _ _ _ h; exact h) (by rfl) (by assumption) ?_ ?_
            rotate_left
            · intro W hSw; (try dsimp only at hSw); go_simp; try with_reducible rfl
            simp only [Act.put, List.setIfInBounds_toArray, List.set_cons_zero, List.set_cons_succ]
            refine heldTake 32 (v := ?_) (by simp only [List.getElem?_toArray, List.getElem?_cons_succ, List.getElem?_cons_zero]; rfl) (by kernel_rfl) (by intro _ _ _ h; exact h) (by rfl) (by assumption) ?_ ?_
            rotate_left
            · intro W hSw; (try dsimp only at hSw); go_simp; try with_reducible rfl
            simp only [Act.put, List.setIfInBounds_toArray, List.set_cons_zero, List.set_cons_succ]
            refine heldTake 33 (v := ?_) (by simp only [List.getElem?_toArray, List.getElem?_cons_succ, List.getElem?_cons_zero]; rfl) (by kernel_rfl) (by intro _ _ _ h; exact h) (by rfl) (by assumption) ?_ ?_
            rotate_left
            · intro W hSw; (try dsimp only at hSw); go_simp; try with_reducible rfl
            simp only [Act.put, List.setIfInBounds_toArray, List.set_cons_zero, List.set_cons_succ]
            refine heldTake 34 (v := ?_) (by simp only [List.getElem?_toArray, List.getElem?_cons_succ, List.getElem?_cons_zero]; rfl) (by kernel_rfl) (by intro _ _ _ h; exact h) (by rfl) (by assumption) ?_ ?_
            rotate_left
            · intro W hSw; (try dsimp only at hSw); go_simp; try with_reducible rfl
            simp only [Act.put, List.setIfInBounds_toArray, List.set_cons_zero, List.set_cons_succ]
            refine heldTake 35 (v := ?_) (by simp only [List.getElem?_toArray, List.getElem?_cons_succ, List.getElem?_cons_zero]; rfl) (by kernel_rfl) (by intro _ _ _ h; exact h) (by rfl) (by assumption) ?_ ?_
            rotate_left
            · intro W hSw; (try dsimp only at hSw); go_simp; try with_reducible rfl
            simp only [Act.put, List.setIfInBounds_toArray, List.set_cons_zero, List.set_cons_succ]
            refine heldTake 36 (v := ?_) (by simp only [List.getElem?_toArray, List.getElem?_cons_succ, List.getElem?_cons_zero]; rfl) (by kernel_rfl) (by intro _ _ _ h; exact h) (by rfl) (by assumption) ?_ ?_
            rotate_left
            · intro W hSw; (try dsimp only at hSw); go_simp; try with_reducible rfl
            simp only [Act.put, List.setIfInBounds_toArray, List.set_cons_zero, List.set_cons_succ]
            refine heldTake 37 (v := ?_) (by simp only [List.getElem?_toArray, List.getElem?_cons_succ, List.getElem?_cons_zero]; rfl) (by kernel_rfl) (by intro _ _ _ h; exact h) (by rfl) (by assumption) ?_ ?_
            rotate_left
            · intro W hSw; (try dsimp only at hSw); go_simp; try with_reducible rfl
            simp only [Act.put, List.setIfInBounds_toArray, List.set_cons_zero, List.set_cons_succ]
            refine heldTake 38 (v := ?_) (by simp only [List.getElem?_toArray, List.getElem?_cons_succ, List.getElem?_cons_zero]; rfl) (by kernel_rfl) (by intro _ _ _ h; exact h) (by rfl) (by assumption) ?_ ?_
            rotate_left
            · intro W hSw; (try dsimp only at hSw); go_simp; try with_reducible rfl
            simp only [Act.put, List.setIfInBounds_toArray, List.set_cons_zero, List.set_cons_succ]
            refine heldTake 39 (v := ?_) (by simp only [List.getElem?_toArray, List.getElem?_cons_succ, List.getElem?_cons_zero]; rfl) (by kernel_rfl) (by intro _ _ _ h; exact h) (by rfl) (by assumption) ?_ ?_
            rotate_left
            · intro W hSw; (try dsimp only at hSw); go_simp; try with_reducible rfl
            simp only [Act.put, List.setIfInBounds_toArray, List.set_cons_zero, List.set_cons_succ]
            refine heldTake 40 (v := ?_) (by simp only [List.getElem?_toArray, List.getElem?_cons_succ, List.getElem?_cons_zero]; rfl) (by kernel_rfl) (by intro _ _ _ h; exact h) (by rfl) (by assumption) ?_ ?_
            rotate_left
            · intro W hSw; (try dsimp only at hSw); go_simp; try with_reducible rfl
            simp only [Act.put, List.setIfInBounds_toArray, List.set_cons_zero, List.set_cons_succ]
            refine heldDone (by kernel_rfl) ?_ _
            clear hHeld HPS1 HPS2
            have hat7 : RisesAt w7.drew tb (some ⟨b, o, none⟩) rs := HAT6.out.below hbx7.drew
            have hMd := HM7.out.drew
            by_cases h0 : (k : Int) = 0
            · have hk0 : k = 0 := by omega
              subst hk0
              clear hat7 HLT h0
              go_wp2_with fail
              refine heldStart 14 (S := fun W => True) (by kernel_rfl) ?_ (fun hHeld => ?_)
              · trivial
              refine heldTake 0 (v := ?_) (by simp only [List.getElem?_toArray, List.getElem?_cons_succ, List.getElem?_cons_zero]; rfl) (by kernel_rfl) (by intro _ _ _ h; exact h) (by rfl) (by assumption) ?_ ?_
              rotate_left
              · intro W hSw; (try dsimp only at hSw); go_simp; try with_reducible rfl
              simp only [Act.put, List.setIfInBounds_toArray, List.set_cons_zero, List.set_cons_succ]
              refine heldTake 1 (v := ?_) (by simp only [List.getElem?_toArray, List.getElem?_cons_succ, List.getElem?_cons_zero]; rfl) (by kernel_rfl) (by intro _ _ _ h; exact h) (by rfl) (by assumption) ?_ ?_
              rotate_left
              · intro W hSw; (try dsimp only at hSw); go_simp; try with_reducible rfl
              simp only [Act.put, List.setIfInBounds_toArray, List.set_cons_zero, List.set_cons_succ]
              refine heldTake 2 (v := ?_) (by simp only [List.getElem?_toArray, List.getElem?_cons_succ, List.getElem?_cons_zero]; rfl) (by kernel_rfl) (by intro _ _ _ h; exact h) (by rfl) (by assumption) ?_ ?_
              rotate_left
              · intro W hSw; (try dsimp only at hSw); go_simp; try with_reducible rfl
              simp only [Act.put, List.setIfInBounds_toArray, List.set_cons_zero, List.set_cons_succ]
              refine heldSkip 3 (by simp only [List.getElem?_toArray, List.getElem?_cons_succ, List.getElem?_cons_zero]; rfl) (by kernel_rfl) (by intro _ _ _ h; exact h) (by rfl) (by assumption) ?_
              simp only [Act.put, List.setIfInBounds_toArray, List.set_cons_zero, List.set_cons_succ]
              refine heldSkip 4 (by simp only [List.getElem?_toArray, List.getElem?_cons_succ, List.getElem?_cons_zero]; rfl) (by kernel_rfl) (by intro _ _ _ h; exact h) (by rfl) (by assumption) ?_
              simp only [Act.put, List.setIfInBounds_toArray, List.set_cons_zero, List.set_cons_succ]
              refine heldSkip 5 (by simp only [List.getElem?_toArray, List.getElem?_cons_succ, List.getElem?_cons_zero]; rfl) (by kernel_rfl) (by intro _ _ _ h; exact h) (by rfl) (by assumption) ?_
              simp only [Act.put, List.setIfInBounds_toArray, List.set_cons_zero, List.set_cons_succ]
              refine heldSkip 6 (by simp only [List.getElem?_toArray, List.getElem?_cons_succ, List.getElem?_cons_zero]; rfl) (by kernel_rfl) (by intro _ _ _ h; exact h) (by rfl) (by assumption) ?_
              simp only [Act.put, List.setIfInBounds_toArray, List.set_cons_zero, List.set_cons_succ]
              refine heldSkip 7 (by simp only [List.getElem?_toArray, List.getElem?_cons_succ, List.getElem?_cons_zero]; rfl) (by kernel_rfl) (by intro _ _ _ h; exact h) (by rfl) (by assumption) ?_
              simp only [Act.put, List.setIfInBounds_toArray, List.set_cons_zero, List.set_cons_succ]
              refine heldSkip 8 (by simp only [List.getElem?_toArray, List.getElem?_cons_succ, List.getElem?_cons_zero]; rfl) (by kernel_rfl) (by intro _ _ _ h; exact h) (by rfl) (by assumption) ?_
              simp only [Act.put, List.setIfInBounds_toArray, List.set_cons_zero, List.set_cons_succ]
              refine heldSkip 9 (by simp only [List.getElem?_toArray, List.getElem?_cons_succ, List.getElem?_cons_zero]; rfl) (by kernel_rfl) (by intro _ _ _ h; exact h) (by rfl) (by assumption) ?_
              simp only [Act.put, List.setIfInBounds_toArray, List.set_cons_zero, List.set_cons_succ]
              refine heldSkip 10 (by simp only [List.getElem?_toArray, List.getElem?_cons_succ, List.getElem?_cons_zero]; rfl) (by kernel_rfl) (by intro _ _ _ h; exact h) (by rfl) (by assumption) ?_
              simp only [Act.put, List.setIfInBounds_toArray, List.set_cons_zero, List.set_cons_succ]
              refine heldSkip 11 (by simp only [List.getElem?_toArray, List.getElem?_cons_succ, List.getElem?_cons_zero]; rfl) (by kernel_rfl) (by intro _ _ _ h; exact h) (by rfl) (by assumption) ?_
              simp only [Act.put, List.setIfInBounds_toArray, List.set_cons_zero, List.set_cons_succ]
              refine heldSkip 12 (by simp only [List.getElem?_toArray, List.getElem?_cons_succ, List.getElem?_cons_zero]; rfl) (by kernel_rfl) (by intro _ _ _ h; exact h) (by rfl) (by assumption) ?_
              simp only [Act.put, List.setIfInBounds_toArray, List.set_cons_zero, List.set_cons_succ]
              refine heldTake 13 (v := ?_) (by simp only [List.getElem?_toArray, List.getElem?_cons_succ, List.getElem?_cons_zero]; rfl) (by kernel_rfl) (by intro _ _ _ h; exact h) (by rfl) (by assumption) ?_ ?_
              rotate_left
              · intro W hSw; (try dsimp only at hSw); go_simp; try with_reducible rfl
              simp only [Act.put, List.setIfInBounds_toArray, List.set_cons_zero, List.set_cons_succ]
              refine heldDone (by kernel_rfl) ?_ _
              go_wp2
              go_roundg (gk - 1)
              case measure => have := HK2.out; omega
              case rel => exact ⟨0 + 1, _, by go_num, Lib.hid (by have := HK2.out; omega), HTA, Lib.hid (HM7.out.drewN 2), HKP7.out.drewN 2⟩
            · have hk1 : ¬ k = 0 := by omega
              have hm : k - 1 < rs.length := by omega
              obtain ⟨b', o', e', hbl', d1, d2, d3⟩ := hat7.one hm
              injection e' with e'
              injection e' with e1 e2
              subst e1 e2
              obtain ⟨⟨z1, z2, z3, z4⟩, z5⟩ := HFA.out.2 rs[k - 1] (List.getElem_mem hm)
              have hlt := HLT.out (by omega) hm
              have hj3 : ((k : Int) - 1).toNat = k - 1 := by omega
              have hw1 : IntKind.i64.wrap ((k : Int) - 1) = (k : Int) - 1 := IntWalk.i64_in _ (by omega)
              have hgt : decide (0 < (k : Int)) = true := by simp; omega
              have hgtN : decide (0 < k) = true := by simp; omega
              have hgtP : 0 < k := by omega
              have hgtI : (0 : Int) < (k : Int) := by omega
              have hix1 : (0 : Int) ≤ (k : Int) - 1 := by omega
              have hix3 : (1 : Int) ≤ (k : Int) := by omega
              have hix2 : (k : Int) - 1 < (rs.length : Int) := by omega
              have q1 := fun W => ratio_any rs[k - 1].key rs[k - 1].new rs[k - 1].old (by omega) W
              rw [ratNum_ok (by omega) (by omega) (by omega), ratDen_ok (by omega) (by omega) (by omega)] at q1
              have q3 := fun W => compare_any rs[k - 1].new (rs[k - 1].old + 1) y.new (y.old + 1) (by omega) (by omega) (by omega) (by omega) (by omega) (by omega) (by omega) (by omega) W
              have hah := ahead_facts hlt
              generalize rs[k - 1] = x at *
              have d3' : w7.drew.cell? ⟨b, o + (k - 1) * 3 + 2, none⟩ = some (.int .i64 x.old) := d3
              have hcc : cmpInt (x.new * (y.old + 1)) (y.new * (x.old + 1)) = 1 ∨ cmpInt (x.new * (y.old + 1)) (y.new * (x.old + 1)) = 0 := by
                rcases hah with h | ⟨h, _⟩
                · exact .inl h
                · exact .inr h
              generalize cmpInt (x.new * (y.old + 1)) (y.new * (x.old + 1)) = cc at *
              have hccl : decide (cc < 0) = false := by simp; omega
              have hccn : ¬ cc < 0 := by omega
              have hccp : 0 ≤ cc := by omega
              have Q1 := Lib.hid q1
              have Q3 := Lib.hid q3
              clear q1 q3 hah hlt hcc HLT h0 d3 hat7
              go_wp2_with fail
              have hzd : wr.heap.size < w7.drew.heap.size := hz77
              have hbd7 : b < w7.drew.heap.size := by show b < w7.heap.size; omega
              have n0 : w7.drew.cell? ⟨wr.heap.size, 0, none⟩ = some (.string y.key) := m0
              have n1 : w7.drew.cell? ⟨wr.heap.size, 1, none⟩ = some (.int .i64 y.new) := m1
              have n2 : w7.drew.cell? ⟨wr.heap.size, 2, none⟩ = some (.int .i64 y.old) := m2
              have HMD := Lib.hid hMd
              have HKD : Hid (Keeps (fun j => j = tb) W6 w7.drew) := Lib.hid HKP7.out.drew
              clear hMd m0 m1 m2 hlk7 HKP7 HM7 HO7
              generalize w7.drew = w8 at *
              have hKe : Grew w8 w8.drew := (Grew.refl _).drew
              refine heldStart 14 (S := fun W => W.cell? ⟨wr.heap.size, 0, none⟩ = some (.string y.key) ∧ W.cell? ⟨wr.heap.size, 1, none⟩ = some (.int .i64 y.new) ∧ W.cell? ⟨wr.heap.size, 2, none⟩ = some (.int .i64 y.old) ∧ W.cell? ⟨b, o + (k - 1) * 3, none⟩ = some (.string x.key) ∧ W.cell? ⟨b, o + (k - 1) * 3 + 1, none⟩ = some (.int .i64 x.new) ∧ W.cell? ⟨b, o + (k - 1) * 3 + 2, none⟩ = some (.int .i64 x.old)) (by kernel_rfl) ?_ (fun hHeld => ?_)
              · exact keepT hKe hzd hbd7 n0 n1 n2 d1 d2 d3'
              refine heldTake 0 (v := ?_) (by simp only [List.getElem?_toArray, List.getElem?_cons_succ, List.getElem?_cons_zero]; rfl) (by kernel_rfl) (by intro _ _ _ h; exact h) (by rfl) (by assumption) ?_ ?_
              rotate_left
              · intro W hSw; (try dsimp only at hSw); go_simp; try with_reducible rfl
              simp only [Act.put, List.setIfInBounds_toArray, List.set_cons_zero, List.set_cons_succ]
              refine heldTake 1 (v := ?_) (by simp only [List.getElem?_toArray, List.getElem?_cons_succ, List.getElem?_cons_zero]; rfl) (by kernel_rfl) (by intro _ _ _ h; exact h) (by rfl) (by assumption) ?_ ?_
              rotate_left
              · intro W hSw; (try dsimp only at hSw); go_simp; try with_reducible rfl
              simp only [Act.put, List.setIfInBounds_toArray, List.set_cons_zero, List.set_cons_succ]
              refine heldTake 2 (v := ?_) (by simp only [List.getElem?_toArray, List.getElem?_cons_succ, List.getElem?_cons_zero]; rfl) (by kernel_rfl) (by intro _ _ _ h; exact h) (by rfl) (by assumption) ?_ ?_
              rotate_left
              · intro W hSw; (try dsimp only at hSw); go_simp; try with_reducible rfl
              simp only [Act.put, List.setIfInBounds_toArray, List.set_cons_zero, List.set_cons_succ]
              refine heldTake 3 (v := ?_) (by simp only [List.getElem?_toArray, List.getElem?_cons_succ, List.getElem?_cons_zero]; rfl) (by kernel_rfl) (by intro _ _ _ h; exact h) (by rfl) (by assumption) ?_ ?_
              rotate_left
              · intro W hSw; (try dsimp only at hSw); go_simp; try with_reducible rfl
              simp only [Act.put, List.setIfInBounds_toArray, List.set_cons_zero, List.set_cons_succ]
              refine heldTake 4 (v := ?_) (by simp only [List.getElem?_toArray, List.getElem?_cons_succ, List.getElem?_cons_zero]; rfl) (by kernel_rfl) (by intro _ _ _ h; exact h) (by rfl) (by assumption) ?_ ?_
              rotate_left
              · intro W hSw; (try dsimp only at hSw); go_simp; try with_reducible rfl
              simp only [Act.put, List.setIfInBounds_toArray, List.set_cons_zero, List.set_cons_succ]
              refine heldTake 5 (v := ?_) (by simp only [List.getElem?_toArray, List.getElem?_cons_succ, List.getElem?_cons_zero]; rfl) (by kernel_rfl) (by intro _ _ _ h; exact h) (by rfl) (by assumption) ?_ ?_
              rotate_left
              · intro W hSw; (try dsimp only at hSw); go_simp; try with_reducible rfl
              simp only [Act.put, List.setIfInBounds_toArray, List.set_cons_zero, List.set_cons_succ]
              refine heldTake 6 (v := ?_) (by simp only [List.getElem?_toArray, List.getElem?_cons_succ, List.getElem?_cons_zero]; rfl) (by kernel_rfl) (by intro _ _ _ h; exact h) (by rfl) (by assumption) ?_ ?_
              rotate_left
              · intro W hSw; (try dsimp only at hSw); go_simp; try with_reducible rfl
              simp only [Act.put, List.setIfInBounds_toArray, List.set_cons_zero, List.set_cons_succ]
              refine heldTake 7 (v := ?_) (by simp only [List.getElem?_toArray, List.getElem?_cons_succ, List.getElem?_cons_zero]; rfl) (by kernel_rfl) (by intro _ _ _ h; exact h) (by rfl) (by assumption) ?_ ?_
              rotate_left
              · intro W hSw; (try dsimp only at hSw); go_simp; try with_reducible rfl
              simp only [Act.put, List.setIfInBounds_toArray, List.set_cons_zero, List.set_cons_succ]
              refine heldTake 9 (v := ?_) (by simp only [List.getElem?_toArray, List.getElem?_cons_succ, List.getElem?_cons_zero]; rfl) (by kernel_rfl) (by intro _ _ _ h; exact h) (by rfl) (by assumption) ?_ ?_
              rotate_left
              · intro W hSw; (try dsimp only at hSw); go_simp; try with_reducible rfl
              simp only [Act.put, List.setIfInBounds_toArray, List.set_cons_zero, List.set_cons_succ]
              refine heldCall 8 (by simp only [List.getElem?_toArray, List.getElem?_cons_succ, List.getElem?_cons_zero]; rfl) (by kernel_rfl) (fun K hK => ?_)
              go_simp
              refine (Q1.out _).mono ?_
              rintro e w9 ⟨rfl, hg⟩
              have hK0 := hKe.trans hg
              clear hKe hg
              have hKe := hK0
              clear hK0
              go_wp2_with fail
              refine hK.out _ _ ?_ (fun hHeld => ?_)
              · exact keepT hKe hzd hbd7 n0 n1 n2 d1 d2 d3'
              clear hK K
              (try simp only [Act.put, List.setIfInBounds_toArray, List.set_cons_zero, List.set_cons_succ])
              refine heldCall 10 (by simp only [List.getElem?_toArray, List.getElem?_cons_succ, List.getElem?_cons_zero]; rfl) (by kernel_rfl) (fun K hK => ?_)
              go_simp
              refine (Q2.out _).mono ?_
              rintro e w10 ⟨rfl, hg⟩
              have hK0 := hKe.trans hg
              clear hKe hg
              have hKe := hK0
              clear hK0
              go_wp2_with fail
              refine hK.out _ _ ?_ (fun hHeld => ?_)
              · exact keepT hKe hzd hbd7 n0 n1 n2 d1 d2 d3'
              clear hK K
              (try simp only [Act.put, List.setIfInBounds_toArray, List.set_cons_zero, List.set_cons_succ])
              refine heldCall 11 (by simp only [List.getElem?_toArray, List.getElem?_cons_succ, List.getElem?_cons_zero]; rfl) (by kernel_rfl) (fun K hK => ?_)
              go_simp
              refine (Q3.out _).mono ?_
              rintro e w11 ⟨rfl, hg⟩
              have hK0 := hKe.trans hg
              clear hKe hg
              have hKe := hK0
              clear hK0
              go_wp2_with fail
              refine hK.out _ _ ?_ (fun hHeld => ?_)
              · exact keepT hKe hzd hbd7 n0 n1 n2 d1 d2 d3'
              clear hK K
              (try simp only [Act.put, List.setIfInBounds_toArray, List.set_cons_zero, List.set_cons_succ])
              refine heldTake 12 (v := ?_) (by simp only [List.getElem?_toArray, List.getElem?_cons_succ, List.getElem?_cons_zero]; rfl) (by kernel_rfl) (by intro _ _ _ h; exact h) (by rfl) (by assumption) ?_ ?_
              rotate_left
              · intro W hSw; (try dsimp only at hSw); go_simp; try with_reducible rfl
              simp only [Act.put, List.setIfInBounds_toArray, List.set_cons_zero, List.set_cons_succ]
              refine heldTake 13 (v := ?_) (by simp only [List.getElem?_toArray, List.getElem?_cons_succ, List.getElem?_cons_zero]; rfl) (by kernel_rfl) (by intro _ _ _ h; exact h) (by rfl) (by assumption) ?_ ?_
              rotate_left
              · intro W hSw; (try dsimp only at hSw); go_simp; try with_reducible rfl
              simp only [Act.put, List.setIfInBounds_toArray, List.set_cons_zero, List.set_cons_succ]
              refine heldDone (by kernel_rfl) ?_ _
              have HMf := Lib.hid (HMD.out.below hKe.below HMD.out.lt)
              have HKf : Hid (Keeps (fun j => j = tb) W6 w11) := Lib.hid (HKD.out.trans (Keeps.ofBelow hKe.below (fun _ => False)) (fun _ _ e => e.elim))
              clear hKe hHeld
              go_wp2
              go_roundg (gk - 1)
              case measure => have := HK2.out; omega
              case rel => exact ⟨k + 1, _, by go_num, Lib.hid (by have := HK2.out; omega), HTA, HMf, HKf.out⟩
          · have hall2 : rs.take k = rs := List.take_of_length_le (by omega)
            have htm := HTM.out
            rw [hall2] at htm
            have HTMa := Lib.hid htm
            have hKbr : MapIs wr strKf intVf strOk kb M := HK6.out.keep hkp (by show ¬ kb = tb; omega)
            have hOr : PaneObj wr pb F' wd l := HO6.out.keep hkp (fun j hj e => by have := HFlt.out j hj; omega)
            have HBr2 : Hid (Below w.heap.size w wr) := Lib.hid (HB6.out.trans (hbx.mono (by omega)))
            have HKbr := Lib.hid hKbr
            have HOr := Lib.hid hOr
            clear htm hall2 hKbr hOr HTM hkp hbx
            go_wp2_with (at_range; refine wpList_range_is rfl _ _ rfl Try.underlying66 rfl HKbr.out ?_; intro w8 hrg8 hb8 hz8)
            have hlt8 := HOr.out.lt
            have HRG := Lib.hid hrg8
            have HO8 := Lib.hid (HOr.out.below hb8)
            have HM8 := Lib.hid (HM2.out.below hb8 HM2.out.lt)
            have HB8 : Hid (Below w.heap.size w w8) := Lib.hid (HBr2.out.trans (hb8.mono HBr2.out.size))
            have HFr8 : Hid (∀ j, F' j → j ≠ wr.heap.size) := Lib.hid (fun j hj e => by have := hlt8 j hj; omega)
            have htb8 : tb ≠ wr.heap.size := by have := HM2.out.lt; omega
            have hwr8 : w.heap.size ≤ wr.heap.size := HBr2.out.size
            have HNM := Lib.hid (fun p (hp : p ∈ M) => HKMa.out.mem p hp)
            clear hrg8 hb8 hz8 hlt8 hk
            (try go_frame)
            obtain ⟨r1, hr1⟩ : ∃ r1, r1 = wr.heap.size := ⟨_, rfl⟩
            rw [← hr1] at HRG HFr8 htb8 hwr8
            rw [← hr1]
            clear hr1
            generalize wr = wold2 at *
            generalize gk = gold2 at *
            go_loopg [] M.length (fun rest wr => ∃ left, Hid (rest = List.length left) ∧ Hid (∀ p ∈ left, p ∈ M) ∧ Hid (RangeAt wr strKf intVf r1 (some kb) left) ∧ Hid (PaneObj wr pb F' wd l) ∧ Hid (MapIs wr strKf intVf strOk tb M2) ∧ Hid (Below w.heap.size w wr))
            case atStart => exact ⟨M, Lib.hid rfl, Lib.hid (fun _ h => h), HRG, HO8, HM8, HB8⟩
            case round =>
              obtain ⟨left, HLN, HSUB, HRGl, HOl, HMl, HBl⟩ := hrel
              obtain ⟨w5', rfl⟩ : ∃ w5' : World, w5' = wr := ⟨_, rfl⟩
              go_wp2_with (at_next; refine wpList_next_is rfl _ rfl rfl HRGl.out ?_ ?_)
              · intro h0
                (try go_frame)
                go_wp2
                go_ret
                exact ⟨rfl, HBl.out⟩
              · intro key v w9 hmem hrg9 hk9 hz9 hen
                have hml := mdel_len HRGl.out.nodup (p := (key, v)) hmem
                simp only at hml
                have HML := Lib.hid hml
                obtain ⟨a, ha, ea⟩ := HNM.out _ (HSUB.out _ hmem)
                have hks : strOk key := by
                  have h1 := HK24.out a ha
                  simp only at ea
                  rw [ea] at h1
                  unfold strOk maxLen
                  omega
                have HO9 := Lib.hid (HOl.out.keep hk9 (fun j hj e => HFr8.out j hj e))
                have HM9 := Lib.hid (HMl.out.keep hk9 htb8)
                have HB9 : Hid (Below w.heap.size w w9) := Lib.hid (HBl.out.trans (hk9.toBelow HBl.out.size (fun j e => by omega)))
                have HSUB9 : Hid (∀ p ∈ mdel left key, p ∈ M) := Lib.hid (fun p hp => HSUB.out p (List.mem_filter.1 hp).1)
                have HRG9 := Lib.hid hrg9
                simp only [strKf, intVf] at hen
                have hps := psum_any pb F' wd l key (bg - span) bg w9 HO9.out hks (by omega) (by omega) (by omega) (by omega)
                have hlk9 := look_cnt HM9.out hks
                have hbdN := HO9.out.tot_bd key ((bg - span) / wd) (bg / wd)
                have htold : floor ≤ histTot wd l key ((bg - span) / wd) (bg / wd) → 0 < histTot wd l key ((bg - span) / wd) (bg / wd) → cntAt M2 key = 1 := fun h1 h2 =>
                  HTMa.out.1 key ⟨riseOf wd l span bg key, (HRS.out _).2 ⟨rfl, by show 1 ≤ histTot _ _ _ _ _; omega, h1⟩, rfl⟩
                generalize histTot wd l key ((bg - span) / wd) (bg / wd) = N at *
                have HPS := Lib.hid hps
                clear hml hmem hrg9 hk9 hz9 hps ea ha
                (try go_frame)
                go_wp2_with fail
                refine HPS.out.mono ?_
                rintro r w10 ⟨rfl, rfl⟩
                by_cases h1 : floor ≤ N
                · by_cases h2 : 0 < N
                  · have h3 := htold h1 h2
                    rw [h3] at hlk9
                    have hne : ((1 : Int) != 1) = false := by decide
                    clear htold h3 HPS
                    go_wp2
                    go_roundg (gk - 1)
                    case measure => have := HLN.out; have := HML.out; omega
                    case rel => exact ⟨mdel left key, Lib.hid (by have := HLN.out; have := HML.out; omega), HSUB9, HRG9, HO9, HM9, HB9⟩
                  · clear htold HPS hlk9
                    go_wp2
                    go_roundg (gk - 1)
                    case measure => have := HLN.out; have := HML.out; omega
                    case rel => exact ⟨mdel left key, Lib.hid (by have := HLN.out; have := HML.out; omega), HSUB9, HRG9, HO9, HM9, HB9⟩
                · clear htold HPS hlk9
                  go_wp2
                  go_roundg (gk - 1)
                  case measure => have := HLN.out; have := HML.out; omega
                  case rel => exact ⟨mdel left key, Lib.hid (by have := HLN.out; have := HML.out; omega), HSUB9, HRG9, HO9, HM9, HB9⟩
  · have g1' : fewB l = false := by simpa using g1
    go_enter Try.func6, Try.ntmps6
    go_wp2_with fail
    refine (counts_any _).mono ?_
    rintro r w1 ⟨rfl, hb1⟩
    go_wp2_with fail
    refine (few_any A c l _ ⟨(HL.out.1.below hb1).more hb1.size, HL.out.2⟩ hlen).mono ?_
    rintro r w2 ⟨rfl, hb2⟩
    rw [g1']
    have hB2 : Below w.heap.size w w2 := hb1.trans (hb2.mono hb1.size)
    clear hb1 hb2
    go_wp2_with fail
    refine (counts_any _).mono ?_
    rintro r w3 ⟨rfl, hb3⟩
    go_wp2
    go_ret
    exact ⟨rfl, hB2.trans (hb3.mono hB2.size)⟩
end Go.Proofs.Ytmigjlceogofaaa
