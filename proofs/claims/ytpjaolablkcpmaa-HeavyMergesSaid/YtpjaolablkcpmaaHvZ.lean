/- The walk of HeavyMerges. -/
import Derived.Test.YtpjaolablkcpmaaHvY
import Derived.Test.YtpjaolablkcpmaaObs
namespace Go.Proofs.Ytpjaolablkcpmaa
open Go.ChangeShapes Go.WideShapes Go.ChangeAt Go.RowKit Go.Shelf Go.Lib Go.Sort Go.Proofs
set_option linter.unusedVariables false
set_option linter.unusedSimpArgs false

theorem slice_cap {H : Type} {enc : TypeId × Value → H} {P : Program} {w : World} {t e : TypeId} (ht : P.underlying t = some (.slice e)) {A : Option Addr} {n c : Nat} {x : DataW H} {p : List MemPlace} (h : DataW.Trod enc P w 0 (fun _ => true) true t (.slice A n c) x p) : n ≤ c := by
  obtain ⟨fuel, hf⟩ := h
  rcases Go.Deep.open_slice ht hf with ⟨h1, _⟩ | ⟨a, len, cap, m, n', D, Pl, h1, _, hl, _⟩
  · simp [Value.cells] at h1
    omega
  · simp [Value.cells] at h1
    obtain ⟨_, rfl, rfl⟩ := h1
    exact hl
/-- Where a part of a row begins. -/
def partA (A : Option Addr) (c i : Nat) : Option Addr := if c = i then A else A.map (·.add (i * 2))
theorem cnts_part {w : World} {B c : Nat} {A : Option Addr} {l : List CntV} (h : CntsAt w B A l) (hc : l.length ≤ c) (i n : Nat) : CntsAt w B (partA A c i) ((l.drop i).take n) := by
  by_cases h0 : ((l.drop i).take n).length = 0
  · have : (l.drop i).take n = [] := List.eq_nil_of_length_eq_zero h0
    rw [this]
    exact Reads.none_
  · have hi : i < l.length := by rw [List.length_take, List.length_drop] at h0; omega
    obtain ⟨b, o, rfl, hb, hcc⟩ := h.2 (by omega)
    have hd := Reads.drop h (m := i) (c := c) (by omega) hc rfl
    rw [if_neg (by omega), flat_dropE (e := cntEnc) (k := 2) (fun _ => rfl)] at hd
    have ht := Reads.take hd (m := min n (l.length - i)) (by omega)
    rw [flat_take2 cntEnc (fun _ => rfl)] at ht
    have e1 : (l.drop i).take (min n (l.length - i)) = (l.drop i).take n := by
      rcases Nat.le_total n (l.length - i) with h | h
      · rw [Nat.min_eq_left h]
      · rw [Nat.min_eq_right h, List.take_of_length_le (by rw [List.length_drop]; omega), List.take_of_length_le (by rw [List.length_drop]; omega)]
    rw [e1] at ht
    have e2 : partA (some ⟨b, o, none⟩) c i = some ⟨b, o + i * 2, none⟩ := by
      unfold partA
      rw [if_neg (by omega)]
      show some ((⟨b, o, none⟩ : Addr).add (i * 2)) = _
      unfold Addr.add
      split <;> simp_all
    unfold CntsAt
    rw [e2]
    have e3 : ((l.drop i).take n).length = min n (l.length - i) := by rw [List.length_take, List.length_drop]
    rw [e3]
    exact ht

theorem grown14_n (m : Int) (A : Option Addr) (c n : Nat) (l : List CntV) (w : World) (hn : n = l.length) (hl : CntsAt w w.heap.size A l) (hlen : (l.length : Int) ≤ 1000) (hks : ∀ a ∈ l, (a.key.size : Int) ≤ 100) :
    Calls Try.prog 19 #[.int .i64 m, .slice A n c] w (GrownNew w m l) := by
  subst hn
  exact grown14_any m A c l w hl hlen hks
theorem truth_parts (l : List CntV) {i j : Nat} (hij : i ≤ j) (k : ByteArray) : truthV (l.drop j) k + (truthV (l.take i) k + truthV ((l.drop i).take (j - i)) k) = truthV l k := by
  have e : l = l.take i ++ ((l.drop i).take (j - i) ++ l.drop j) := by
    have h1 : (l.drop i).take (j - i) ++ (l.drop i).drop (j - i) = l.drop i := List.take_append_drop _ _
    rw [List.drop_drop, show i + (j - i) = j by omega] at h1
    rw [h1, List.take_append_drop]
  conv => rhs; rw [e]
  rw [truthV_append, truthV_append]
  omega

theorem RfO.self {w : World} {xb : Nat} {F : Nat → Prop} {s : HvS} (h : RfO w xb F s) : F xb := by
  obtain ⟨A, c, cs, _, rfl⟩ := h
  exact .inl rfl

set_option maxRecDepth 20000 in
set_option maxHeartbeats 16000000 in
theorem merges_walk (m : Int) (A : Option Addr) (c : Nat) (l : List CntV) (first second : Int) (key : ByteArray) (w : World) (hl : CntsAt w w.heap.size A l) (hlen : (l.length : Int) ≤ 9223372036854775807) (hcn : A = none → c = 0) (hcap : l.length ≤ c) :
    Calls Try.prog 6 #[.int .i64 m, .slice A l.length c, .int .i64 first, .int .i64 second, .string key] w fun e w' => e = .returned (.bool true) ∧ Below w.heap.size w w' := by
  have HL := Lib.hid hl
  clear hl
  by_cases g : bigB l 60 = true ∨ 100 < (key.size : Int) ∨ m < 1 ∨ 60 < m ∨ first < 0 ∨ second < first ∨ (l.length : Int) < second
  · by_cases g0x : bigB l 60 = true
    · go_enter Try.func6, Try.ntmps6
      go_wp2_with fail
      refine (lives14_any _).mono ?_
      rintro e w1 ⟨rfl, hb1⟩
      go_wp2_with fail
      refine (big14_any A c l 60 _ ((HL.out.below hb1).more hb1.size) hlen (by omega)).mono ?_
      rintro e w2 ⟨rfl, hb2⟩
      rw [g0x]
      go_wp2
      go_ret
      exact ⟨rfl, hb1.trans (hb2.mono hb1.size)⟩
    · have g0' : bigB l 60 = false := by simpa using g0x
      by_cases g0 : 100 < (key.size : Int)
      · go_enter Try.func6, Try.ntmps6
        go_wp2_with fail
        refine (lives14_any _).mono ?_
        rintro e w1 ⟨rfl, hb1⟩
        go_wp2_with fail
        refine (big14_any A c l 60 _ ((HL.out.below hb1).more hb1.size) hlen (by omega)).mono ?_
        rintro e w2 ⟨rfl, hb2⟩
        rw [g0']
        go_wp2
        go_ret
        exact ⟨rfl, hb1.trans (hb2.mono hb1.size)⟩
      · by_cases g1 : m < 1
        · go_enter Try.func6, Try.ntmps6
          go_wp2_with fail
          refine (lives14_any _).mono ?_
          rintro e w1 ⟨rfl, hb1⟩
          go_wp2_with fail
          refine (big14_any A c l 60 _ ((HL.out.below hb1).more hb1.size) hlen (by omega)).mono ?_
          rintro e w2 ⟨rfl, hb2⟩
          rw [g0']
          go_wp2
          go_ret
          exact ⟨rfl, hb1.trans (hb2.mono hb1.size)⟩
        · by_cases g2 : 60 < m
          · go_enter Try.func6, Try.ntmps6
            go_wp2_with fail
            refine (lives14_any _).mono ?_
            rintro e w1 ⟨rfl, hb1⟩
            go_wp2_with fail
            refine (big14_any A c l 60 _ ((HL.out.below hb1).more hb1.size) hlen (by omega)).mono ?_
            rintro e w2 ⟨rfl, hb2⟩
            rw [g0']
            go_wp2
            go_ret
            exact ⟨rfl, hb1.trans (hb2.mono hb1.size)⟩
          · by_cases g3 : first < 0
            · go_enter Try.func6, Try.ntmps6
              go_wp2_with fail
              refine (lives14_any _).mono ?_
              rintro e w1 ⟨rfl, hb1⟩
              go_wp2_with fail
              refine (big14_any A c l 60 _ ((HL.out.below hb1).more hb1.size) hlen (by omega)).mono ?_
              rintro e w2 ⟨rfl, hb2⟩
              rw [g0']
              go_wp2
              go_ret
              exact ⟨rfl, hb1.trans (hb2.mono hb1.size)⟩
            · by_cases g4 : second < first
              · go_enter Try.func6, Try.ntmps6
                go_wp2_with fail
                refine (lives14_any _).mono ?_
                rintro e w1 ⟨rfl, hb1⟩
                go_wp2_with fail
                refine (big14_any A c l 60 _ ((HL.out.below hb1).more hb1.size) hlen (by omega)).mono ?_
                rintro e w2 ⟨rfl, hb2⟩
                rw [g0']
                go_wp2
                go_ret
                exact ⟨rfl, hb1.trans (hb2.mono hb1.size)⟩
              · have g5 : (l.length : Int) < second := by
                  rcases g with g | g | g | g | g | g | g
                  · exact absurd g g0x
                  · exact absurd g g0
                  · exact absurd g g1
                  · exact absurd g g2
                  · exact absurd g g3
                  · exact absurd g g4
                  · exact g
                go_enter Try.func6, Try.ntmps6
                go_wp2_with fail
                refine (lives14_any _).mono ?_
                rintro e w1 ⟨rfl, hb1⟩
                go_wp2_with fail
                refine (big14_any A c l 60 _ ((HL.out.below hb1).more hb1.size) hlen (by omega)).mono ?_
                rintro e w2 ⟨rfl, hb2⟩
                rw [g0']
                go_wp2
                go_ret
                exact ⟨rfl, hb1.trans (hb2.mono hb1.size)⟩
  · have g1' : bigB l 60 = false := by simpa using fun h => g (.inl h)
    have g2 : ¬ 100 < (key.size : Int) := fun h => g (.inr (.inl h))
    have g3 : ¬ m < 1 := fun h => g (.inr (.inr (.inl h)))
    have g4 : ¬ 60 < m := fun h => g (.inr (.inr (.inr (.inl h))))
    have g5 : ¬ first < 0 := fun h => g (.inr (.inr (.inr (.inr (.inl h)))))
    have g6 : ¬ second < first := fun h => g (.inr (.inr (.inr (.inr (.inr (.inl h))))))
    have g7 : ¬ (l.length : Int) < second := fun h => g (.inr (.inr (.inr (.inr (.inr (.inr h))))))
    obtain ⟨i, rfl⟩ : ∃ i : Nat, first = (i : Int) := ⟨first.toNat, by omega⟩
    obtain ⟨j, rfl⟩ : ∃ j : Nat, second = (j : Int) := ⟨second.toNat, by omega⟩
    have hno := Lib.hid (bigB_no g1')
    have HCN := Lib.hid hcn
    have hic : (i : Int) ≤ (c : Int) := by omega
    have hjc : (j : Int) ≤ (c : Int) := by omega
    have hij : (i : Int) ≤ (j : Int) := by omega
    have hjl : (j : Int) ≤ (l.length : Int) := by omega
    clear g hcn
    go_enter Try.func6, Try.ntmps6
    go_wp2_with fail
    refine (lives14_any _).mono ?_
    rintro e w1 ⟨rfl, hb1⟩
    go_wp2_with fail
    refine (big14_any A c l 60 _ ((HL.out.below hb1).more hb1.size) hlen (by omega)).mono ?_
    rintro e w2 ⟨rfl, hb2⟩
    have hB2 : Below w.heap.size w w2 := hb1.trans (hb2.mono hb1.size)
    clear hb1 hb2
    rw [g1']
    go_wp2_with fail
    obtain ⟨li, hli⟩ : ∃ li, li = l.take i := ⟨_, rfl⟩
    obtain ⟨lm, hlm⟩ : ∃ lm, lm = (l.drop i).take (j - i) := ⟨_, rfl⟩
    obtain ⟨lr, hlr⟩ : ∃ lr, lr = l.drop j := ⟨_, rfl⟩
    have hni : i = li.length := by rw [hli, List.length_take]; omega
    have hnm : j - i = lm.length := by rw [hlm, List.length_take, List.length_drop]; omega
    have hnr : l.length - j = lr.length := by rw [hlr, List.length_drop]
    have hpi : ∀ W, Below w.heap.size w W → CntsAt W W.heap.size A li := fun W hb => by
      have h1 := (HL.out.below hb).take i (by omega)
      rw [← hli, show i = li.length from hni] at h1
      exact Reads.more h1 hb.size
    have hpm : ∀ W, Below w.heap.size w W → CntsAt W W.heap.size (partA A c i) lm := fun W hb => by
      rw [hlm]
      exact Reads.more (cnts_part (HL.out.below hb) hcap i (j - i)) hb.size
    have hpr : ∀ W, Below w.heap.size w W → CntsAt W W.heap.size (partA A c j) lr := fun W hb => by
      have h1 := cnts_part (HL.out.below hb) hcap j (l.length - j)
      rw [List.take_of_length_le (by rw [List.length_drop]; exact Nat.le_refl _), ← hlr] at h1
      exact Reads.more h1 hb.size
    have hki : ∀ a ∈ li, (a.key.size : Int) ≤ 100 := fun a ha => hno.out.2 a (by rw [hli] at ha; exact List.mem_of_mem_take ha)
    have hkm : ∀ a ∈ lm, (a.key.size : Int) ≤ 100 := fun a ha => hno.out.2 a (by rw [hlm] at ha; exact List.mem_of_mem_drop (List.mem_of_mem_take ha))
    have hkr : ∀ a ∈ lr, (a.key.size : Int) ≤ 100 := fun a ha => hno.out.2 a (by rw [hlr] at ha; exact List.mem_of_mem_drop ha)
    have htp : ∀ k, truthV lr k + (truthV li k + truthV lm k) = truthV l k := fun k => by rw [hli, hlm, hlr]; exact truth_parts l (by omega) k
    have hl60 : (li.length : Int) + lm.length + lr.length ≤ 60 := by have := hno.out.1; omega
    have HNI := Lib.hid hni
    have HNM := Lib.hid hnm
    have HNR := Lib.hid hnr
    have HPI := Lib.hid hpi
    have HPM := Lib.hid hpm
    have HPR := Lib.hid hpr
    have HKI := Lib.hid hki
    have HKM := Lib.hid hkm
    have HKR := Lib.hid hkr
    have HTP := Lib.hid htp
    clear hli hlm hlr hni hnm hnr hpi hpm hpr hki hkm hkr htp
    obtain ⟨pa, hpa⟩ : ∃ pa, (if c = i then A else Option.map (fun x => x.add (i * 2)) A) = pa := ⟨_, rfl⟩
    obtain ⟨pb, hpb⟩ : ∃ pb, (if c = j then A else Option.map (fun x => x.add (j * 2)) A) = pb := ⟨_, rfl⟩
    have HPM2 : Hid (∀ W, Below w.heap.size w W → CntsAt W W.heap.size pa lm) := Lib.hid (by rw [← hpa]; exact HPM.out)
    have HPR2 : Hid (∀ W, Below w.heap.size w W → CntsAt W W.heap.size pb lr) := Lib.hid (by rw [← hpb]; exact HPR.out)
    clear HPM HPR
    have hos := Obs.nil (B := w.heap.size) (Nat.le_refl _) hB2
    refine (grown14_n m A c i li _ HNI.out (HPI.out _ hos.bl) (by omega) HKI.out).mono ?_
    rintro e w3 ⟨ha, xa, Fa, Ga, rfl, hH, hX, hap, hF, hG, hb3⟩
    obtain ⟨F3, hos3⟩ := hos.new2 hb3 hH hX hap hF hG
    simp only [List.nil_append] at hos3
    clear hos hH hX hap hF hG hb3 hB2
    go_wp2_with fail
    refine (grown14_n m pa (c - i) (j - i) lm _ HNM.out (HPM2.out _ hos3.bl) (by omega) HKM.out).mono ?_
    rintro e w4 ⟨hb, xb, Fb, Gb, rfl, hH, hX, hap, hF, hG, hb4⟩
    obtain ⟨F4, hos4⟩ := hos3.new2 hb4 hH hX hap hF hG
    simp only [List.cons_append, List.nil_append] at hos4
    clear hos3 hH hX hap hF hG hb4
    go_wp2_with fail
    refine (grown14_n m pb (c - j) (l.length - j) lr _ HNR.out (HPR2.out _ hos4.bl) (by omega) HKR.out).mono ?_
    rintro e w5 ⟨hc, xc, Fc, Gc, rfl, hH, hX, hap, hF, hG, hb5⟩
    obtain ⟨F5, hos5⟩ := hos4.new2 hb5 hH hX hap hF hG
    simp only [List.cons_append, List.nil_append] at hos5
    clear hos4 hH hX hap hF hG hb5 hpa hpb HPM2 HPR2 HPI
    have facts : ∀ q : List CntV, (q.length : Int) ≤ 60 → (addAll (newH m) q).room = m ∧ (addAll (newH m) q).added ≤ q.length ∧ HvInv (addAll (newH m) q) ∧ Tr (addAll (newH m) q) (truthV q) := fun q hq => ⟨by rw [addAll_room, newH_room (by omega) (by omega)], by have := addAll_added (newH m) q; have e : (newH m).added = 0 := rfl; omega, addAll_inv (newH_inv m) q, tr_all (by omega)⟩
    obtain ⟨ra, aa, ia, ta⟩ := facts li (by omega)
    obtain ⟨rb, ab, ib, tb⟩ := facts lm (by omega)
    obtain ⟨rc, ac, ic, tc⟩ := facts lr (by omega)
    generalize addAll (newH m) li = sa at *
    generalize addAll (newH m) lm = sb at *
    generalize addAll (newH m) lr = sc at *
    have hr1 : sb.room = sa.room := by rw [ra, rb]
    have ha1 : sa.added + sb.added ≤ 1048576 := by omega
    have im : HvInv (mergeH sa sb) := mergeH_inv ia ib hr1 ha1
    have tm := ta.merge ia ib hr1 tb
    have rm : (mergeH sa sb).room = m := ra
    have am : (mergeH sa sb).added = sa.added + sb.added := rfl
    have hr2 : (mergeH sa sb).room = sc.room := by rw [rm, rc]
    have ha2 : sc.added + (mergeH sa sb).added ≤ 1048576 := by omega
    have i2 : HvInv (mergeH sc (mergeH sa sb)) := mergeH_inv ic im hr2 ha2
    have t2 := tc.merge ic im hr2 tm
    have r2 : (mergeH sc (mergeH sa sb)).room = m := rc
    have a2 : (mergeH sc (mergeH sa sb)).added = sc.added + (mergeH sa sb).added := rfl
    have T2 : Hid (Tr (mergeH sc (mergeH sa sb)) (truthV l)) := Lib.hid (fun k => by have := t2 k; simp only at this; rw [HTP.out k] at this; exact this)
    have ha3 : (mergeH sc (mergeH sa sb)).added + (mergeH sc (mergeH sa sb)).added ≤ 1048576 := by omega
    have i3 := mergeH_inv i2 i2 rfl ha3
    have t3 := T2.out.merge i2 i2 rfl T2.out
    have T3 : Hid (Tr (mergeH (mergeH sc (mergeH sa sb)) (mergeH sc (mergeH sa sb))) (truthV (l ++ l))) := Lib.hid (fun k => by have := t3 k; simp only at this; rw [truthV_append]; exact this)
    have R3 : Hid ((mergeH (mergeH sc (mergeH sa sb)) (mergeH sc (mergeH sa sb))).room = m) := Lib.hid r2
    have R2 := Lib.hid r2
    have HR1 := Lib.hid hr1
    have HR2 := Lib.hid hr2
    have RA := Lib.hid ra
    have HA1 := Lib.hid ha1
    have HA2 := Lib.hid ha2
    have HA3 := Lib.hid ha3
    have HKO : Hid (strOk key) := Lib.hid (by show key.size ≤ maxLen; unfold maxLen; omega)
    clear facts ra aa ia ta rb ab ib tb rc ac ic tc hr1 ha1 im tm rm am hr2 ha2 i2 t2 r2 a2 ha3 i3 t3 HTP HNI HNM HNR
    generalize hsm : mergeH sa sb = sm at *
    generalize hs2 : mergeH sc sm = s2 at *
    generalize hs3 : mergeH s2 s2 = s3 at *
    have HSM := Lib.hid hsm
    have HS2 := Lib.hid hs2
    have HS3 := Lib.hid hs3
    clear hsm hs2 hs3
    have hw1 : wrap64 (m + 1) = m + 1 := by unfold wrap64; omega
    go_wp2_with fail
    refine (hmerge_o (hos5.get (i := 0) rfl) (hos5.get (i := 2) rfl) (hos5.ap 0 2 (by decide) (by simp) (by simp)) HR1.out HA1.out).mono ?_
    rintro e w6 ⟨rfl, G6, hO6, hu6⟩
    obtain ⟨F6, hos6⟩ := hos5.upd (i := 0) (b := true) rfl hu6 hO6
    simp only [List.set_cons_zero, HSM.out] at hos6
    clear hos5 hO6 hu6
    go_wp2_with fail
    refine hmerge_nil.mono ?_
    rintro e w7 ⟨rfl, hb7⟩
    have hos7 := hos6.below hb7
    clear hos6 hb7
    go_wp2_with fail
    refine (hnew_o (m + 1) _).mono ?_
    rintro e w8 ⟨hn, Fn, rfl, hOn, hFn, hb8⟩
    obtain ⟨F8, hos8⟩ := hos7.new (b := true) hb8 hOn hFn
    simp only [List.cons_append, List.nil_append] at hos8
    clear hos7 hOn hFn hb8
    go_wp2_with fail
    refine (hmerge_other (hos8.get (i := 0) rfl) (hos8.get (i := 6) rfl) (by rw [newH_room (by omega) (by omega), ← HSM.out]; show m + 1 ≠ sa.room; rw [RA.out]; omega)).mono ?_
    rintro e w9 ⟨rfl, hb9⟩
    have hos9 := hos8.below hb9
    clear hos8 hb9
    obtain ⟨Ax, cx, csx, hRx, hFx⟩ : RfO _ _ _ _ := hos9.get (i := 3) rfl
    obtain ⟨⟨q0, q1, q2, q3, q4⟩, -, -, -, -⟩ := five_cells hRx.blk
    go_wp2_with fail
    refine (rmerge_any xa _ sa sb Ax cx csx _ (hos9.get (i := 1) rfl) hRx.row hRx.top hRx.inv HR1.out HA1.out (fun e => hos9.ap 1 3 (by decide) (by simp) (by simp) xa ((hos9.get (i := 1) rfl : RfO _ _ _ _).self) (by rw [hFx]; exact .inr e))).mono ?_
    rintro e w10 ⟨rfl, G10, hX10, hu10⟩
    obtain ⟨F10, hos10⟩ := hos9.upd (i := 1) (b := false) rfl hu10 hX10
    simp only [List.set_cons_succ, List.set_cons_zero, HSM.out] at hos10
    clear hos9 hX10 hu10 hRx hFx q0 q1 q2 q3 q4
    go_wp2_with fail
    refine (even_any ha xa _ _ sm key 5000 1 _ (hos10.get (i := 0) rfl) (hos10.get (i := 1) rfl) HKO.out (by omega)).mono ?_
    rintro e w9 ⟨rfl, hb9⟩
    have hos11 := hos10.below hb9
    clear hos10 hb9
    go_wp2_with fail
    refine (even_any hb xb _ _ sb key 5000 1 _ (hos11.get (i := 2) rfl) (hos11.get (i := 3) rfl) HKO.out (by omega)).mono ?_
    rintro e w9 ⟨rfl, hb9⟩
    have hos12 := hos11.below hb9
    clear hos11 hb9
    go_wp2_with fail
    refine (hmerge_o (hos12.get (i := 4) rfl) (hos12.get (i := 0) rfl) (hos12.ap 4 0 (by decide) (by simp) (by simp)) HR2.out HA2.out).mono ?_
    rintro e w13 ⟨rfl, G13, hO13, hu13⟩
    obtain ⟨F13, hos13⟩ := hos12.upd (i := 4) (b := true) rfl hu13 hO13
    simp only [List.set_cons_succ, List.set_cons_zero, HS2.out] at hos13
    clear hos12 hO13 hu13
    obtain ⟨Ax, cx, csx, hRx, hFx⟩ : RfO _ _ _ _ := hos13.get (i := 1) rfl
    obtain ⟨⟨q0, q1, q2, q3, q4⟩, -, -, -, -⟩ := five_cells hRx.blk
    go_wp2_with fail
    refine (rmerge_any xc _ sc sm Ax cx csx _ (hos13.get (i := 5) rfl) hRx.row hRx.top hRx.inv HR2.out HA2.out (fun e => hos13.ap 5 1 (by decide) (by simp) (by simp) xc ((hos13.get (i := 5) rfl : RfO _ _ _ _).self) (by rw [hFx]; exact .inr e))).mono ?_
    rintro e w14 ⟨rfl, G14, hX14, hu14⟩
    obtain ⟨F14, hos14⟩ := hos13.upd (i := 5) (b := false) rfl hu14 hX14
    simp only [List.set_cons_succ, List.set_cons_zero, HS2.out] at hos14
    clear hos13 hX14 hu14 hRx hFx q0 q1 q2 q3 q4
    go_wp2_with fail
    refine (even_any hc xc _ _ s2 key 5000 1 _ (hos14.get (i := 4) rfl) (hos14.get (i := 5) rfl) HKO.out (by omega)).mono ?_
    rintro e w9 ⟨rfl, hb9⟩
    have hos15 := hos14.below hb9
    clear hos14 hb9
    go_wp2_with fail
    refine (even_any ha xa _ _ sm key 5000 1 _ (hos15.get (i := 0) rfl) (hos15.get (i := 1) rfl) HKO.out (by omega)).mono ?_
    rintro e w9 ⟨rfl, hb9⟩
    have hos16 := hos15.below hb9
    clear hos15 hb9
    go_wp2_with fail
    refine (bounds14_any hc _ s2 m A w.heap.size c l key _ (hos16.get (i := 4) rfl) (HL.out.below hos16.bl) hos16.bl.size (by have := hno.out.1; omega) HCN.out hno.out.2 (by omega) R2.out (by omega) (by omega) T2.out).mono ?_
    rintro e w17 ⟨rfl, hb17⟩
    have hos17 := hos16.below hb17
    clear hos16 hb17
    go_wp2_with fail
    refine (hmerge_self (hos17.get (i := 4) rfl) HA3.out).mono ?_
    rintro e w18 ⟨rfl, G18, hO18, hu18⟩
    obtain ⟨F18, hos18⟩ := hos17.upd (i := 4) (b := true) rfl hu18 hO18
    simp only [List.set_cons_succ, List.set_cons_zero, HS3.out] at hos18
    clear hos17 hO18 hu18
    obtain ⟨Ax, cx, csx, hRx, hFx⟩ : RfO _ _ _ _ := hos18.get (i := 5) rfl
    obtain ⟨⟨q0, q1, q2, q3, q4⟩, -, -, -, -⟩ := five_cells hRx.blk
    go_wp2_with fail
    have hb19 : Below w18.heap.size w18 (w18.alloc (Obj.cells #[.int .i64 s2.room, .slice Ax csx.length cx, .int .i64 s2.total, .int .i64 s2.slack, .int .i64 s2.added] 49)) := (Below.refl _ _).alloc (Nat.le_refl _) _
    have hos19 := hos18.below hb19
    have hRy := hRx.below hb19
    clear hos18 hRx hFx q0 q1 q2 q3 q4 hb19
    generalize w18.alloc (Obj.cells #[.int .i64 s2.room, .slice Ax csx.length cx, .int .i64 s2.total, .int .i64 s2.slack, .int .i64 s2.added] 49) = w19 at *
    refine (rmerge_any xc _ s2 s2 Ax cx csx _ (hos19.get (i := 5) rfl) hRy.row hRy.top hRy.inv rfl HA3.out hRy.out).mono ?_
    rintro e w20 ⟨rfl, G20, hX20, hu20⟩
    obtain ⟨F20, hos20⟩ := hos19.upd (i := 5) (b := false) rfl hu20 hX20
    simp only [List.set_cons_succ, List.set_cons_zero, HS3.out] at hos20
    clear hos19 hX20 hu20 hRy
    go_wp2_with fail
    refine (even_any hc xc _ _ s3 key 5000 1 _ (hos20.get (i := 4) rfl) (hos20.get (i := 5) rfl) HKO.out (by omega)).mono ?_
    rintro e w21 ⟨rfl, hb21⟩
    have hos21 := hos20.below hb21
    clear hos20 hb21
    have hl6 := hno.out.1
    have hbe : Below w21.heap.size w21 (w21.alloc (.cells #[] 28)) := (Below.refl _ _).alloc (Nat.le_refl _) _
    have hl1 := (HL.out.below hos21.bl).below (hbe.mono hos21.bl.size)
    have HZ := Lib.hid hos21.bl.size
    go_wp2_with (first
      | (at_builtin; refine wpList_append_to (w21.alloc (.cells #[] 28)) (by rfl) (.tmp 173) (.tmp 174) _ rfl w21.heap.size 28 (.agg #[.string ByteArray.empty, .int .i64 0]) 2 24 Try.underlying22 cnt_info rfl (by decide) (some ⟨w21.heap.size, 0, none⟩) 0 0 [] rfl (row_start w21) A w.heap.size l.length c (l.flatMap cntEnc) rfl hl1 HCN.out (cnts_one l) l.length (by omega) (by unfold maxLen; omega) (by omega) (by simp) ?_; intro A4 c4 w22 hown4 hg4 hb4; have hl2 := CntsAt.below hl1 (hb4.mono HZ.out); have hz22 := hb4.size)
      | (at_builtin; refine wpList_append_to w22 (by rfl) (.tmp 175) (.tmp 176) _ rfl w21.heap.size 28 (.agg #[.string ByteArray.empty, .int .i64 0]) 2 24 Try.underlying22 cnt_info rfl (by decide) A4 l.length c4 _ rfl hown4 A w.heap.size l.length c (l.flatMap cntEnc) rfl hl2 HCN.out (cnts_one l) (l.length + l.length) rfl (by unfold maxLen; omega) (by omega) (Nat.le_trans (by simp) hz22) ?_; intro A5 c5 w23 hown5 hg5 hb5))
    have hB23 : Below w21.heap.size w21 w23 := (hbe.trans hb4).trans hb5
    have hos23 := hos21.below hB23
    obtain ⟨ll, hll⟩ : ∃ ll, ll = l ++ l := ⟨_, rfl⟩
    have hlen2 : l.length + l.length = ll.length := by rw [hll, List.length_append]
    have hat23 : CntsAt w23 w23.heap.size A5 ll := by
      have h5 := Reads.of_own hown5
      simp only [List.nil_append] at h5
      unfold CntsAt
      rw [← hlen2, hll, List.flatMap_append]
      exact h5
    have hk23 : ∀ a ∈ ll, (a.key.size : Int) ≤ 100 := fun a ha => by
      rw [hll] at ha
      rcases List.mem_append.1 ha with ha | ha <;> exact hno.out.2 a ha
    have hT23 : Tr s3 (truthV ll) := by rw [hll]; exact T3.out
    have hne5 : A5 = none → c5 = 0 := fun h => by
      subst h
      rcases hown5.2 with ⟨h1, _⟩ | ⟨g, cap, cur, h1, _⟩
      · injection h1
      · injection h1 with h1; cases h1
    have HB23 := Lib.hid hos23.bl
    have q := bounds14_any hc _ s3 m A5 w23.heap.size c5 ll key w23 (hos23.get (i := 4) rfl) hat23 (Nat.le_refl _) (by rw [← hlen2]; omega) hne5 hk23 (by omega) R3.out (by omega) (by omega) hT23
    rw [← hlen2] at q
    have Q := Lib.hid q
    clear q hat23 hk23 hT23 hne5 hlen2 hll hos23 hos21 hB23 hown4 hown5 hg4 hg5 hb4 hb5 hl1 hl2 hbe hz22 hl6
    refine Q.out.mono ?_
    rintro e w24 ⟨rfl, hb24⟩
    go_wp2
    go_ret
    exact ⟨rfl, HB23.out.trans (hb24.mono HB23.out.size)⟩
end Go.Proofs.Ytpjaolablkcpmaa
