/- The walk of DecayHalves. -/
import Derived.Test.YtgahopkbgefjdaaDecH
import Derived.Test.YtgahopkbgefjdaaDecW
import Derived.Test.YtgahopkbgefjdaaKitO
namespace Go.Proofs.Ytgahopkbgefjdaa
open Go.ChangeShapes Go.WideShapes Go.ChangeAt Go.RowKit
set_option linter.unusedVariables false
set_option linter.unusedSimpArgs false

/-- A counter to which hist was added. -/
def Dec1 (cb : Nat) (hf : Int) (hist : List AddD) (w : World) (F : Nat → Prop) : Prop := DecObj w cb F hf (hist.length : Int) hist
theorem Dec1.own (cb : Nat) (hf : Int) (hist : List AddD) : Own1 (Dec1 cb hf hist) := ⟨fun h hk hG => DecObj.keep h hk hG, fun h => DecObj.lt h⟩

def addOk (a : AddD) : Bool := daddB a.key a.at_ a.n 0
theorem daddB_ok {key : ByteArray} {at_ n cnt : Int} (hc : cnt < 1048576) : daddB key at_ n cnt = addOk ⟨key, at_, n⟩ := by
  unfold addOk daddB
  rw [decide_eq_true hc, decide_eq_true (show (0 : Int) < 1048576 by omega)]

theorem dadd1 (cb : Nat) (F : Nat → Prop) (hf : Int) (hist : List AddD) (key : ByteArray) (at_ n : Int) (w : World) (h : Dec1 cb hf hist w F) (hl : (hist.length : Int) < 1048576) :
    Calls Try.prog 14 #[.pointer (some ⟨cb, 0, none⟩), .string key, .int .i64 at_, .int .i64 n] w fun e w' => e = .returned (.bool (addOk ⟨key, at_, n⟩)) ∧
      ∃ F', Dec1 cb hf (hist ++ [⟨key, at_, n⟩].filter addOk) w' F' ∧ Upd F w F' w' := by
  refine (dadd_any cb F hf hist.length hist key at_ n w h).mono ?_
  rintro e w' ⟨he, F', h1, h2, h3⟩
  rw [daddB_ok hl] at he h1
  refine ⟨he, F', ?_, h2, h3⟩
  unfold Dec1
  by_cases hb : addOk ⟨key, at_, n⟩ = true
  · rw [hb, if_pos rfl, if_pos rfl] at h1
    simp only [List.filter_cons, hb, if_true, List.filter_nil]
    simpa using h1
  · have hb' : addOk ⟨key, at_, n⟩ = false := by simpa using hb
    rw [hb', if_neg (by simp), if_neg (by simp)] at h1
    simp only [List.filter_cons, hb', List.filter_nil]
    simpa using h1

theorem dnew1 (n : Int) (w : World) (h1 : 1 ≤ n) (h2 : n ≤ 1099511627776) :
    Calls Try.prog 13 #[.int .i64 n] w fun e w' => ∃ cb F, e = .returned (.pointer (some ⟨cb, 0, none⟩)) ∧ Dec1 cb n [] w' F ∧ (∀ k, F k → w.heap.size ≤ k) ∧ Below w.heap.size w w' := by
  refine (dnew_any n w).mono ?_
  rintro e w' ⟨cb, F, he, h3, h4, h5⟩
  have : halfOf n = n := by unfold halfOf; omega
  rw [this] at h3
  exact ⟨cb, F, he, h3, h4, h5⟩

theorem Dec1.bd {cb : Nat} {hf : Int} {hist : List AddD} {w : World} {F : Nat → Prop} (h : Dec1 cb hf hist w F) (key : ByteArray) (now : Int) : 0 ≤ cntV hf hist key now ∧ cntV hf hist key now ≤ 1152921504606846976 := by
  obtain ⟨bs, S, R, hP, hI, _⟩ := h
  unfold cntV
  split
  · omega
  · exact hI.sum_bd _ (fun a => wtV_bd _ _) key

/-! ### plain -/
theorem histSum_cons (f : Int → Int) (key : ByteArray) (a : AddD) (l : List AddD) : histSum f key (a :: l) = histN f key a + histSum f key l := rfl
theorem histSum_part (f : Int → Int) (key : ByteArray) (p : AddD → Bool) (q : AddD → Bool) : ∀ l : List AddD, histSum f key (l.filter p) = histSum f key (l.filter (fun a => p a && q a)) + histSum f key (l.filter (fun a => p a && !q a))
  | [] => rfl
  | a :: l => by
    have ih := histSum_part f key p q l
    cases hp : p a <;> cases hq : q a <;> simp [List.filter_cons, hp, hq, histSum_cons] <;> omega
theorem histSum_zero (f : Int → Int) (key : ByteArray) (l : List AddD) (h : ∀ a ∈ l, f a.at_ = 0) : histSum f key l = 0 := by
  induction l with
  | nil => rfl
  | cons a l ih =>
    rw [histSum_cons, ih (fun b hb => h b (by simp [hb]))]
    unfold histN
    rw [h a (by simp)]
    split <;> simp
theorem histSum_half (f g : Int → Int) (key : ByteArray) (l : List AddD) (h : ∀ a ∈ l, 0 ≤ a.n ∧ 2 * f a.at_ ≤ g a.at_) : 2 * histSum f key l ≤ histSum g key l := by
  induction l with
  | nil => simp [histSum]
  | cons a l ih =>
    have ih' := ih (fun b hb => h b (by simp [hb]))
    have ⟨h1, h2⟩ := h a (by simp)
    rw [histSum_cons, histSum_cons]
    have : 2 * histN f key a ≤ histN g key a := by
      unfold histN
      split
      · have := Int.mul_le_mul_of_nonneg_left h2 h1
        rw [show 2 * (a.n * f a.at_) = a.n * (2 * f a.at_) by rw [Int.mul_left_comm]]
        exact this
      · omega
    omega

theorem addOk_n {a : AddD} (h : addOk a = true) : 0 ≤ a.n := by
  simp [addOk, daddB] at h
  omega

theorem halves_plain (L : List AddD) (half now : Int) (key : ByteArray) (h1 : 1 ≤ half) (n0 : 0 ≤ now) :
    let old := L.filter (fun a => addOk a && decide (a.at_ ≤ now))
    let fresh := L.filter (fun a => addOk a && !decide (a.at_ ≤ now))
    let all := L.filter addOk
    2 * cntV half old key (now + half) ≤ cntV half old key now ∧ cntV half fresh key now = 0 ∧ cntV half all key now = cntV half old key now ∧ cntV half all key (now + half) = cntV half old key (now + half) + cntV half fresh key (now + half) := by
  intro old fresh all
  have p := fun f => histSum_part f key addOk (fun a => decide (a.at_ ≤ now)) L
  have z : cntV half fresh key now = 0 := by
    unfold cntV
    rw [if_neg (by omega)]
    refine histSum_zero _ _ _ (fun a ha => ?_)
    have := (List.mem_filter.1 ha).2
    simp at this
    unfold wtV
    rw [if_pos (by omega)]
  refine ⟨?_, z, ?_, ?_⟩
  · unfold cntV
    rw [if_neg (by omega), if_neg (by omega)]
    refine histSum_half _ _ _ _ (fun a ha => ?_)
    have := (List.mem_filter.1 ha).2
    simp only [Bool.and_eq_true, decide_eq_true_eq] at this
    refine ⟨addOk_n this.1, ?_⟩
    rw [show now + half - a.at_ = now - a.at_ + half by omega]
    rw [wtV_halv _ _ (by omega), wtV_halv _ _ (by omega), show max half 1 = half by omega, halv_add' _ _ _ (by omega) h1]
    omega
  · unfold cntV at z ⊢
    rw [if_neg (by omega)] at z ⊢
    rw [if_neg (by omega)]
    have := p (fun a => wtV (now - a) half)
    show histSum _ key (L.filter addOk) = _
    rw [this]
    show _ + histSum _ key fresh = histSum _ key old
    rw [z, Int.add_zero]
  · unfold cntV
    rw [if_neg (by omega), if_neg (by omega), if_neg (by omega)]
    exact p _
def adds (l : List DeedD) : List AddD := l.map (·.a)
theorem adds_take (l : List DeedD) (k : Nat) (h : k < l.length) : adds (l.take (k + 1)) = adds (l.take k) ++ [l[k].a] := by
  unfold adds
  rw [List.take_succ_eq_append_getElem h, List.map_append]
  rfl
theorem adds_len (l : List DeedD) (k : Nat) (p : AddD → Bool) : ((adds (l.take k)).filter p).length ≤ l.length := by
  have := List.length_filter_le p (adds (l.take k))
  simp [adds] at this ⊢
  omega
theorem filter_yes (p : AddD → Bool) (a : AddD) (h : p a = true) (l : List AddD) : l ++ [a].filter addOk = l ++ [a].filter (fun a => addOk a && p a) := by simp [List.filter_cons, h]
theorem filter_no (p : AddD → Bool) (a : AddD) (h : p a = false) : [a].filter (fun a => addOk a && p a) = [] := by simp [List.filter_cons, h]

def Halv (w : World) (half : Int) (A B C : List AddD) (o f a : Nat) (wr : World) : Prop :=
  ∃ F1 F2 F3, Dec1 o half A wr F1 ∧ Dec1 f half B wr F2 ∧ Dec1 a half C wr F3 ∧ Apart F1 F2 ∧ Apart F1 F3 ∧ Apart F2 F3 ∧ (∀ k, F1 k → w.heap.size ≤ k) ∧ (∀ k, F2 k → w.heap.size ≤ k) ∧ (∀ k, F3 k → w.heap.size ≤ k) ∧ Below w.heap.size w wr

set_option maxRecDepth 100000 in
set_option maxHeartbeats 2000000 in
theorem decayHalves_walk (half : Int) (A0 : Option Addr) (c0 : Nat) (l : List DeedD) (key : ByteArray) (now : Int) (w : World) (hA : DeedsAt w w.heap.size A0 l) (hN : (l.length : Int) ≤ 9223372036854775807) (hks : key.size ≤ maxLen) (hnow : I64 now) (hhalf : I64 half) :
    Calls Try.prog 4 #[.int .i64 half, .slice A0 l.length c0, .string key, .int .i64 now] w fun e w' => e = .returned (.bool true) ∧ Below w.heap.size w w' := by
  obtain ⟨hn0, hn1⟩ := hnow
  obtain ⟨hh0, hh1⟩ := hhalf
  by_cases g0 : heavyB l 30 = true
  · have G := Lib.hid g0
    clear g0
    go_enter Try.func4, Try.ntmps4
    go_wp2_with fail
    refine (lives_any _).mono ?_
    rintro e w1 ⟨rfl, hb⟩
    go_wp2_with fail
    refine (heavy_any A0 c0 l 30 _ ((hA.below hb).more hb.size) hN).mono ?_
    rintro e w2 ⟨rfl, rfl⟩
    rw [G.out]
    go_wp2
    go_ret
    exact ⟨rfl, hb⟩
  · have g0' : heavyB l 30 = false := by simpa using g0
    have G := Lib.hid g0'
    clear g0 g0'
    by_cases g1 : (key.size : Int) ≤ 100 ∧ 1 ≤ half ∧ half ≤ 1099511627776 ∧ 0 ≤ now ∧ now ≤ 1099511627776
    · obtain ⟨k1, k2, k3, k4, k5⟩ := g1
      have hL : (l.length : Int) ≤ 30 := (heavyB_no G.out).1
      go_enter Try.func4, Try.ntmps4
      go_wp2_with fail
      refine (lives_any _).mono ?_
      rintro e w1 ⟨rfl, hb⟩
      go_wp2_with fail
      refine (heavy_any A0 c0 l 30 _ ((hA.below hb).more hb.size) hN).mono ?_
      rintro e w2 ⟨rfl, rfl⟩
      rw [G.out]
      go_wp2_with fail
      refine (dnew1 half _ k2 k3).mono ?_
      rintro e w2 ⟨o, F1, rfl, d1, f1, b1⟩
      go_wp2_with fail
      refine (dnew1 half _ k2 k3).mono ?_
      rintro e w3 ⟨f, F2, rfl, d2, f2, b2⟩
      go_wp2_with fail
      refine (dnew1 half _ k2 k3).mono ?_
      rintro e w4 ⟨a, F3, rfl, d3, f3, b3⟩
      have HH : Halv w half [] [] [] o f a w4 := by
        have e1 := (Dec1.own o half []).below d1 b2
        have s1 := hb.size
        have s2 := b1.size
        have s3 := b2.size
        refine ⟨F1, F2, F3, (Dec1.own o half []).below e1 b3, (Dec1.own f half []).below d2 b3, d3, ((Dec1.own o half []).apart_new d1 f2).symm, ((Dec1.own o half []).apart_new e1 f3).symm, ((Dec1.own f half []).apart_new d2 f3).symm,
          fun k hk => by have := f1 k hk; omega, fun k hk => by have := f2 k hk; omega, fun k hk => by have := f3 k hk; omega, ((hb.trans (b1.mono s1)).trans (b2.mono (by omega))).trans (b3.mono (by omega))⟩
      clear d1 d2 d3 f1 f2 f3 b1 b2 b3 hb
      go_wp2_with fail
      go_loopg [12, 13] l.length (fun rest i p wr => ∃ k : Nat, i = .int .i64 k ∧ Hid (k + rest = l.length) ∧
        Halv w half ((adds (l.take k)).filter (fun a => addOk a && decide (a.at_ ≤ now))) ((adds (l.take k)).filter (fun a => addOk a && !decide (a.at_ ≤ now))) ((adds (l.take k)).filter addOk) o f a wr)
      case atStart => exact ⟨0, rfl, Lib.hid (by simp), by simpa [adds] using HH⟩
      case round =>
        obtain ⟨k, rfl, HK, HV⟩ := hrel
        by_cases hk : (k : Int) < (l.length : Int)
        · have hkl : k < l.length := by omega
          have hat := adds_take l k hkl
          have hl1 := adds_len l k (fun a => addOk a && decide (a.at_ ≤ now))
          have hl2 := adds_len l k (fun a => addOk a && !decide (a.at_ ≤ now))
          have hl3 := adds_len l k addOk
          obtain ⟨F1, F2, F3, d1, d2, d3, a12, a13, a23, f1, f2, f3, hb⟩ := HV
          obtain ⟨b, o', rfl, hbl, c0', c1', c2', c3', c4'⟩ := (hA.below hb).one hkl
          have HAT := Lib.hid hat
          clear hat
          generalize l[k] = x at *
          generalize hP : adds (l.take k) = P at *
          clear hP
          have hA1 : Below wr.heap.size wr (wr.alloc (.cells #[.string x.a.key, .int .i64 x.a.at_, .int .i64 x.a.n] 30)) := (Below.refl _ _).alloc (Nat.le_refl _) _
          have d1' := (Dec1.own o half _).below d1 hA1
          have d2' := (Dec1.own f half _).below d2 hA1
          have d3' := (Dec1.own a half _).below d3 hA1
          have lt1 := (Dec1.own o half _).lt d1
          have lt2 := (Dec1.own f half _).lt d2
          have lt3 := (Dec1.own a half _).lt d3
          have hbz := hb.size
          have hb1 : Below w.heap.size w (wr.alloc (.cells #[.string x.a.key, .int .i64 x.a.at_, .int .i64 x.a.n] 30)) := hb.alloc hbz _
          clear d1 d2 d3 hA1
          go_wp2_with fail
          refine (dadd1 a F3 half _ x.a.key x.a.at_ x.a.n _ d3' (by omega)).mono ?_
          rintro e w5 ⟨rfl, F3', d3, u3⟩
          obtain ⟨d1, a13'⟩ := (Dec1.own o half _).frame u3 d1' a13.symm
          obtain ⟨d2, a23'⟩ := (Dec1.own f half _).frame u3 d2' a23.symm
          have z1 := u3.keeps.size
          simp at z1
          have f3' := u3.base (B := w.heap.size) (by simp; omega) f3
          have hb5 := u3.belowB hb1 (Nat.le_refl _) f3
          have g0 : w5.cell? ⟨wr.heap.size, 0, none⟩ = some (.string x.a.key) := (u3.keeps.cell (by simp) (fun h => by have := lt3 _ h; simp at this)).trans (by simp)
          have g1 : w5.cell? ⟨wr.heap.size, 1, none⟩ = some (.int .i64 x.a.at_) := (u3.keeps.cell (by simp) (fun h => by have := lt3 _ h; simp at this)).trans (by simp)
          have g2 : w5.cell? ⟨wr.heap.size, 2, none⟩ = some (.int .i64 x.a.n) := (u3.keeps.cell (by simp) (fun h => by have := lt3 _ h; simp at this)).trans (by simp)
          have ea : (⟨x.a.key, x.a.at_, x.a.n⟩ : AddD) = x.a := rfl
          rw [ea] at d3
          have D3 : Hid (Dec1 a half (List.filter addOk P ++ [x.a].filter addOk) w5 F3') := Lib.hid d3
          have D1 := Lib.hid d1
          have D2 := Lib.hid d2
          clear d1' d2' d3' d1 d2 d3 ea u3
          by_cases hx : x.a.at_ ≤ now
          · go_wp2_with fail
            refine (dadd1 o F1 half _ x.a.key x.a.at_ x.a.n _ D1.out (by omega)).mono ?_
            rintro e w6 ⟨rfl, F1', d1, u1⟩
            obtain ⟨d2, a12'⟩ := (Dec1.own f half _).frame u1 D2.out a12
            obtain ⟨d3, a13''⟩ := (Dec1.own a half _).frame u1 D3.out a13'.symm
            have f1' := u1.base (B := w.heap.size) (by omega) f1
            have hb6 := u1.belowB hb5 (Nat.le_refl _) f1
            have ea : (⟨x.a.key, x.a.at_, x.a.n⟩ : AddD) = x.a := rfl
            rw [ea, filter_yes (fun a => decide (a.at_ ≤ now)) x.a (by simpa using hx)] at d1
            have FIN : Halv w half (P.filter (fun a => addOk a && decide (a.at_ ≤ now)) ++ [x.a].filter (fun a => addOk a && decide (a.at_ ≤ now))) (P.filter (fun a => addOk a && !decide (a.at_ ≤ now))) (P.filter addOk ++ [x.a].filter addOk) o f a w6 :=
              ⟨F1', F2, F3', d1, d2, d3, a12', a13'', a23'.symm, f1', f2, f3', hb6⟩
            have FIN2 := Lib.hid FIN
            clear FIN d1 d2 d3 ea u1
            go_wp2
            go_roundg (gk - 1)
            case measure => have := HK.out; omega
            case rel =>
              refine ⟨k + 1, by go_num, Lib.hid (by have := HK.out; omega), ?_⟩
              rw [HAT.out, List.filter_append, List.filter_append, List.filter_append, filter_no (fun a => !decide (a.at_ ≤ now)) x.a (by simpa using hx), List.append_nil]
              exact FIN2.out
          · go_wp2_with fail
            refine (dadd1 f F2 half _ x.a.key x.a.at_ x.a.n _ D2.out (by omega)).mono ?_
            rintro e w6 ⟨rfl, F2', d2, u2⟩
            obtain ⟨d1, a12'⟩ := (Dec1.own o half _).frame u2 D1.out a12.symm
            obtain ⟨d3, a23''⟩ := (Dec1.own a half _).frame u2 D3.out a23'.symm
            have f2' := u2.base (B := w.heap.size) (by omega) f2
            have hb6 := u2.belowB hb5 (Nat.le_refl _) f2
            have ea : (⟨x.a.key, x.a.at_, x.a.n⟩ : AddD) = x.a := rfl
            rw [ea, filter_yes (fun a => !decide (a.at_ ≤ now)) x.a (by simpa using hx)] at d2
            have FIN : Halv w half (P.filter (fun a => addOk a && decide (a.at_ ≤ now))) (P.filter (fun a => addOk a && !decide (a.at_ ≤ now)) ++ [x.a].filter (fun a => addOk a && !decide (a.at_ ≤ now))) (P.filter addOk ++ [x.a].filter addOk) o f a w6 :=
              ⟨F1, F2', F3', d1, d2, d3, a12'.symm, a13'.symm, a23'', f1, f2', f3', hb6⟩
            have FIN2 := Lib.hid FIN
            clear FIN d1 d2 d3 ea u2
            go_wp2
            go_roundg (gk - 1)
            case measure => have := HK.out; omega
            case rel =>
              refine ⟨k + 1, by go_num, Lib.hid (by have := HK.out; omega), ?_⟩
              rw [HAT.out, List.filter_append, List.filter_append, List.filter_append, filter_no (fun a => decide (a.at_ ≤ now)) x.a (by simpa using hx), List.append_nil]
              exact FIN2.out
        · have hkl : k = l.length := by have := HK.out; omega
          have HV2 := HV
          rw [hkl, List.take_length] at HV2
          clear HV
          obtain ⟨p1, p2, p3, p4⟩ := halves_plain (adds l) half now key k2 k4
          obtain ⟨F1, F2, F3, d1, d2, d3, a12, a13, a23, f1, f2, f3, hb⟩ := HV2
          have q1 := d1.bd key now
          have q2 := d1.bd key (now + half)
          have q3 := d2.bd key (now + half)
          have q4 := d3.bd key (now + half)
          generalize (adds l).filter (fun a => addOk a && decide (a.at_ ≤ now)) = HA at *
          generalize (adds l).filter (fun a => addOk a && !decide (a.at_ ≤ now)) = HB at *
          generalize (adds l).filter addOk = HC at *
          have P2 := Lib.hid p2
          have P3 := Lib.hid p3
          have P4 := Lib.hid p4
          have D1 := Lib.hid d1
          have D2 := Lib.hid d2
          have D3 := Lib.hid d3
          clear p2 p3 p4 d1 d2 d3 hkl HK
          go_wp2_with fail
          refine (dat_any o F1 half _ HA key (now + half) _ D1.out hks (by omega)).mono ?_
          rintro e w5 ⟨rfl, b5⟩
          have D1 := Lib.hid ((Dec1.own o half HA).below D1.out b5)
          have D2 := Lib.hid ((Dec1.own f half HB).below D2.out b5)
          have D3 := Lib.hid ((Dec1.own a half HC).below D3.out b5)
          have hb5 : Below w.heap.size w w5 := hb.trans (b5.mono hb.size)
          clear b5 hb
          go_wp2_with fail
          refine (dat_any o F1 half _ HA key now _ D1.out hks (by omega)).mono ?_
          rintro e w6 ⟨rfl, b6⟩
          have D1 := Lib.hid ((Dec1.own o half HA).below D1.out b6)
          have D2 := Lib.hid ((Dec1.own f half HB).below D2.out b6)
          have D3 := Lib.hid ((Dec1.own a half HC).below D3.out b6)
          have hb6 : Below w.heap.size w w6 := hb5.trans (b6.mono hb5.size)
          clear b6 hb5
          go_wp2_with fail
          refine (dat_any f F2 half _ HB key now _ D2.out hks (by omega)).mono ?_
          rintro e w7 ⟨rfl, b7⟩
          rw [P2.out]
          have D1 := Lib.hid ((Dec1.own o half HA).below D1.out b7)
          have D2 := Lib.hid ((Dec1.own f half HB).below D2.out b7)
          have D3 := Lib.hid ((Dec1.own a half HC).below D3.out b7)
          have hb7 : Below w.heap.size w w7 := hb6.trans (b7.mono hb6.size)
          clear b7 hb6
          go_wp2_with fail
          refine (dat_any a F3 half _ HC key now _ D3.out hks (by omega)).mono ?_
          rintro e w8 ⟨rfl, b8⟩
          rw [P3.out]
          have D1 := Lib.hid ((Dec1.own o half HA).below D1.out b8)
          have D2 := Lib.hid ((Dec1.own f half HB).below D2.out b8)
          have D3 := Lib.hid ((Dec1.own a half HC).below D3.out b8)
          have hb8 : Below w.heap.size w w8 := hb7.trans (b8.mono hb7.size)
          clear b8 hb7
          go_wp2_with fail
          refine (dat_any o F1 half _ HA key now _ D1.out hks (by omega)).mono ?_
          rintro e w9 ⟨rfl, b9⟩
          have D1 := Lib.hid ((Dec1.own o half HA).below D1.out b9)
          have D2 := Lib.hid ((Dec1.own f half HB).below D2.out b9)
          have D3 := Lib.hid ((Dec1.own a half HC).below D3.out b9)
          have hb9 : Below w.heap.size w w9 := hb8.trans (b9.mono hb8.size)
          clear b9 hb8
          go_wp2_with fail
          refine (dat_any a F3 half _ HC key (now + half) _ D3.out hks (by omega)).mono ?_
          rintro e wa ⟨rfl, ba⟩
          rw [P4.out]
          have D1 := Lib.hid ((Dec1.own o half HA).below D1.out ba)
          have D2 := Lib.hid ((Dec1.own f half HB).below D2.out ba)
          have hba : Below w.heap.size w wa := hb9.trans (ba.mono hb9.size)
          clear ba hb9
          go_wp2_with fail
          refine (dat_any o F1 half _ HA key (now + half) _ D1.out hks (by omega)).mono ?_
          rintro e wb ⟨rfl, bb⟩
          have D2 := Lib.hid ((Dec1.own f half HB).below D2.out bb)
          have hbb : Below w.heap.size w wb := hba.trans (bb.mono hba.size)
          clear bb hba
          go_wp2_with fail
          refine (dat_any f F2 half _ HB key (now + half) _ D2.out hks (by omega)).mono ?_
          rintro e wc ⟨rfl, bc⟩
          have hbc : Below w.heap.size w wc := hbb.trans (bc.mono hbb.size)
          clear bc hbb D2 D1 D3 P2 P3 P4
          generalize cntV half HA key (now + half) = v1 at *
          generalize cntV half HA key now = v2 at *
          generalize cntV half HB key (now + half) = v3 at *
          go_wp2
          go_ret
          exact ⟨rfl, hbc⟩
    · have g2 : 100 < (key.size : Int) ∨ ((key.size : Int) ≤ 100 ∧ half < 1) ∨ ((key.size : Int) ≤ 100 ∧ 1 ≤ half ∧ 1099511627776 < half) ∨ ((key.size : Int) ≤ 100 ∧ 1 ≤ half ∧ half ≤ 1099511627776 ∧ now < 0) ∨ ((key.size : Int) ≤ 100 ∧ 1 ≤ half ∧ half ≤ 1099511627776 ∧ 0 ≤ now ∧ 1099511627776 < now) := by omega
      clear g1
      rcases g2 with k1 | ⟨k1, k2⟩ | ⟨k1, k2, k3⟩ | ⟨k1, k2, k3, k4⟩ | ⟨k1, k2, k3, k4, k5⟩
      all_goals
        go_enter Try.func4, Try.ntmps4
        go_wp2_with fail
        refine (lives_any _).mono ?_
        rintro e w1 ⟨rfl, hb⟩
        go_wp2_with fail
        refine (heavy_any A0 c0 l 30 _ ((hA.below hb).more hb.size) hN).mono ?_
        rintro e w2 ⟨rfl, rfl⟩
        rw [G.out]
        go_wp2
        go_ret
        exact ⟨rfl, hb⟩
end Go.Proofs.Ytgahopkbgefjdaa
