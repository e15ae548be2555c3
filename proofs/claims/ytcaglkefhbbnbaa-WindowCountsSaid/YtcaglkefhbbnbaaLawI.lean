/- WindowTumbles: plain law and walk. -/
import Derived.Test.YtcaglkefhbbnbaaLawH
import Derived.Test.YtcaglkefhbbnbaaLawG
namespace Go.Proofs.Ytcaglkefhbbnbaa
open Go.ChangeShapes Go.WideShapes Go.ChangeAt Go.RowKit
set_option linter.unusedVariables false
set_option linter.unusedSimpArgs false

theorem atV_bd (wd : Int) (l : List AddD) (s h : Int) (key : ByteArray) (e : Int) (hl : l.length ≤ 60) : 0 ≤ atV wd (l.filter rightB) s h key e ∧ atV wd (l.filter rightB) s h key e ≤ 62914560 := by
  unfold atV
  split
  · have := histTot_bd wd key ((e - s) / wd) (e / wd) l; omega
  · omega

/-- The sum of the windows' sums up to the k-th end. -/
def sumTo (wd : Int) (l : List AddD) (s h : Int) (key : ByteArray) (E : List Int) : Int := (E.map (fun e => atV wd (l.filter rightB) s h key e)).sum
theorem sumTo_snoc (wd : Int) (l : List AddD) (s h : Int) (key : ByteArray) (E : List Int) (e : Int) : sumTo wd l s h key (E ++ [e]) = sumTo wd l s h key E + atV wd (l.filter rightB) s h key e := by simp [sumTo]
theorem sumTo_bd (wd : Int) (l : List AddD) (s h : Int) (key : ByteArray) (hl : l.length ≤ 60) : ∀ E : List Int, 0 ≤ sumTo wd l s h key E ∧ sumTo wd l s h key E ≤ 62914560 * E.length
  | [] => by simp [sumTo]
  | e :: E => by
    have ih := sumTo_bd wd l s h key hl E
    have b := atV_bd wd l s h key e hl
    have x : sumTo wd l s h key (e :: E) = atV wd (l.filter rightB) s h key e + sumTo wd l s h key E := rfl
    rw [x, List.length_cons]
    omega

theorem tumble_whole (wd h : Int) (l : List AddD) (key : ByteArray) (hw1 : 1 ≤ wd) (h1 : 1 ≤ h) (h2 : h ≤ 100) (hd : h % wd = 0) (hat : ∀ a ∈ l, a.at_ ≤ 2000) :
    sumTo wd l (2 * h) (2 * h) key (endsL (2 * h) (2 * h) 0 (2000 + 2 * h)) = allSum key l := by
  have hd2 : 2 * h % wd = 0 := by obtain ⟨q, rfl⟩ := Int.dvd_of_emod_eq_zero hd; rw [Int.mul_left_comm]; simp
  have hm : mayB (2 * h) (2 * h) wd = true := by simp [mayB, fitsB]; omega
  have hm1 := may_one hm
  have hlen : (endsL (2 * h) (2 * h) 0 (2000 + 2 * h)).length < 4096 := by
    rw [endsL_eq _ _ _ hm1 (by omega)]
    have := endsFrom_short (2 * h) (2000 + 2 * h) (by omega) 4096 (2 * h)
    omega
  unfold sumTo
  rw [sum_atV wd (2 * h) (2 * h) (2000 + 2 * h) key hm hm1 (by omega) hlen l (fun a ha _ _ => by have := hat a ha; omega)]
  rw [cnt_const (2 * h) (2 * h) key 1 (fun a a0 a1 => holds_whole _ a hm1 a0 a1)]
  simp

theorem tumble_half (wd h : Int) (l : List AddD) (key : ByteArray) (hw1 : 1 ≤ wd) (h1 : 1 ≤ h) (h2 : h ≤ 100) (hd : h % wd = 0) (hat : ∀ a ∈ l, a.at_ ≤ 2000) :
    sumTo wd l (2 * h) h key (endsL (2 * h) h 0 (2000 + 2 * h)) = 2 * allSum key l := by
  have hd2 : 2 * h % wd = 0 := by obtain ⟨q, rfl⟩ := Int.dvd_of_emod_eq_zero hd; rw [Int.mul_left_comm]; simp
  have hm : mayB (2 * h) h wd = true := by simp [mayB, fitsB]; omega
  have hm1 := may_one hm
  have hlen : (endsL (2 * h) h 0 (2000 + 2 * h)).length < 4096 := by
    rw [endsL_eq _ _ _ hm1 (by omega)]
    have := endsFrom_short h (2000 + 2 * h) (by omega) 4096 h
    omega
  unfold sumTo
  rw [sum_atV wd (2 * h) h (2000 + 2 * h) key hm hm1 (by omega) hlen l (fun a ha _ _ => by have := hat a ha; omega)]
  rw [cnt_const (2 * h) h key 2 (fun a a0 a1 => holds_half _ a hm1 a0 a1)]
  simp

theorem tumble_nums (n t : Int) (n1 : 0 ≤ n) (n2 : n ≤ 255) (t1 : 0 ≤ t) (t2 : t ≤ 255) : ∃ wd h : Int, 1 + n % 20 = wd ∧ 1 ≤ wd ∧ wd ≤ 20 ∧ 1 ≤ h ∧ h ≤ 100 ∧ h % wd = 0 ∧ 2 * wd * (1 + t % 5) = 2 * h := by
  have a := Int.emod_nonneg n (by omega : (20 : Int) ≠ 0)
  have b := Int.emod_lt_of_pos n (by omega : (0 : Int) < 20)
  have c := Int.emod_nonneg t (by omega : (5 : Int) ≠ 0)
  have d := Int.emod_lt_of_pos t (by omega : (0 : Int) < 5)
  generalize n % 20 = x at a b ⊢
  generalize t % 5 = y at c d ⊢
  refine ⟨1 + x, (1 + x) * (1 + y), rfl, by omega, by omega, ?_, ?_, by simp, by rw [Int.mul_assoc]⟩
  · have := Int.mul_le_mul (by omega : 1 ≤ 1 + x) (by omega : 1 ≤ 1 + y) (by omega) (by omega); omega
  · have := Int.mul_le_mul (by omega : 1 + x ≤ 20) (by omega : 1 + y ≤ 5) (by omega) (by omega); omega


set_option maxRecDepth 20000 in
set_option maxHeartbeats 4000000 in
theorem tumbles_walk (n t : Int) (n1 : 0 ≤ n) (n2 : n ≤ 255) (t1 : 0 ≤ t) (t2 : t ≤ 255) (A : Option Addr) (c : Nat) (l : List AddD) (key : ByteArray) (w : World) (hl : AddsAt w w.heap.size A l) (hlen : (l.length : Int) ≤ 9223372036854775807) (hks : key.size ≤ maxLen) :
    Calls Try.prog 7 #[.int .u8 n, .slice A l.length c, .string key, .int .u8 t] w fun r w' => r = .returned (.bool true) ∧ Below w.heap.size w w' := by
  obtain ⟨wd, h, hwd, wd1, wd2, h1, h2, hdv, hsz⟩ := tumble_nums n t n1 n2 t1 t2
  have hsw : wrap64 (2 * wd * (1 + t % 5)) = 2 * h := by rw [hsz]; unfold wrap64; omega
  have hwo : widthOf wd = wd := by unfold widthOf; omega
  have HL := Lib.hid hl
  clear hl
  by_cases g1 : longB l = true
  · go_enter Try.func7, Try.ntmps7
    go_wp2_with fail
    refine (long_any A c l _ HL.out hlen).mono ?_
    rintro r w1 ⟨rfl, hb1⟩
    go_wp2_with fail
    refine (awake_any _).mono ?_
    rintro r w2 ⟨rfl, hb2⟩
    go_wp2
    go_ret
    exact ⟨rfl, hb1.trans (hb2.mono hb1.size)⟩
  · have g1' : longB l = false := by simpa using g1
    clear g1
    have hno := longB_no g1'
    have hn60 := Lib.hid hno.1
    have hi60 : (l.length : Int) ≤ 60 := by have := hno.1; omega
    clear hno
    by_cases g2 : 60 < (key.size : Int)
    · go_enter Try.func7, Try.ntmps7
      go_wp2_with fail
      refine (long_any A c l _ HL.out hlen).mono ?_
      rintro r w1 ⟨rfl, hb1⟩
      go_wp2_with fail
      refine (awake_any _).mono ?_
      rintro r w2 ⟨rfl, hb2⟩
      go_wp2
      go_ret
      exact ⟨rfl, hb1.trans (hb2.mono hb1.size)⟩
    · go_enter Try.func7, Try.ntmps7
      go_wp2_with fail
      refine (long_any A c l _ HL.out hlen).mono ?_
      rintro r w1 ⟨rfl, hb1⟩
      go_wp2_with fail
      refine (fill_any wd A c l _ ((HL.out.below hb1).more hb1.size) hn60.out).mono ?_
      rintro r w2 ⟨pb, F, rfl, hO, hF, hb2⟩
      rw [hwo] at hO
      have z2 := hb2.size
      have hl2 : AddsAt w2 w2.heap.size A l := (((HL.out.below hb1).more hb1.size).below hb2).more hb2.size
      have hpb : pb < w2.heap.size := by
        obtain ⟨bs, br, S, R, h1, h2, rfl⟩ := hO
        exact (Array.getElem?_eq_some_iff.1 h1.blk).1
      have hbw : Below w.heap.size w w2 := hb1.trans (hb2.mono hb1.size)
      have HO := Lib.hid hO
      have HL2 := Lib.hid hl2
      clear hO hF hb1 hb2 hl2 HL z2
      go_wp2_with fail
      go_loopg [12, 49] l.length (fun rest n i wr => ∃ k : Nat, i = .int .i64 k ∧ n = .int .i64 (allSum key (l.take k)) ∧ Hid (k + rest = l.length) ∧ Hid (∀ j (hj : j < l.length), j < k → l[j].at_ ≤ 2000) ∧ Below w2.heap.size w2 wr)
      case atStart => exact ⟨0, rfl, rfl, Lib.hid (by simp), Lib.hid (by intro j _ h; omega), Below.refl _ _⟩
      case round =>
        obtain ⟨k, rfl, rfl, HK, HA, hb⟩ := hrel
        by_cases hk : (k : Int) < (l.length : Int)
        · have hkl : k < l.length := by omega
          obtain ⟨b, o, rfl, hbl, c1, c2, c3⟩ := (HL2.out.below hb).one hkl
          have hz := hb.size
          by_cases ha : 2000 < l[k].at_
          · generalize l[k] = x at *
            go_wp2_with fail
            refine (awake_any _).mono ?_
            rintro r w3 ⟨rfl, hb3⟩
            go_wp2
            go_ret
            exact ⟨rfl, (hbw.trans ((hb.alloc hz _).mono hbw.size)).trans (hb3.mono (by have := hbw.size; simp; omega))⟩
          · have HA' : Hid (∀ j (hj : j < l.length), j < k + 1 → l[j].at_ ≤ 2000) := Lib.hid (fun j hj hjk => by
              by_cases e : j = k
              · subst e; omega
              · exact HA.out j hj (by omega))
            have hsn := allSum_snoc key (l.take k) l[k]
            rw [← List.take_succ_eq_append_getElem hkl] at hsn
            have hbd1 := allSum_bd key (l.take k)
            have hl60 : (l.take k).length ≤ 60 := by have := List.length_take_le k l; omega
            have hq1 : 0 ≤ allSum key (l.take k) ∧ allSum key (l.take k) ≤ 62914560 := by omega
            clear hbd1 hl60
            generalize l[k] = x at *
            have HSN := Lib.hid hsn
            clear hsn
            by_cases r1 : rightB x = true
            · have hxb := right_bd r1
              by_cases r2 : x.key = key
              · have hadd : allN key x = x.n := by unfold allN; rw [if_pos ⟨r1, r2⟩]
                have HAD := Lib.hid hadd
                clear hadd
                have r2c : (x.key.toList == key.toList) = true := by simp [r2]
                clear r2
                go_wp2_with fail
                refine (rright_any _ _ _ _).mono ?_
                rintro r w4 ⟨rfl, hb4⟩
                obtain ⟨hc4, hf4⟩ := bcell hb4
                go_wp2
                go_roundg (gk - 1)
                case measure => have := HK.out; omega
                case rel => exact ⟨k + 1, by go_num, by rw [HSN.out, HAD.out], Lib.hid (by have := HK.out; omega), HA', (hb.alloc hz _).trans (hb4.mono (by simp; omega))⟩
              · have hadd : allN key x = 0 := by unfold allN; rw [if_neg (fun h => r2 h.2)]
                have HAD := Lib.hid hadd
                clear hadd
                have r2c := ba_ne r2
                go_wp2_with fail
                refine (rright_any _ _ _ _).mono ?_
                rintro r w4 ⟨rfl, hb4⟩
                obtain ⟨hc4, hf4⟩ := bcell hb4
                go_wp2
                go_roundg (gk - 1)
                case measure => have := HK.out; omega
                case rel => exact ⟨k + 1, by go_num, by rw [HSN.out, HAD.out, Int.add_zero], Lib.hid (by have := HK.out; omega), HA', (hb.alloc hz _).trans (hb4.mono (by simp; omega))⟩
            · have hadd : allN key x = 0 := by unfold allN; rw [if_neg (fun h => r1 h.1)]
              have HAD := Lib.hid hadd
              clear hadd
              have r1' : rightB x = false := by simpa using r1
              clear r1
              go_wp2_with fail
              refine (rright_any _ _ _ _).mono ?_
              rintro r w4 ⟨rfl, hb4⟩
              obtain ⟨hc4, hf4⟩ := bcell hb4
              go_wp2
              go_roundg (gk - 1)
              case measure => have := HK.out; omega
              case rel => exact ⟨k + 1, by go_num, by rw [HSN.out, HAD.out, Int.add_zero], Lib.hid (by have := HK.out; omega), HA', (hb.alloc hz _).trans (hb4.mono (by simp; omega))⟩
        · have hkk : k = l.length := by have := HK.out; omega
          have hat : ∀ a ∈ l, a.at_ ≤ 2000 := fun a ha => by
            obtain ⟨j, hj, rfl⟩ := List.getElem_of_mem ha
            exact HA.out j hj (by omega)
          have hall : l.take k = l := by rw [hkk, List.take_length]
          rw [hall]
          have HW := Lib.hid (tumble_whole wd h l key wd1 h1 h2 hdv hat)
          have HH := Lib.hid (tumble_half wd h l key wd1 h1 h2 hdv hat)
          have hbd1 := allSum_bd key l
          have hq1 : 0 ≤ allSum key l ∧ allSum key l ≤ 62914560 := by omega
          clear hbd1 hat hall HA
          generalize allSum key l = S at *
          go_wp2_with fail
          have e0 : ((wr.alloc (.cells #[.int .i64 (2 * h), .int .i64 (2 * h)] 23)).alloc (.cells #[.int .i64 (2 * h), .int .i64 h] 23)).cell? ⟨wr.heap.size, 0, none⟩ = some (.int .i64 (2 * h)) := by simp
          have e1 : ((wr.alloc (.cells #[.int .i64 (2 * h), .int .i64 (2 * h)] 23)).alloc (.cells #[.int .i64 (2 * h), .int .i64 h] 23)).cell? ⟨wr.heap.size, 1, none⟩ = some (.int .i64 (2 * h)) := by simp
          have e2 : ((wr.alloc (.cells #[.int .i64 (2 * h), .int .i64 (2 * h)] 23)).alloc (.cells #[.int .i64 (2 * h), .int .i64 h] 23)).cell? ⟨wr.heap.size + 1, 0, none⟩ = some (.int .i64 (2 * h)) := by
            simp
          have e3 : ((wr.alloc (.cells #[.int .i64 (2 * h), .int .i64 (2 * h)] 23)).alloc (.cells #[.int .i64 (2 * h), .int .i64 h] 23)).cell? ⟨wr.heap.size + 1, 1, none⟩ = some (.int .i64 h) := by simp
          have hb6 : Below w2.heap.size w2 ((wr.alloc (.cells #[.int .i64 (2 * h), .int .i64 (2 * h)] 23)).alloc (.cells #[.int .i64 (2 * h), .int .i64 h] 23)) := (hb.alloc hb.size _).alloc (by have := hb.size; simp; omega) _
          have hz6 : wr.heap.size + 1 < ((wr.alloc (.cells #[.int .i64 (2 * h), .int .i64 (2 * h)] 23)).alloc (.cells #[.int .i64 (2 * h), .int .i64 h] 23)).heap.size := by simp
          generalize (wr.alloc (.cells #[.int .i64 (2 * h), .int .i64 (2 * h)] 23)).alloc (.cells #[.int .i64 (2 * h), .int .i64 h] 23) = W6 at *
          clear hb
          generalize wr.heap.size = z0 at *
          refine (ends_any (2 * h) (2 * h) 0 (2000 + 2 * h) _).mono ?_
          rintro r w7 ⟨rA, rc, rfl, hown, hb7⟩
          have hR := Reads.of_own hown
          have hEl := endsL_len (2 * h) (2 * h) 0 (2000 + 2 * h)
          generalize endsL (2 * h) (2 * h) 0 (2000 + 2 * h) = E at *
          have hEl' : (E.length : Int) ≤ 4096 := by omega
          clear hown
          go_wp2_with fail
          go_loopg [17, 82] E.length (fun rest n i wr' => ∃ k : Nat, i = .int .i64 k ∧ n = .int .i64 (sumTo wd l (2 * h) (2 * h) key (E.take k)) ∧ Hid (k + rest = E.length) ∧ Below w7.heap.size w7 wr')
          case atStart => exact ⟨0, rfl, rfl, Lib.hid (by simp), Below.refl _ _⟩
          case round =>
            obtain ⟨k2, rfl, rfl, HK2, hb8⟩ := hrel
            by_cases hk2 : (k2 : Int) < (E.length : Int)
            · have hkl : k2 < E.length := by omega
              obtain ⟨b, o, rfl, hbl, c1⟩ := (hR.below hb8).one hkl
              have hb68 : Below W6.heap.size W6 wr := hb7.trans (hb8.mono hb7.size)
              have f0 := (hb68.cell (p := ⟨z0, 0, none⟩) (by show z0 < _; omega)).trans e0
              have f1 := (hb68.cell (p := ⟨z0, 1, none⟩) (by show z0 < _; omega)).trans e1
              have hbA : Below w2.heap.size w2 wr := hb6.trans (hb68.mono hb6.size)
              have hsn := sumTo_snoc wd l (2 * h) (2 * h) key (E.take k2) E[k2]
              rw [← List.take_succ_eq_append_getElem hkl] at hsn
              have q1 := sumTo_bd wd l (2 * h) (2 * h) key hn60.out (E.take k2)
              have q2 := atV_bd wd l (2 * h) (2 * h) key E[k2] hn60.out
              have q3 : (E.take k2).length ≤ 4096 := by have := List.length_take_le k2 E; omega
              have q4 : 0 ≤ sumTo wd l (2 * h) (2 * h) key (E.take k2) ∧ sumTo wd l (2 * h) (2 * h) key (E.take k2) ≤ 257698037760 := by omega
              generalize E[k2] = x at *
              have HSN := Lib.hid hsn
              clear hsn q1 q3
              go_wp2_with fail
              refine (wat_any pb F wd (l.filter rightB) (2 * h) (2 * h) key x _ (HO.out.below hbA) hks (by have := hbA.size; omega)).mono ?_
              rintro r w9 ⟨rfl, hb9⟩
              go_wp2
              go_roundg (gk - 1)
              case measure => have := HK2.out; omega
              case rel => exact ⟨k2 + 1, by go_num, by rw [HSN.out], Lib.hid (by have := HK2.out; omega), hb8.trans (hb9.mono hb8.size)⟩
            · have hkk : k2 = E.length := by have := HK2.out; omega
              have hall : E.take k2 = E := by rw [hkk, List.take_length]
              rw [hall, HW.out]
              have hb68 : Below W6.heap.size W6 wr := hb7.trans (hb8.mono hb7.size)
              have f0 := (hb68.cell (p := ⟨z0 + 1, 0, none⟩) (by show z0 + 1 < _; omega)).trans e2
              have f1 := (hb68.cell (p := ⟨z0 + 1, 1, none⟩) (by show z0 + 1 < _; omega)).trans e3
              clear hall hR hEl hEl' hkk HK2 HW
              go_wp2_with fail
              refine (ends_any (2 * h) h 0 (2000 + 2 * h) _).mono ?_
              rintro r w10 ⟨rA2, rc2, rfl, hown, hb10⟩
              have hR := Reads.of_own hown
              have hEl := endsL_len (2 * h) h 0 (2000 + 2 * h)
              generalize endsL (2 * h) h 0 (2000 + 2 * h) = E2 at *
              have hEl' : (E2.length : Int) ≤ 4096 := by omega
              clear hown f0 f1
              go_wp2_with fail
              go_loopg [18, 99] E2.length (fun rest n i wr' => ∃ k : Nat, i = .int .i64 k ∧ n = .int .i64 (sumTo wd l (2 * h) h key (E2.take k)) ∧ Hid (k + rest = E2.length) ∧ Below w10.heap.size w10 wr')
              case atStart => exact ⟨0, rfl, rfl, Lib.hid (by simp), Below.refl _ _⟩
              case round =>
                obtain ⟨k3, rfl, rfl, HK3, hb11⟩ := hrel
                have hb6z : Below W6.heap.size W6 wr := (hb68.trans (hb10.mono hb68.size)).trans (hb11.mono (Nat.le_trans hb68.size hb10.size))
                have hbA : Below w2.heap.size w2 wr := hb6.trans (hb6z.mono hb6.size)
                by_cases hk3 : (k3 : Int) < (E2.length : Int)
                · have hkl : k3 < E2.length := by omega
                  obtain ⟨b, o, rfl, hbl, c1⟩ := (hR.below hb11).one hkl
                  have f0 := (hb6z.cell (p := ⟨z0 + 1, 0, none⟩) (by show z0 + 1 < _; omega)).trans e2
                  have f1 := (hb6z.cell (p := ⟨z0 + 1, 1, none⟩) (by show z0 + 1 < _; omega)).trans e3
                  have hsn := sumTo_snoc wd l (2 * h) h key (E2.take k3) E2[k3]
                  rw [← List.take_succ_eq_append_getElem hkl] at hsn
                  have q1 := sumTo_bd wd l (2 * h) h key hn60.out (E2.take k3)
                  have q2 := atV_bd wd l (2 * h) h key E2[k3] hn60.out
                  have q3 : (E2.take k3).length ≤ 4096 := by have := List.length_take_le k3 E2; omega
                  have q4 : 0 ≤ sumTo wd l (2 * h) h key (E2.take k3) ∧ sumTo wd l (2 * h) h key (E2.take k3) ≤ 257698037760 := by omega
                  generalize E2[k3] = x at *
                  have HSN := Lib.hid hsn
                  clear hsn q1 q3
                  go_wp2_with fail
                  refine (wat_any pb F wd (l.filter rightB) (2 * h) h key x _ (HO.out.below hbA) hks (by have := hbA.size; omega)).mono ?_
                  rintro r w12 ⟨rfl, hb12⟩
                  go_wp2
                  go_roundg (gk - 1)
                  case measure => have := HK3.out; omega
                  case rel => exact ⟨k3 + 1, by go_num, by rw [HSN.out], Lib.hid (by have := HK3.out; omega), hb11.trans (hb12.mono hb11.size)⟩
                · have hkk : k3 = E2.length := by have := HK3.out; omega
                  have hall : E2.take k3 = E2 := by rw [hkk, List.take_length]
                  rw [hall, HH.out]
                  clear hall hR hEl hEl' hkk HK3 HH
                  have hw2 : wrap64 (2 * S) = 2 * S := by unfold wrap64; omega
                  go_wp2_with fail
                  refine (awake_any _).mono ?_
                  rintro r w13 ⟨rfl, hb13⟩
                  go_wp2
                  go_ret
                  exact ⟨rfl, (hbw.trans (hbA.mono hbw.size)).trans (hb13.mono (Nat.le_trans hbw.size hbA.size))⟩
end Go.Proofs.Ytcaglkefhbbnbaa
