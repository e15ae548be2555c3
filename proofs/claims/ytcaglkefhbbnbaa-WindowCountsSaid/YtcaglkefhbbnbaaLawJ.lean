/- WindowCounts: plain law and walk. -/
import Derived.Test.YtcaglkefhbbnbaaLawI
import Derived.Test.YtcaglkefhbbnbaaKitC
namespace Go.Proofs.Ytcaglkefhbbnbaa
open Go.ChangeShapes Go.WideShapes Go.ChangeAt Go.RowKit
set_option linter.unusedVariables false
set_option linter.unusedSimpArgs false

def mostStep (key : ByteArray) (m : Int) (a : AddD) : Int := if rightB a = true ∧ a.key = key then max m a.at_ else m
def mostOf (key : ByteArray) (l : List AddD) : Int := l.foldl (mostStep key) 0
theorem mostOf_snoc (key : ByteArray) (l : List AddD) (a : AddD) : mostOf key (l ++ [a]) = mostStep key (mostOf key l) a := by simp [mostOf]
theorem most_facts (key : ByteArray) : ∀ (l : List AddD) (m : Int), m ≤ l.foldl (mostStep key) m ∧ (∀ a ∈ l, rightB a = true → a.key = key → a.at_ ≤ l.foldl (mostStep key) m) ∧ (∀ B, m ≤ B → (∀ a ∈ l, a.at_ ≤ B) → l.foldl (mostStep key) m ≤ B)
  | [], m => ⟨Int.le_refl _, by simp, fun B hB _ => hB⟩
  | a :: l, m => by
    obtain ⟨i1, i2, i3⟩ := most_facts key l (mostStep key m a)
    have hm : m ≤ mostStep key m a := by unfold mostStep; split <;> omega
    refine ⟨by rw [List.foldl_cons]; omega, ?_, ?_⟩
    · intro b hb r1 r2
      rw [List.foldl_cons]
      rcases List.mem_cons.1 hb with rfl | hb
      · have : b.at_ ≤ mostStep key m b := by unfold mostStep; rw [if_pos ⟨r1, r2⟩]; omega
        omega
      · exact i2 b hb r1 r2
    · intro B hB hall
      rw [List.foldl_cons]
      refine i3 B ?_ (fun b hb => hall b (by simp [hb]))
      have := hall a (by simp)
      unfold mostStep; split <;> omega

theorem holdsL_len (s h a : Int) : (holdsL s h a).length ≤ 4096 := by
  unfold holdsL
  split
  · exact endsL_len _ _ _ _
  · simp
theorem cntN_bd (s h : Int) (key : ByteArray) (a : AddD) : 0 ≤ cntN s h key a ∧ cntN s h key a ≤ 4294967296 := by
  unfold cntN
  split
  · rename_i hr
    have := right_bd hr.1
    have hl := holdsL_len s h a.at_
    have h1 := Int.mul_nonneg (by omega : 0 ≤ a.n) (by omega : 0 ≤ ((holdsL s h a.at_).length : Int))
    have h2 := Int.mul_le_mul (by omega : a.n ≤ 1048576) (by omega : ((holdsL s h a.at_).length : Int) ≤ 4096) (by omega) (by omega)
    omega
  · omega
theorem cntSum_snoc (s h : Int) (key : ByteArray) (l : List AddD) (a : AddD) : cntSum s h key (l ++ [a]) = cntSum s h key l + cntN s h key a := by simp [cntSum]
theorem cntSum_bd (s h : Int) (key : ByteArray) : ∀ l : List AddD, 0 ≤ cntSum s h key l ∧ cntSum s h key l ≤ 4294967296 * l.length
  | [] => by simp [cntSum]
  | a :: l => by
    have ih := cntSum_bd s h key l
    have b := cntN_bd s h key a
    have e : cntSum s h key (a :: l) = cntN s h key a + cntSum s h key l := rfl
    rw [e, List.length_cons]
    omega

theorem counts_plain (wd s h : Int) (key : ByteArray) (l : List AddD) (hm : mayB s h wd = true) (hs : s ≤ 400) (hat : ∀ a ∈ l, a.at_ ≤ 4000) (hE : (endsL s h 0 (mostOf key l + s)).length ≠ 4096) :
    sumTo wd l s h key (endsL s h 0 (mostOf key l + s)) = cntSum s h key l := by
  obtain ⟨m1, m2, m3⟩ := most_facts key l 0
  have m4 := m3 4000 (by omega) hat
  have hb := may_bd hm
  have hl := endsL_len s h 0 (mostOf key l + s)
  unfold sumTo
  refine sum_atV wd s h _ key hm (may_one hm) ?_ (by omega) l (fun a ha r1 r2 => ?_)
  · unfold mostOf; omega
  · have := m2 a ha r1 r2
    unfold mostOf; omega

set_option maxRecDepth 20000 in
set_option maxHeartbeats 8000000 in
theorem counts_walk (width : Int) (A : Option Addr) (c : Nat) (l : List AddD) (s h : Int) (key : ByteArray) (w : World) (hl : AddsAt w w.heap.size A l) (hlen : (l.length : Int) ≤ 9223372036854775807) (hks : key.size ≤ maxLen) :
    Calls Try.prog 6 #[.int .i64 width, .slice A l.length c, .agg #[.int .i64 s, .int .i64 h], .string key] w fun r w' => r = .returned (.bool true) ∧ Below w.heap.size w w' := by
  have hl1 : AddsAt (w.alloc (.cells #[.int .i64 s, .int .i64 h] 23)) (w.alloc (.cells #[.int .i64 s, .int .i64 h] 23)).heap.size A l := (hl.below ((Below.refl _ _).alloc (Nat.le_refl _) _)).more (by simp)
  have HL := Lib.hid hl1
  clear hl1 hl
  have hal : Below w.heap.size w (w.alloc (.cells #[.int .i64 s, .int .i64 h] 23)) := (Below.refl _ _).alloc (Nat.le_refl _) _
  by_cases g1 : longB l = true
  · go_enter Try.func6, Try.ntmps6
    go_wp2_with fail
    refine (long_any A c l _ HL.out hlen).mono ?_
    rintro r w1 ⟨rfl, hb1⟩
    have z1 := hb1.size
    simp at z1
    have s0 : w1.cell? ⟨w.heap.size, 0, none⟩ = some (.int .i64 s) := (hb1.cell (by simp)).trans (by simp)
    have s1 : w1.cell? ⟨w.heap.size, 1, none⟩ = some (.int .i64 h) := (hb1.cell (by simp)).trans (by simp)
    have hbw : Below w.heap.size w w1 := hal.trans (hb1.mono (by simp))
    go_wp2_with fail
    refine (awake_any _).mono ?_
    rintro r w2 ⟨rfl, hb2⟩
    go_wp2
    go_ret
    exact ⟨rfl, hbw.trans (hb2.mono hbw.size)⟩
  · have g1' : longB l = false := by simpa using g1
    clear g1
    have hno := longB_no g1'
    have hn60 := Lib.hid hno.1
    have hi60 : (l.length : Int) ≤ 60 := by have := hno.1; omega
    clear hno
    by_cases g2 : 60 < (key.size : Int)
    · skip
      go_enter Try.func6, Try.ntmps6
      go_wp2_with fail
      refine (long_any A c l _ HL.out hlen).mono ?_
      rintro r w1 ⟨rfl, hb1⟩
      have z1 := hb1.size
      simp at z1
      have s0 : w1.cell? ⟨w.heap.size, 0, none⟩ = some (.int .i64 s) := (hb1.cell (by simp)).trans (by simp)
      have s1 : w1.cell? ⟨w.heap.size, 1, none⟩ = some (.int .i64 h) := (hb1.cell (by simp)).trans (by simp)
      have hbw : Below w.heap.size w w1 := hal.trans (hb1.mono (by simp))
      go_wp2_with fail
      refine (awake_any _).mono ?_
      rintro r w2 ⟨rfl, hb2⟩
      go_wp2
      go_ret
      exact ⟨rfl, hbw.trans (hb2.mono hbw.size)⟩
    · by_cases hm : mayB s h 1 = true
      · have hmb := may_bd hm
        by_cases g3 : 400 < s
        · skip
          go_enter Try.func6, Try.ntmps6
          go_wp2_with fail
          refine (long_any A c l _ HL.out hlen).mono ?_
          rintro r w1 ⟨rfl, hb1⟩
          have z1 := hb1.size
          simp at z1
          have s0 : w1.cell? ⟨w.heap.size, 0, none⟩ = some (.int .i64 s) := (hb1.cell (by simp)).trans (by simp)
          have s1 : w1.cell? ⟨w.heap.size, 1, none⟩ = some (.int .i64 h) := (hb1.cell (by simp)).trans (by simp)
          have hbw : Below w.heap.size w w1 := hal.trans (hb1.mono (by simp))
          go_wp2_with fail
          refine (rmay_any s h 1 _).mono ?_
          rintro r w1b ⟨rfl, hb1b⟩
          rw [hm]
          have s0b := (hb1b.cell (p := ⟨w.heap.size, 0, none⟩) (by show w.heap.size < _; omega)).trans s0
          have s1b := (hb1b.cell (p := ⟨w.heap.size, 1, none⟩) (by show w.heap.size < _; omega)).trans s1
          have hbw0 := hbw
          clear hbw
          have hbw : Below w.heap.size w w1b := hbw0.trans (hb1b.mono hbw0.size)
          clear hbw0
          go_wp2_with fail
          refine (awake_any _).mono ?_
          rintro r w2 ⟨rfl, hb2⟩
          go_wp2
          go_ret
          exact ⟨rfl, hbw.trans (hb2.mono hbw.size)⟩
        · by_cases g4 : 400 < h
          · skip
            go_enter Try.func6, Try.ntmps6
            go_wp2_with fail
            refine (long_any A c l _ HL.out hlen).mono ?_
            rintro r w1 ⟨rfl, hb1⟩
            have z1 := hb1.size
            simp at z1
            have s0 : w1.cell? ⟨w.heap.size, 0, none⟩ = some (.int .i64 s) := (hb1.cell (by simp)).trans (by simp)
            have s1 : w1.cell? ⟨w.heap.size, 1, none⟩ = some (.int .i64 h) := (hb1.cell (by simp)).trans (by simp)
            have hbw : Below w.heap.size w w1 := hal.trans (hb1.mono (by simp))
            go_wp2_with fail
            refine (rmay_any s h 1 _).mono ?_
            rintro r w1b ⟨rfl, hb1b⟩
            rw [hm]
            have s0b := (hb1b.cell (p := ⟨w.heap.size, 0, none⟩) (by show w.heap.size < _; omega)).trans s0
            have s1b := (hb1b.cell (p := ⟨w.heap.size, 1, none⟩) (by show w.heap.size < _; omega)).trans s1
            have hbw0 := hbw
            clear hbw
            have hbw : Below w.heap.size w w1b := hbw0.trans (hb1b.mono hbw0.size)
            clear hbw0
            go_wp2_with fail
            refine (awake_any _).mono ?_
            rintro r w2 ⟨rfl, hb2⟩
            go_wp2
            go_ret
            exact ⟨rfl, hbw.trans (hb2.mono hbw.size)⟩
          · skip
            go_enter Try.func6, Try.ntmps6
            go_wp2_with fail
            refine (long_any A c l _ HL.out hlen).mono ?_
            rintro r w1 ⟨rfl, hb1⟩
            have z1 := hb1.size
            simp at z1
            have s0 : w1.cell? ⟨w.heap.size, 0, none⟩ = some (.int .i64 s) := (hb1.cell (by simp)).trans (by simp)
            have s1 : w1.cell? ⟨w.heap.size, 1, none⟩ = some (.int .i64 h) := (hb1.cell (by simp)).trans (by simp)
            have hbw : Below w.heap.size w w1 := hal.trans (hb1.mono (by simp))
            go_wp2_with fail
            refine (rmay_any s h 1 _).mono ?_
            rintro r w1b ⟨rfl, hb1b⟩
            rw [hm]
            have s0b := (hb1b.cell (p := ⟨w.heap.size, 0, none⟩) (by show w.heap.size < _; omega)).trans s0
            have s1b := (hb1b.cell (p := ⟨w.heap.size, 1, none⟩) (by show w.heap.size < _; omega)).trans s1
            have hbw0 := hbw
            clear hbw
            have hbw : Below w.heap.size w w1b := hbw0.trans (hb1b.mono hbw0.size)
            clear hbw0
            go_wp2_with fail
            have hlA := (((HL.out.below hb1).more hb1.size).below hb1b).more hb1b.size
            refine (fill_any width A c l _ hlA hn60.out).mono ?_
            rintro r w2 ⟨pb, F, rfl, hO, hF, hb2⟩
            have hl2 : AddsAt w2 w2.heap.size A l := (hlA.below hb2).more hb2.size
            have hwide := hO.wide
            have hpb : pb < w2.heap.size := by
              obtain ⟨bs, br, S, R, h1, h2, rfl⟩ := hO
              exact (Array.getElem?_eq_some_iff.1 h1.blk).1
            have zz := hb1b.size
            have s0c := (hb2.cell (p := ⟨w.heap.size, 0, none⟩) (by show w.heap.size < _; omega)).trans s0b
            have s1c := (hb2.cell (p := ⟨w.heap.size, 1, none⟩) (by show w.heap.size < _; omega)).trans s1b
            have zz2 := hb2.size
            have hz : w.heap.size < w2.heap.size := by omega
            have hbx : Below w.heap.size w w2 := hbw.trans (hb2.mono hbw.size)
            have HO := Lib.hid hO
            have HL2 := Lib.hid hl2
            clear hO hF hb1 hb2 hl2 HL hlA hb1b s0 s1 s0b s1b hbw zz zz2 z1 hal
            go_wp2_with fail
            have hKe : Below w2.heap.size w2 w2.drew := (Below.refl _ _).drew
            generalize hwv : widthOf width = wd at *
            clear hwv
            by_cases hmw : mayB s h wd = true
            · skip
              refine heldStart 5 (S := fun W => W.cell? ⟨w.heap.size, 0, none⟩ = some (.int .i64 s) ∧ W.cell? ⟨w.heap.size, 1, none⟩ = some (.int .i64 h)) (by kernel_rfl) ?_ (fun hHeld => ?_)
              · exact ⟨(hKe.cell hz).trans s0c, (hKe.cell hz).trans s1c⟩
              refine heldTake 0 (v := ?_) (by simp only [List.getElem?_toArray, List.getElem?_cons_succ, List.getElem?_cons_zero]; rfl) (by kernel_rfl) (by intro _ _ _ h; exact h) (by rfl) (by assumption) ?_ ?_
              rotate_left
              · intro W hSw; (try dsimp only at hSw); go_simp; try with_reducible rfl
              simp only [Act.put, List.setIfInBounds_toArray, List.set_cons_zero, List.set_cons_succ]
              refine heldTake 1 (v := ?_) (by simp only [List.getElem?_toArray, List.getElem?_cons_succ, List.getElem?_cons_zero]; rfl) (by kernel_rfl) (by intro _ _ _ h; exact h) (by rfl) (by assumption) ?_ ?_
              rotate_left
              · intro W hSw; (try dsimp only at hSw); go_simp; try with_reducible rfl
              simp only [Act.put, List.setIfInBounds_toArray, List.set_cons_zero, List.set_cons_succ]
              refine heldCall 2 (by simp only [List.getElem?_toArray, List.getElem?_cons_succ, List.getElem?_cons_zero]; rfl) (by kernel_rfl) (fun K hK => ?_)
              go_simp
              refine (pwidth_any pb wd _ (HO.out.below hKe).cells).mono ?_
              rintro r w4 ⟨rfl, rfl⟩
              go_wp2_with fail
              refine hK.out _ _ ?_ (fun hHeld => ?_)
              · exact ⟨(hKe.cell hz).trans s0c, (hKe.cell hz).trans s1c⟩
              clear hK K
              (try simp only [Act.put, List.setIfInBounds_toArray, List.set_cons_zero, List.set_cons_succ])
              refine heldCall 3 (by simp only [List.getElem?_toArray, List.getElem?_cons_succ, List.getElem?_cons_zero]; rfl) (by kernel_rfl) (fun K hK => ?_)
              go_simp
              refine (may_any s h wd (by omega) _).mono ?_
              rintro r w5 ⟨rfl, hb5⟩
              rw [hmw]
              have hK0 := hKe
              clear hKe
              have hKe : Below w2.heap.size w2 w5 := hK0.trans (hb5.mono hK0.size)
              clear hK0 hb5
              go_wp2_with fail
              refine hK.out _ _ ?_ (fun hHeld => ?_)
              · exact ⟨(hKe.cell hz).trans s0c, (hKe.cell hz).trans s1c⟩
              clear hK K
              (try simp only [Act.put, List.setIfInBounds_toArray, List.set_cons_zero, List.set_cons_succ])
              refine heldTake 4 (v := ?_) (by simp only [List.getElem?_toArray, List.getElem?_cons_succ, List.getElem?_cons_zero]; rfl) (by kernel_rfl) (by intro _ _ _ h; exact h) (by rfl) (by assumption) ?_ ?_
              rotate_left
              · intro W hSw; (try dsimp only at hSw); go_simp; try with_reducible rfl
              simp only [Act.put, List.setIfInBounds_toArray, List.set_cons_zero, List.set_cons_succ]
              refine heldDone (by kernel_rfl) ?_ _
              have s0d := (hKe.cell (p := ⟨w.heap.size, 0, none⟩) hz).trans s0c
              have s1d := (hKe.cell (p := ⟨w.heap.size, 1, none⟩) hz).trans s1c
              have hl5 : AddsAt w5 w5.heap.size A l := (HL2.out.below hKe).more hKe.size
              have hO5 := HO.out.below hKe
              have hpb5 : pb < w5.heap.size := by have := hKe.size; omega
              have hz5 : w.heap.size < w5.heap.size := by have := hKe.size; omega
              have hby : Below w.heap.size w w5 := hbx.trans (hKe.mono hbx.size)
              have HO5 := Lib.hid hO5
              have HL5 := Lib.hid hl5
              clear hO5 hl5 HO HL2 hHeld hKe hbx s0c s1c hz hpb
              go_wp2_with fail
              go_loopg [10, 11, 54] l.length (fun rest m n i wr => ∃ k : Nat, i = .int .i64 k ∧ n = .int .i64 (cntSum s h key (l.take k)) ∧ m = .int .i64 (mostOf key (l.take k)) ∧ Hid (k + rest = l.length) ∧ Hid (∀ j (hj : j < l.length), j < k → l[j].at_ ≤ 4000) ∧ Below w5.heap.size w5 wr)
              case atStart => exact ⟨0, rfl, rfl, rfl, Lib.hid (by simp), Lib.hid (by intro j _ h; omega), Below.refl _ _⟩
              case round =>
                obtain ⟨k, rfl, rfl, rfl, HK, HA, hb⟩ := hrel
                by_cases hk : (k : Int) < (l.length : Int)
                · have hkl : k < l.length := by omega
                  obtain ⟨b, o, rfl, hbl, c1, c2, c3⟩ := (HL5.out.below hb).one hkl
                  have hz := hb.size
                  by_cases ha : 4000 < l[k].at_
                  · generalize l[k] = x at *
                    go_wp2_with fail
                    refine (awake_any _).mono ?_
                    rintro r w3 ⟨rfl, hb3⟩
                    go_wp2
                    go_ret
                    exact ⟨rfl, (hby.trans ((hb.alloc hz _).mono hby.size)).trans (hb3.mono (by have := hby.size; simp; omega))⟩
                  · have HA' : Hid (∀ j (hj : j < l.length), j < k + 1 → l[j].at_ ≤ 4000) := Lib.hid (fun j hj hjk => by
                      by_cases e : j = k
                      · subst e; omega
                      · exact HA.out j hj (by omega))
                    have hsn := cntSum_snoc s h key (l.take k) l[k]
                    have hmn := mostOf_snoc key (l.take k) l[k]
                    rw [← List.take_succ_eq_append_getElem hkl] at hsn hmn
                    have hbd1 := cntSum_bd s h key (l.take k)
                    have hl60 : (l.take k).length ≤ 60 := by have := List.length_take_le k l; omega
                    have hq1 : 0 ≤ cntSum s h key (l.take k) ∧ cntSum s h key (l.take k) ≤ 257698037760 := by omega
                    have hcb := cntN_bd s h key l[k]
                    clear hbd1 hl60
                    generalize l[k] = x at *
                    have HSN := Lib.hid hsn
                    have HMN := Lib.hid hmn
                    clear hsn hmn
                    have s0e := (hb.cell (p := ⟨w.heap.size, 0, none⟩) hz5).trans s0d
                    have s1e := (hb.cell (p := ⟨w.heap.size, 1, none⟩) hz5).trans s1d
                    by_cases r1 : rightB x = true
                    · have hxb := right_bd r1
                      by_cases r2 : x.key = key
                      · have hadd : cntN s h key x = x.n * (holdsL s h x.at_).length := by unfold cntN; rw [if_pos ⟨r1, r2⟩]
                        have hmo : mostStep key (mostOf key (l.take k)) x = max (mostOf key (l.take k)) x.at_ := by unfold mostStep; rw [if_pos ⟨r1, r2⟩]
                        rw [hadd] at hcb
                        have HAD := Lib.hid hadd
                        have HMO := Lib.hid hmo
                        clear hadd hmo
                        have r2c : (x.key.toList == key.toList) = true := by simp [r2]
                        clear r2
                        generalize mostOf key (l.take k) = mo at *
                        generalize cntSum s h key (l.take k) = cs at *
                        go_wp2_with fail
                        refine (rright_any _ _ _ _).mono ?_
                        rintro r w4 ⟨rfl, hb4⟩
                        have hb5a : Below w5.heap.size w5 w4 := (hb.alloc hz _).trans (hb4.mono (by simp; omega))
                        have f0 := (hb5a.cell (p := ⟨w.heap.size, 0, none⟩) hz5).trans s0d
                        have f1 := (hb5a.cell (p := ⟨w.heap.size, 1, none⟩) hz5).trans s1d
                        have d0 : w4.cell? ⟨wr.heap.size, 0, none⟩ = some (.string x.key) := (hb4.cell (by simp)).trans (by simp)
                        have d1 : w4.cell? ⟨wr.heap.size, 1, none⟩ = some (.int .i64 x.at_) := (hb4.cell (by simp)).trans (by simp)
                        have d2 : w4.cell? ⟨wr.heap.size, 2, none⟩ = some (.int .i64 x.n) := (hb4.cell (by simp)).trans (by simp)
                        have zb : wr.heap.size < w4.heap.size := by have := hb4.size; simp at this; omega
                        have za : w.heap.size < w4.heap.size := by have := hb5a.size; omega
                        go_wp2_with fail
                        have hKe : Below w4.heap.size w4 w4.drew := (Below.refl _ _).drew
                        refine heldStart 10 (S := fun W => W.cell? ⟨w.heap.size, 0, none⟩ = some (.int .i64 s) ∧ W.cell? ⟨w.heap.size, 1, none⟩ = some (.int .i64 h) ∧ W.cell? ⟨wr.heap.size, 0, none⟩ = some (.string x.key) ∧ W.cell? ⟨wr.heap.size, 1, none⟩ = some (.int .i64 x.at_) ∧ W.cell? ⟨wr.heap.size, 2, none⟩ = some (.int .i64 x.n)) (by kernel_rfl) ?_ (fun hHeld => ?_)
                        · exact ⟨(hKe.cell za).trans f0, (hKe.cell za).trans f1, (hKe.cell zb).trans d0, (hKe.cell zb).trans d1, (hKe.cell zb).trans d2⟩
                        refine heldTake 0 (v := ?_) (by simp only [List.getElem?_toArray, List.getElem?_cons_succ, List.getElem?_cons_zero]; rfl) (by kernel_rfl) (by intro _ _ _ h; exact h) (by rfl) (by assumption) ?_ ?_
                        rotate_left
                        · intro W hSw; (try dsimp only at hSw); go_simp; try with_reducible rfl
                        simp only [Act.put, List.setIfInBounds_toArray, List.set_cons_zero, List.set_cons_succ]
                        refine heldTake 1 (v := ?_) (by simp only [List.getElem?_toArray, List.getElem?_cons_succ, List.getElem?_cons_zero]; rfl) (by kernel_rfl) (by intro _ _ _ h; exact h) (by rfl) (by assumption) ?_ ?_
                        rotate_left
                        · intro W hSw; (try dsimp only at hSw); go_simp; try with_reducible rfl
                        simp only [Act.put, List.setIfInBounds_toArray, List.set_cons_zero, List.set_cons_succ]
                        refine heldTake 2 (v := ?_) (by simp only [List.getElem?_toArray, List.getElem?_cons_succ, List.getElem?_cons_zero]; rfl) (by kernel_rfl) (by intro _ _ _ h; exact h) (by rfl) (by assumption) ?_ ?_
                        rotate_left
                        · intro W hSw; (try dsimp only at hSw); go_simp; try with_reducible rfl
                        simp only [Act.put, List.setIfInBounds_toArray, List.set_cons_zero, List.set_cons_succ]
                        refine heldTake 3 (v := ?_) (by simp only [List.getElem?_toArray, List.getElem?_cons_succ, List.getElem?_cons_zero]; rfl) (by kernel_rfl) (by intro _ _ _ h; exact h) (by rfl) (by assumption) ?_ ?_
                        rotate_left
                        · intro W hSw; (try dsimp only at hSw); go_simp; try with_reducible rfl
                        simp only [Act.put, List.setIfInBounds_toArray, List.set_cons_zero, List.set_cons_succ]
                        refine heldTake 4 (v := ?_) (by simp only [List.getElem?_toArray, List.getElem?_cons_succ, List.getElem?_cons_zero]; rfl) (by kernel_rfl) (by intro _ _ _ h; exact h) (by rfl) (by assumption) ?_ ?_
                        rotate_left
                        · intro W hSw; (try dsimp only at hSw); go_simp; try with_reducible rfl
                        simp only [Act.put, List.setIfInBounds_toArray, List.set_cons_zero, List.set_cons_succ]
                        refine heldTake 5 (v := ?_) (by simp only [List.getElem?_toArray, List.getElem?_cons_succ, List.getElem?_cons_zero]; rfl) (by kernel_rfl) (by intro _ _ _ h; exact h) (by rfl) (by assumption) ?_ ?_
                        rotate_left
                        · intro W hSw; (try dsimp only at hSw); go_simp; try with_reducible rfl
                        simp only [Act.put, List.setIfInBounds_toArray, List.set_cons_zero, List.set_cons_succ]
                        refine heldCall 6 (by simp only [List.getElem?_toArray, List.getElem?_cons_succ, List.getElem?_cons_zero]; rfl) (by kernel_rfl) (fun K hK => ?_)
                        go_simp
                        refine (holds_any s h x.at_ _).mono ?_
                        rintro r w6 ⟨rA, rc, rfl, hown, hb6⟩
                        have hhl := holdsL_len s h x.at_
                        generalize holdsL s h x.at_ = Hs at *
                        clear hown
                        have hK0 := hKe
                        clear hKe
                        have hKe : Below w4.heap.size w4 w6 := hK0.trans (hb6.mono hK0.size)
                        clear hK0 hb6
                        have hwx : IntKind.i64.wrap (x.n * (Hs.length : Int)) = x.n * (Hs.length : Int) := IntWalk.i64_in _ (by omega)
                        have hwy : IntKind.i64.wrap (cs + x.n * (Hs.length : Int)) = cs + x.n * (Hs.length : Int) := IntWalk.i64_in _ (by omega)
                        go_wp2_with fail
                        refine hK.out _ _ ?_ (fun hHeld => ?_)
                        · exact ⟨(hKe.cell za).trans f0, (hKe.cell za).trans f1, (hKe.cell zb).trans d0, (hKe.cell zb).trans d1, (hKe.cell zb).trans d2⟩
                        clear hK K
                        (try simp only [Act.put, List.setIfInBounds_toArray, List.set_cons_zero, List.set_cons_succ])
                        refine heldTake 7 (v := ?_) (by simp only [List.getElem?_toArray, List.getElem?_cons_succ, List.getElem?_cons_zero]; rfl) (by kernel_rfl) (by intro _ _ _ h; exact h) (by rfl) (by assumption) ?_ ?_
                        rotate_left
                        · intro W hSw; (try dsimp only at hSw); go_simp; try with_reducible rfl
                        simp only [Act.put, List.setIfInBounds_toArray, List.set_cons_zero, List.set_cons_succ]
                        refine heldTake 8 (v := ?_) (by simp only [List.getElem?_toArray, List.getElem?_cons_succ, List.getElem?_cons_zero]; rfl) (by kernel_rfl) (by intro _ _ _ h; exact h) (by rfl) (by assumption) ?_ ?_
                        rotate_left
                        · intro W hSw; (try dsimp only at hSw); go_simp; try with_reducible rfl
                        simp only [Act.put, List.setIfInBounds_toArray, List.set_cons_zero, List.set_cons_succ]
                        refine heldTake 9 (v := ?_) (by simp only [List.getElem?_toArray, List.getElem?_cons_succ, List.getElem?_cons_zero]; rfl) (by kernel_rfl) (by intro _ _ _ h; exact h) (by rfl) (by assumption) ?_ ?_
                        rotate_left
                        · intro W hSw; (try dsimp only at hSw); go_simp; try with_reducible rfl
                        simp only [Act.put, List.setIfInBounds_toArray, List.set_cons_zero, List.set_cons_succ]
                        refine heldTake 10 (v := ?_) (by simp only [List.getElem?_toArray, List.getElem?_cons_succ, List.getElem?_cons_zero]; rfl) (by kernel_rfl) (by intro _ _ _ h; exact h) (by rfl) (by assumption) ?_ ?_
                        rotate_left
                        · intro W hSw; (try dsimp only at hSw); go_simp; try with_reducible rfl
                        simp only [Act.put, List.setIfInBounds_toArray, List.set_cons_zero, List.set_cons_succ]
                        refine heldDone (by kernel_rfl) ?_ _
                        have g1 := (hKe.cell (p := ⟨wr.heap.size, 1, none⟩) zb).trans d1
                        clear hHeld
                        go_wp2
                        go_roundg (gk - 1)
                        case measure => have := HK.out; omega
                        case rel => exact ⟨k + 1, by go_num, by rw [HSN.out, HAD.out], by rw [HMN.out, HMO.out], Lib.hid (by have := HK.out; omega), HA', hb5a.trans (hKe.mono hb5a.size)⟩
                      · have hadd : cntN s h key x = 0 := by unfold cntN; rw [if_neg (fun h => r2 h.2)]
                        have hmo : mostStep key (mostOf key (l.take k)) x = mostOf key (l.take k) := by unfold mostStep; rw [if_neg (fun h => r2 h.2)]
                        have HAD := Lib.hid hadd
                        have HMO := Lib.hid hmo
                        clear hadd hmo
                        have r2c := ba_ne r2
                        go_wp2_with fail
                        refine (rright_any _ _ _ _).mono ?_
                        rintro r w4 ⟨rfl, hb4⟩
                        obtain ⟨hc4, hf4⟩ := bcell hb4
                        go_wp2
                        go_roundg (gk - 1)
                        case measure => have := HK.out; omega
                        case rel => exact ⟨k + 1, by go_num, by rw [HSN.out, HAD.out, Int.add_zero], by rw [HMN.out, HMO.out], Lib.hid (by have := HK.out; omega), HA', (hb.alloc hz _).trans (hb4.mono (by simp; omega))⟩
                    · have hadd : cntN s h key x = 0 := by unfold cntN; rw [if_neg (fun h => r1 h.1)]
                      have hmo : mostStep key (mostOf key (l.take k)) x = mostOf key (l.take k) := by unfold mostStep; rw [if_neg (fun h => r1 h.1)]
                      have HAD := Lib.hid hadd
                      have HMO := Lib.hid hmo
                      clear hadd hmo
                      have r1' : rightB x = false := by simpa using r1
                      clear r1
                      go_wp2_with fail
                      refine (rright_any _ _ _ _).mono ?_
                      rintro r w4 ⟨rfl, hb4⟩
                      obtain ⟨hc4, hf4⟩ := bcell hb4
                      go_wp2
                      go_roundg (gk - 1)
                      case measure => have := HK.out; omega
                      case rel => exact ⟨k + 1, by go_num, by rw [HSN.out, HAD.out, Int.add_zero], by rw [HMN.out, HMO.out], Lib.hid (by have := HK.out; omega), HA', (hb.alloc hz _).trans (hb4.mono (by simp; omega))⟩
                · have hkk : k = l.length := by have := HK.out; omega
                  have hat : ∀ a ∈ l, a.at_ ≤ 4000 := fun a ha => by
                    obtain ⟨j, hj, rfl⟩ := List.getElem_of_mem ha
                    exact HA.out j hj (by omega)
                  have hall : l.take k = l := by rw [hkk, List.take_length]
                  rw [hall]
                  have hbd1 := cntSum_bd s h key l
                  have hq1 : 0 ≤ cntSum s h key l ∧ cntSum s h key l ≤ 257698037760 := by omega
                  have hmo1 : 0 ≤ mostOf key l := (most_facts key l 0).1
                  have hmo2 : mostOf key l ≤ 4000 := (most_facts key l 0).2.2 4000 (by omega) hat
                  have hpl := counts_plain wd s h key l hmw (by omega) hat
                  have hEl := endsL_len s h 0 (mostOf key l + s)
                  have HP := Lib.hid hpl
                  have HEL := Lib.hid hEl
                  clear hbd1 hat hall HA hpl hEl
                  have s0e := (hb.cell (p := ⟨w.heap.size, 0, none⟩) hz5).trans s0d
                  have s1e := (hb.cell (p := ⟨w.heap.size, 1, none⟩) hz5).trans s1d
                  have hzr := hb.size
                  generalize cntSum s h key l = cs at *
                  generalize mostOf key l = mo at *
                  go_wp2_with fail
                  refine (ends_any s h 0 (mo + s) _).mono ?_
                  rintro r w7 ⟨rA, rc, rfl, hown, hb7⟩
                  have hR := Reads.of_own hown
                  generalize endsL s h 0 (mo + s) = E at *
                  have hEl' : (E.length : Int) ≤ 4096 := by have := HEL.out; omega
                  clear hown
                  have hb57 : Below w5.heap.size w5 w7 := hb.trans (hb7.mono hzr)
                  by_cases h4 : E.length = 4096
                  · have h4' : ((E.length : Int) == 4096) = true := by simp [h4]
                    go_wp2_with fail
                    refine (awake_any _).mono ?_
                    rintro r w8 ⟨rfl, hb8⟩
                    go_wp2
                    go_ret
                    exact ⟨rfl, (hby.trans (hb57.mono hby.size)).trans (hb8.mono (Nat.le_trans hby.size hb57.size))⟩
                  · have h4' : ((E.length : Int) == 4096) = false := by simp; omega
                    have HPE := Lib.hid (HP.out h4)
                    clear h4 HP
                    go_wp2_with fail
                    go_loopg [14, 97] E.length (fun rest n i wr' => ∃ k : Nat, i = .int .i64 k ∧ n = .int .i64 (sumTo wd l s h key (E.take k)) ∧ Hid (k + rest = E.length) ∧ Below w7.heap.size w7 wr')
                    case atStart => exact ⟨0, rfl, rfl, Lib.hid (by simp), Below.refl _ _⟩
                    case round =>
                      obtain ⟨k2, rfl, rfl, HK2, hb8⟩ := hrel
                      have hbA : Below w5.heap.size w5 wr := hb57.trans (hb8.mono hb57.size)
                      by_cases hk2 : (k2 : Int) < (E.length : Int)
                      · have hkl : k2 < E.length := by omega
                        obtain ⟨b, o, rfl, hbl, c1⟩ := (hR.below hb8).one hkl
                        have f0 := (hbA.cell (p := ⟨w.heap.size, 0, none⟩) hz5).trans s0d
                        have f1 := (hbA.cell (p := ⟨w.heap.size, 1, none⟩) hz5).trans s1d
                        have hsn := sumTo_snoc wd l s h key (E.take k2) E[k2]
                        rw [← List.take_succ_eq_append_getElem hkl] at hsn
                        have q1 := sumTo_bd wd l s h key hn60.out (E.take k2)
                        have q2 := atV_bd wd l s h key E[k2] hn60.out
                        have q3 : (E.take k2).length ≤ 4096 := by have := List.length_take_le k2 E; have := HEL.out; omega
                        have q4 : 0 ≤ sumTo wd l s h key (E.take k2) ∧ sumTo wd l s h key (E.take k2) ≤ 257698037760 := by omega
                        generalize E[k2] = x at *
                        have HSN := Lib.hid hsn
                        clear hsn q1 q3
                        go_wp2_with fail
                        refine (wat_any pb F wd (l.filter rightB) s h key x _ (HO5.out.below hbA) hks (by have := hbA.size; omega)).mono ?_
                        rintro r w9 ⟨rfl, hb9⟩
                        go_wp2
                        go_roundg (gk - 1)
                        case measure => have := HK2.out; omega
                        case rel => exact ⟨k2 + 1, by go_num, by rw [HSN.out], Lib.hid (by have := HK2.out; omega), hb8.trans (hb9.mono hb8.size)⟩
                      · have hkk : k2 = E.length := by have := HK2.out; omega
                        have hall : E.take k2 = E := by rw [hkk, List.take_length]
                        rw [hall, HPE.out]
                        clear hall hR hkk HK2 HPE
                        go_wp2_with fail
                        refine (awake_any _).mono ?_
                        rintro r w13 ⟨rfl, hb13⟩
                        go_wp2
                        go_ret
                        exact ⟨rfl, (hby.trans (hbA.mono hby.size)).trans (hb13.mono (Nat.le_trans hby.size hbA.size))⟩
            · have hmw' : mayB s h wd = false := by simpa using hmw
              clear hmw
              have hmw := hmw'
              refine heldStart 5 (S := fun W => W.cell? ⟨w.heap.size, 0, none⟩ = some (.int .i64 s) ∧ W.cell? ⟨w.heap.size, 1, none⟩ = some (.int .i64 h)) (by kernel_rfl) ?_ (fun hHeld => ?_)
              · exact ⟨(hKe.cell hz).trans s0c, (hKe.cell hz).trans s1c⟩
              refine heldTake 0 (v := ?_) (by simp only [List.getElem?_toArray, List.getElem?_cons_succ, List.getElem?_cons_zero]; rfl) (by kernel_rfl) (by intro _ _ _ h; exact h) (by rfl) (by assumption) ?_ ?_
              rotate_left
              · intro W hSw; (try dsimp only at hSw); go_simp; try with_reducible rfl
              simp only [Act.put, List.setIfInBounds_toArray, List.set_cons_zero, List.set_cons_succ]
              refine heldTake 1 (v := ?_) (by simp only [List.getElem?_toArray, List.getElem?_cons_succ, List.getElem?_cons_zero]; rfl) (by kernel_rfl) (by intro _ _ _ h; exact h) (by rfl) (by assumption) ?_ ?_
              rotate_left
              · intro W hSw; (try dsimp only at hSw); go_simp; try with_reducible rfl
              simp only [Act.put, List.setIfInBounds_toArray, List.set_cons_zero, List.set_cons_succ]
              refine heldCall 2 (by simp only [List.getElem?_toArray, List.getElem?_cons_succ, List.getElem?_cons_zero]; rfl) (by kernel_rfl) (fun K hK => ?_)
              go_simp
              refine (pwidth_any pb wd _ (HO.out.below hKe).cells).mono ?_
              rintro r w4 ⟨rfl, rfl⟩
              go_wp2_with fail
              refine hK.out _ _ ?_ (fun hHeld => ?_)
              · exact ⟨(hKe.cell hz).trans s0c, (hKe.cell hz).trans s1c⟩
              clear hK K
              (try simp only [Act.put, List.setIfInBounds_toArray, List.set_cons_zero, List.set_cons_succ])
              refine heldCall 3 (by simp only [List.getElem?_toArray, List.getElem?_cons_succ, List.getElem?_cons_zero]; rfl) (by kernel_rfl) (fun K hK => ?_)
              go_simp
              refine (may_any s h wd (by omega) _).mono ?_
              rintro r w5 ⟨rfl, hb5⟩
              rw [hmw]
              have hK0 := hKe
              clear hKe
              have hKe : Below w2.heap.size w2 w5 := hK0.trans (hb5.mono hK0.size)
              clear hK0 hb5
              go_wp2_with fail
              refine hK.out _ _ ?_ (fun hHeld => ?_)
              · exact ⟨(hKe.cell hz).trans s0c, (hKe.cell hz).trans s1c⟩
              clear hK K
              (try simp only [Act.put, List.setIfInBounds_toArray, List.set_cons_zero, List.set_cons_succ])
              refine heldTake 4 (v := ?_) (by simp only [List.getElem?_toArray, List.getElem?_cons_succ, List.getElem?_cons_zero]; rfl) (by kernel_rfl) (by intro _ _ _ h; exact h) (by rfl) (by assumption) ?_ ?_
              rotate_left
              · intro W hSw; (try dsimp only at hSw); go_simp; try with_reducible rfl
              simp only [Act.put, List.setIfInBounds_toArray, List.set_cons_zero, List.set_cons_succ]
              refine heldDone (by kernel_rfl) ?_ _
              go_wp2_with fail
              refine (awake_any _).mono ?_
              rintro r w9 ⟨rfl, hb9⟩
              go_wp2
              go_ret
              exact ⟨rfl, (hbx.trans (hKe.mono hbx.size)).trans (hb9.mono (Nat.le_trans hbx.size hKe.size))⟩
      · have hm' : mayB s h 1 = false := by simpa using hm
        clear hm
        have hm := hm'
        go_enter Try.func6, Try.ntmps6
        go_wp2_with fail
        refine (long_any A c l _ HL.out hlen).mono ?_
        rintro r w1 ⟨rfl, hb1⟩
        have z1 := hb1.size
        simp at z1
        have s0 : w1.cell? ⟨w.heap.size, 0, none⟩ = some (.int .i64 s) := (hb1.cell (by simp)).trans (by simp)
        have s1 : w1.cell? ⟨w.heap.size, 1, none⟩ = some (.int .i64 h) := (hb1.cell (by simp)).trans (by simp)
        have hbw : Below w.heap.size w w1 := hal.trans (hb1.mono (by simp))
        go_wp2_with fail
        refine (rmay_any s h 1 _).mono ?_
        rintro r w1b ⟨rfl, hb1b⟩
        rw [hm]
        have s0b := (hb1b.cell (p := ⟨w.heap.size, 0, none⟩) (by show w.heap.size < _; omega)).trans s0
        have s1b := (hb1b.cell (p := ⟨w.heap.size, 1, none⟩) (by show w.heap.size < _; omega)).trans s1
        have hbw0 := hbw
        clear hbw
        have hbw : Below w.heap.size w w1b := hbw0.trans (hb1b.mono hbw0.size)
        clear hbw0
        go_wp2_with fail
        refine (awake_any _).mono ?_
        rintro r w2 ⟨rfl, hb2⟩
        go_wp2
        go_ret
        exact ⟨rfl, hbw.trans (hb2.mono hbw.size)⟩
end Go.Proofs.Ytcaglkefhbbnbaa
