/- The walk of TopDecay. -/
import Derived.Test.YtmigjlceogofaaaTpB
namespace Go.Proofs.Ytmigjlceogofaaa
open Go.ChangeShapes Go.WideShapes Go.ChangeAt Go.RowKit
set_option linter.unusedVariables false
set_option linter.unusedSimpArgs false

theorem flat_u16 (l : List Int) : l.flatMap (fun n : Int => [Value.int .u16 n]) = l.map (Value.int .u16) := by induction l <;> simp_all [List.flatMap_cons]
def c3 (c0 c1 c2 : Nat) (i : Nat) : Nat := if i = 0 then c0 else if i = 1 then c1 else c2
def f3 (F0 F1 F2 : Nat → Prop) (i : Nat) : Nat → Prop := if i = 0 then F0 else if i = 1 then F1 else F2
theorem P3.start {w w3 w4 w5 w6 : World} {h : Int} {c0 c1 c2 : Nat} {F0 F1 F2 : Nat → Prop} {hb2 : w.heap.size ≤ w3.heap.size} (ho0 : DecObj w4 c0 F0 h 0 []) (hF0 : ∀ k, F0 k → w3.heap.size ≤ k) (hb4 : Below w4.heap.size w4 w5) (ho1 : DecObj w5 c1 F1 h 0 []) (hF1 : ∀ k, F1 k → w4.heap.size ≤ k) (hb5 : Below w5.heap.size w5 w6) (ho2 : DecObj w6 c2 F2 h 0 []) (hF2 : ∀ k, F2 k → w5.heap.size ≤ k) (z3 : w3.heap.size ≤ w4.heap.size) :
    P3 w (w6.alloc (.cells #[.pointer (some ⟨c0, 0, none⟩), .pointer (some ⟨c1, 0, none⟩), .pointer (some ⟨c2, 0, none⟩)] 27)) h (c3 c0 c1 c2) w6.heap.size (f3 F0 F1 F2) (fun _ => []) (fun _ => 0) := by
  have hz5 := hb4.size
  have hz6 := hb5.size
  have o0 := (ho0.below hb4).below hb5
  have o1 := ho1.below hb5
  have hal : Below w6.heap.size w6 (w6.alloc (.cells #[.pointer (some ⟨c0, 0, none⟩), .pointer (some ⟨c1, 0, none⟩), .pointer (some ⟨c2, 0, none⟩)] 27)) := (Below.refl _ _).alloc (Nat.le_refl _) _
  have a01 : Apart F1 F0 := (DecObj.own _ _ _ _).apart_new ho0 hF1
  have a02 : Apart F2 F0 := (DecObj.own _ _ _ _).apart_new (ho0.below hb4) hF2
  have a12 : Apart F2 F1 := (DecObj.own _ _ _ _).apart_new ho1 hF2
  have e3 : ∀ i, i < 3 → i = 0 ∨ i = 1 ∨ i = 2 := by omega
  refine ⟨?_, ?_, ?_, ?_, ?_, ?_⟩
  · intro i hi
    rcases e3 i hi with rfl | rfl | rfl
    · exact o0.below hal
    · exact o1.below hal
    · exact ho2.below hal
  · intro i j hi hj hne
    rcases e3 i hi with rfl | rfl | rfl <;> rcases e3 j hj with rfl | rfl | rfl
    · exact absurd rfl hne
    · exact a01.symm
    · exact a02.symm
    · exact a01
    · exact absurd rfl hne
    · exact a12.symm
    · exact a02
    · exact a12
    · exact absurd rfl hne
  · intro i hi k hk
    rcases e3 i hi with rfl | rfl | rfl
    · exact Nat.le_trans hb2 (hF0 k hk)
    · exact Nat.le_trans (Nat.le_trans hb2 z3) (hF1 k hk)
    · exact Nat.le_trans (Nat.le_trans (Nat.le_trans hb2 z3) hz5) (hF2 k hk)
  · intro i hi
    rcases e3 i hi with rfl | rfl | rfl
    · simp [c3]
    · simp [c3]
    · simp [c3]
  · simp
  · intro i hi hq
    rcases e3 i hi with rfl | rfl | rfl
    · have := o0.lt _ hq; omega
    · have := o1.lt _ hq; omega
    · have := ho2.lt _ hq; omega

/-- The third loop's relation. -/
def Td3 (w0 : World) (hf now : Int) (key : ByteArray) (cb pbk : Nat) (F : Nat → Prop) (cnt : Int) (hist : List AddD) (l : List AddD) (rest : Nat) (ss ii : Value) (wr : World) : Prop :=
  ∃ (k : Nat) (s : Int), ss = .int .i64 s ∧ ii = .int .i64 k ∧ Hid (k + rest = l.length) ∧ Hid (s = histSum (fun a => wtV (now - a) hf) key (l.take k)) ∧ (0 ≤ s ∧ s ≤ (k : Int) * 68718428160) ∧ DecObj wr cb F hf cnt hist ∧ wr.cell? ⟨pbk, 0, none⟩ = some (.pointer (some ⟨cb, 0, none⟩)) ∧ pbk < wr.heap.size ∧ Below w0.heap.size w0 wr
/-- The halving loop's relation. -/
def Td4 (W : World) (Q : Nat) (rest : Nat) (nn kk : Value) (wr : World) : Prop :=
  ∃ (m : Nat) (x : Int) , nn = .int .i64 x ∧ kk = .int .i64 (rest : Int) ∧ Hid (m + rest = Q) ∧ Hid (x = 1048576 / 2 ^ m) ∧ (0 ≤ x ∧ x ≤ 1048576) ∧ wr = W
theorem histSum_skip {f : Int → Int} {key : ByteArray} {l : List AddD} {a : AddD} (h : ¬ a.key = key ∨ f a.at_ = 0) : histSum f key (l ++ [a]) = histSum f key l := by
  rw [histSum_snoc]
  unfold histN
  rcases h with h | h
  · simp [h]
  · simp [h]
theorem wt_late {h now a : Int} (ha : now < a) : wtV (now - a) h = 0 := by unfold wtV; rw [if_pos (by omega)]

set_option maxRecDepth 20000 in
set_option maxHeartbeats 16000000 in
theorem topDecay_walk (A : Option Addr) (c : Nat) (l : List AddD) (hu8 : Int) (TA : Option Addr) (tc : Nat) (ts : List Int) (more : Int) (key : ByteArray) (w : World) (h : TAddsAt w w.heap.size A l) (hl : (l.length : Int) ≤ 9223372036854775807) (ht : U16sAt w w.heap.size TA ts) (htl : (ts.length : Int) ≤ 9223372036854775807) (hh : 0 ≤ hu8 ∧ hu8 ≤ 255) (hmo : 0 ≤ more ∧ more ≤ 65535) (hkey : key.size ≤ maxLen) :
    Calls Try.prog 3 #[.slice A l.length c, .int .u8 hu8, .slice TA ts.length tc, .int .u16 more, .string key] w fun e w' => e = .returned (.bool true) ∧ Below w.heap.size w w' := by
  by_cases hg : fewB l = true ∧ (ts.length : Int) ≤ 10 ∧ (key.size : Int) ≤ 24
  · obtain ⟨hfw, ht10, hk24⟩ := hg
    have hf2 := fewB_yes hfw
    have hl60 := hf2.1
    have HK24 := Lib.hid hf2.2
    have HFW := Lib.hid hfw
    clear hfw hf2
    have g1 : ¬ 10 < (ts.length : Int) := by omega
    have g2 : ¬ 24 < (key.size : Int) := by omega
    obtain ⟨hh0, hh1⟩ := hh
    obtain ⟨hm0, hm1⟩ := hmo
    go_enter Try.func3, Try.ntmps3
    go_wp2_with fail
    refine (counts_any _).mono ?_
    rintro e w1 ⟨rfl, hb1⟩
    have z1 := hb1.size
    go_wp2_with fail
    refine (few_any A c l w1 ⟨(h.1.below hb1).more z1, h.2⟩ hl).mono ?_
    rintro e w2 ⟨rfl, hb2⟩
    rw [HFW.out]
    have hbw2 : Below w.heap.size w w2 := hb1.trans (hb2.mono z1)
    have z2 := hbw2.size
    clear hb1 hb2 z1
    have hho : halfOf (1 + hu8) = 1 + hu8 := by unfold halfOf; omega
    have HHO := Lib.hid hho
    clear hho
    have QN : Hid (∀ W : World, Calls Try.prog 9 #[.int .i64 (1 + hu8)] W fun e w' => ∃ cb F, e = .returned (.pointer (some ⟨cb, 0, none⟩)) ∧ DecObj w' cb F (1 + hu8) 0 [] ∧ (∀ k, F k → W.heap.size ≤ k) ∧ Below W.heap.size W w') := Lib.hid (fun W => by
      have := dnew_any (1 + hu8) W
      rw [HHO.out] at this
      exact this)
    go_wp2_with fail
    refine (QN.out _).mono ?_
    rintro e w3 ⟨c0, F0, rfl, ho0, hF0, hb3⟩
    have z3 := hb3.size
    go_wp2_with fail
    refine (QN.out _).mono ?_
    rintro e w4 ⟨c1, F1, rfl, ho1, hF1, hb4⟩
    have z4 := hb4.size
    go_wp2_with fail
    refine (QN.out _).mono ?_
    rintro e w5 ⟨c2, F2, rfl, ho2, hF2, hb5⟩
    have z5 := hb5.size
    go_wp2_with fail
    have hP0 := P3.start (w := w) (hb2 := z2) ho0 hF0 hb4 ho1 hF1 hb5 ho2 hF2 z3
    have hbA : Below w.heap.size w (w5.alloc (.cells #[.pointer (some ⟨c0, 0, none⟩), .pointer (some ⟨c1, 0, none⟩), .pointer (some ⟨c2, 0, none⟩)] 27)) := (((hbw2.trans (hb3.mono z2)).trans (hb4.mono (by omega))).trans (hb5.mono (by omega))).alloc (by omega) _
    clear ho0 hF0 hb3 hb4 ho1 hF1 hb5 ho2 hF2 z3 z4 z5 hbw2 z2
    generalize w5.alloc (.cells #[.pointer (some ⟨c0, 0, none⟩), .pointer (some ⟨c1, 0, none⟩), .pointer (some ⟨c2, 0, none⟩)] 27) = wA at *
    generalize w5.heap.size = pbk at *
    generalize c3 c0 c1 c2 = cf at *
    generalize f3 F0 F1 F2 = Ff at *
    have HP0 := Lib.hid hP0
    clear hP0
    go_loopg [54] l.length (Td1 w (1 + hu8) cf pbk l)
    case atStart => exact ⟨0, _, _, _, rfl, Lib.hid (by simp), HP0.out, by intro key f; simp [histSum], by simp, by simp, hbA⟩
    case round =>
      obtain ⟨k, F, H, n, rfl, HK, hP, hD, hn, hH, hb⟩ := hrel
      have hz := hb.size
      have hkl' : (k : Int) ≤ (l.length : Int) := by have := HK.out; omega
      by_cases hk : (k : Int) < (l.length : Int)
      · have hkl : k < l.length := by omega
        obtain ⟨b, o, rfl, hbl, d0, d1, d2⟩ := (h.below hb).one hkl
        have hx : l.take (k + 1) = l.take k ++ [l[k]] := by simp
        have hok := h.2 _ (List.getElem_mem hkl)
        have h24 := HK24.out _ (List.getElem_mem hkl)
        have HD := Lib.hid hD
        have HX := Lib.hid hx
        have HN := Lib.hid hn
        have HH := Lib.hid hH
        clear hx hD hn hH
        generalize l[k] = x at *
        obtain ⟨xk, xa, xn⟩ := x
        obtain ⟨k1, ⟨a0, a1⟩, n0, n1⟩ := hok
        simp only at *
        by_cases he : xk = ⟨#[]⟩
        · have hee : xk.toList = [] := by rw [he]; simp
          have hxs : xk.size = 0 := by rw [he]; rfl
          clear he
          go_wp2_with fail
          have d0 : (wr.alloc (.cells #[.string xk, .int .u16 xa, .int .u16 xn] 31)).drew.cell? ⟨wr.heap.size, 0, none⟩ = some (.string xk) := by simp
          go_quiet (fail)
          go_wp2
          go_ret
          exact ⟨rfl, below_drewN (hb.alloc hz _) nq⟩
        · have hee : ¬ xk.toList = [] := by
            intro h0
            have : (xk.toList == (⟨#[]⟩ : ByteArray).toList) = false := by rw [str_beq]; simp [he]
            rw [h0] at this
            simp at this
          have hee2 : (xk.toList == []) = false := by simpa using hee
          have hee3 : (xk.toList == (⟨#[]⟩ : ByteArray).toList) = false := by rw [str_beq]; simp [he]
          have hwa : IntKind.i64.wrap xa = xa := IntWalk.i64_in _ (by omega)
          have hwn : IntKind.i64.wrap xn = xn := IntWalk.i64_in _ (by omega)
          have hxs : 1 ≤ (xk.size : Int) := by
            rcases Nat.eq_zero_or_pos xk.size with h0 | h0
            · exact absurd (ByteArray.size_eq_zero_iff.1 h0) he
            · omega
          obtain ⟨j, hj, hjm⟩ := mod3 k
          have hj3 : (j : Int) < 3 := by omega
          have hnj := HN.out j hj
          have hHj := HH.out j hj
          have hdb : daddB xk xa xn (n j) = true := by
            unfold daddB
            simp only [Bool.and_eq_true, decide_eq_true_eq]
            omega
          have HDB := Lib.hid hdb
          clear hdb he
          go_wp2_with fail
          have hbX : Below wr.heap.size wr (wr.alloc (.cells #[.string xk, .int .u16 xa, .int .u16 xn] 31)).drew := ((Below.refl _ _).alloc (Nat.le_refl _) _).drew
          have d0 : (wr.alloc (.cells #[.string xk, .int .u16 xa, .int .u16 xn] 31)).drew.cell? ⟨wr.heap.size, 0, none⟩ = some (.string xk) := by simp
          have d1 : (wr.alloc (.cells #[.string xk, .int .u16 xa, .int .u16 xn] 31)).drew.cell? ⟨wr.heap.size, 1, none⟩ = some (.int .u16 xa) := by simp
          have d2 : (wr.alloc (.cells #[.string xk, .int .u16 xa, .int .u16 xn] 31)).drew.cell? ⟨wr.heap.size, 2, none⟩ = some (.int .u16 xn) := by simp
          have hP1 := hP.grow hbX
          have HP1 := Lib.hid hP1
          have d3 := hP1.p j hj
          have HZ1 : Hid (wr.heap.size < (wr.alloc (.cells #[.string xk, .int .u16 xa, .int .u16 xn] 31)).drew.heap.size) := Lib.hid (by simp)
          have HNF : Hid (¬ F j wr.heap.size) := Lib.hid (fun hq => by have := (hP.o j hj).lt _ hq; omega)
          clear hP1
          refine heldStart 20 (S := fun W => W.cell? ⟨wr.heap.size, 0, none⟩ = some (.string xk) ∧ W.cell? ⟨wr.heap.size, 1, none⟩ = some (.int .u16 xa) ∧ W.cell? ⟨wr.heap.size, 2, none⟩ = some (.int .u16 xn) ∧ W.cell? ⟨pbk, j, none⟩ = some (.pointer (some ⟨cf j, 0, none⟩))) (by kernel_rfl) ?_ (fun hHeld => ?_)
          · first | exact ⟨d0, d1, d2, d3⟩ | exact ⟨(hkp6.cell (p := ⟨wr.heap.size, 0, none⟩) HZ1.out HNF.out).trans d0, (hkp6.cell (p := ⟨wr.heap.size, 1, none⟩) HZ1.out HNF.out).trans d1, (hkp6.cell (p := ⟨wr.heap.size, 2, none⟩) HZ1.out HNF.out).trans d2, (hkp6.cell (p := ⟨pbk, j, none⟩) HP1.out.lt (HP1.out.q j hj)).trans d3⟩
          refine heldTake 0 (v := ?_) (by simp only [List.getElem?_toArray, List.getElem?_cons_succ, List.getElem?_cons_zero]; rfl) (by kernel_rfl) (by intro _ _ _ h; exact h) (by rfl) (by assumption) ?_ ?_
          rotate_left
          · intro W hSw; (try dsimp only at hSw); go_simp; try with_reducible rfl
          simp only [Act.put, List.setIfInBounds_toArray, List.set_cons_zero, List.set_cons_succ]
          refine heldTake 1 (v := ?_) (by simp only [List.getElem?_toArray, List.getElem?_cons_succ, List.getElem?_cons_zero]; rfl) (by kernel_rfl) (by intro _ _ _ h; exact h) (by rfl) (by assumption) ?_ ?_
          rotate_left
          · intro W hSw; (try dsimp only at hSw); go_simp; try with_reducible rfl
          simp only [Act.put, List.setIfInBounds_toArray, List.set_cons_zero, List.set_cons_succ]
          refine heldTake 2 (v := ?_) (by simp only [List.getElem?_toArray, List.getElem?_cons_succ, List.getElem?_cons_zero]; rfl) (by kernel_rfl) (by intro _ _ _ h; exact h) (by rfl) (by assumption) ?_ ?_
          rotate_left
          · intro W hSw; (try dsimp only at hSw); go_simp; try with_reducible rfl
          simp only [Act.put, List.setIfInBounds_toArray, List.set_cons_zero, List.set_cons_succ]
          refine heldTake 3 (v := ?_) (by simp only [List.getElem?_toArray, List.getElem?_cons_succ, List.getElem?_cons_zero]; rfl) (by kernel_rfl) (by intro _ _ _ h; exact h) (by rfl) (by assumption) ?_ ?_
          rotate_left
          · intro W hSw; (try dsimp only at hSw); go_simp; try with_reducible rfl
          simp only [Act.put, List.setIfInBounds_toArray, List.set_cons_zero, List.set_cons_succ]
          refine heldTake 4 (v := ?_) (by simp only [List.getElem?_toArray, List.getElem?_cons_succ, List.getElem?_cons_zero]; rfl) (by kernel_rfl) (by intro _ _ _ h; exact h) (by rfl) (by assumption) ?_ ?_
          rotate_left
          · intro W hSw; (try dsimp only at hSw); go_simp; try with_reducible rfl
          simp only [Act.put, List.setIfInBounds_toArray, List.set_cons_zero, List.set_cons_succ]
          refine heldTake 5 (v := ?_) (by simp only [List.getElem?_toArray, List.getElem?_cons_succ, List.getElem?_cons_zero]; rfl) (by kernel_rfl) (by intro _ _ _ h; exact h) (by rfl) (by assumption) ?_ ?_
          rotate_left
          · intro W hSw; (try dsimp only at hSw); go_simp; try with_reducible rfl
          simp only [Act.put, List.setIfInBounds_toArray, List.set_cons_zero, List.set_cons_succ]
          refine heldTake 6 (v := ?_) (by simp only [List.getElem?_toArray, List.getElem?_cons_succ, List.getElem?_cons_zero]; rfl) (by kernel_rfl) (by intro _ _ _ h; exact h) (by rfl) (by assumption) ?_ ?_
          rotate_left
          · intro W hSw; (try dsimp only at hSw); go_simp; try with_reducible rfl
          simp only [Act.put, List.setIfInBounds_toArray, List.set_cons_zero, List.set_cons_succ]
          refine heldTake 7 (v := ?_) (by simp only [List.getElem?_toArray, List.getElem?_cons_succ, List.getElem?_cons_zero]; rfl) (by kernel_rfl) (by intro _ _ _ h; exact h) (by rfl) (by assumption) ?_ ?_
          rotate_left
          · intro W hSw; (try dsimp only at hSw); go_simp; try with_reducible rfl
          simp only [Act.put, List.setIfInBounds_toArray, List.set_cons_zero, List.set_cons_succ]
          refine heldTake 8 (v := ?_) (by simp only [List.getElem?_toArray, List.getElem?_cons_succ, List.getElem?_cons_zero]; rfl) (by kernel_rfl) (by intro _ _ _ h; exact h) (by rfl) (by assumption) ?_ ?_
          rotate_left
          · intro W hSw; (try dsimp only at hSw); go_simp; try with_reducible rfl
          simp only [Act.put, List.setIfInBounds_toArray, List.set_cons_zero, List.set_cons_succ]
          refine heldTake 9 (v := ?_) (by simp only [List.getElem?_toArray, List.getElem?_cons_succ, List.getElem?_cons_zero]; rfl) (by kernel_rfl) (by intro _ _ _ h; exact h) (by rfl) (by assumption) ?_ ?_
          rotate_left
          · intro W hSw; (try dsimp only at hSw); go_simp; try with_reducible rfl
          simp only [Act.put, List.setIfInBounds_toArray, List.set_cons_zero, List.set_cons_succ]
          refine heldTake 10 (v := ?_) (by simp only [List.getElem?_toArray, List.getElem?_cons_succ, List.getElem?_cons_zero]; rfl) (by kernel_rfl) (by intro _ _ _ h; exact h) (by rfl) (by assumption) ?_ ?_
          rotate_left
          · intro W hSw; (try dsimp only at hSw); go_simp; try with_reducible rfl
          simp only [Act.put, List.setIfInBounds_toArray, List.set_cons_zero, List.set_cons_succ]
          refine heldTake 11 (v := ?_) (by simp only [List.getElem?_toArray, List.getElem?_cons_succ, List.getElem?_cons_zero]; rfl) (by kernel_rfl) (by intro _ _ _ h; exact h) (by rfl) (by assumption) ?_ ?_
          rotate_left
          · intro W hSw; (try dsimp only at hSw); go_simp; try with_reducible rfl
          simp only [Act.put, List.setIfInBounds_toArray, List.set_cons_zero, List.set_cons_succ]
          refine heldTake 12 (v := ?_) (by simp only [List.getElem?_toArray, List.getElem?_cons_succ, List.getElem?_cons_zero]; rfl) (by kernel_rfl) (by intro _ _ _ h; exact h) (by rfl) (by assumption) ?_ ?_
          rotate_left
          · intro W hSw; (try dsimp only at hSw); go_simp; try with_reducible rfl
          simp only [Act.put, List.setIfInBounds_toArray, List.set_cons_zero, List.set_cons_succ]
          refine heldTake 13 (v := ?_) (by simp only [List.getElem?_toArray, List.getElem?_cons_succ, List.getElem?_cons_zero]; rfl) (by kernel_rfl) (by intro _ _ _ h; exact h) (by rfl) (by assumption) ?_ ?_
          rotate_left
          · intro W hSw; (try dsimp only at hSw); go_simp; try with_reducible rfl
          simp only [Act.put, List.setIfInBounds_toArray, List.set_cons_zero, List.set_cons_succ]
          refine heldTake 14 (v := ?_) (by simp only [List.getElem?_toArray, List.getElem?_cons_succ, List.getElem?_cons_zero]; rfl) (by kernel_rfl) (by intro _ _ _ h; exact h) (by rfl) (by assumption) ?_ ?_
          rotate_left
          · intro W hSw; (try dsimp only at hSw); go_simp; try with_reducible rfl
          simp only [Act.put, List.setIfInBounds_toArray, List.set_cons_zero, List.set_cons_succ]
          refine heldTake 15 (v := ?_) (by simp only [List.getElem?_toArray, List.getElem?_cons_succ, List.getElem?_cons_zero]; rfl) (by kernel_rfl) (by intro _ _ _ h; exact h) (by rfl) (by assumption) ?_ ?_
          rotate_left
          · intro W hSw; (try dsimp only at hSw); go_simp; try with_reducible rfl
          simp only [Act.put, List.setIfInBounds_toArray, List.set_cons_zero, List.set_cons_succ]
          refine heldTake 16 (v := ?_) (by simp only [List.getElem?_toArray, List.getElem?_cons_succ, List.getElem?_cons_zero]; rfl) (by kernel_rfl) (by intro _ _ _ h; exact h) (by rfl) (by assumption) ?_ ?_
          rotate_left
          · intro W hSw; (try dsimp only at hSw); go_simp; try with_reducible rfl
          simp only [Act.put, List.setIfInBounds_toArray, List.set_cons_zero, List.set_cons_succ]
          refine heldCall 17 (by simp only [List.getElem?_toArray, List.getElem?_cons_succ, List.getElem?_cons_zero]; rfl) (by kernel_rfl) (fun K hK => ?_)
          go_simp
          refine (dadd_any (cf j) (F j) (1 + hu8) (n j) (H j) xk xa xn _ (HP1.out.o j hj)).mono ?_
          rw [HDB.out]
          rintro e w6 ⟨rfl, F6, ho6, hkp6, hft6⟩
          rw [if_pos rfl, if_pos rfl] at ho6
          go_wp2_with fail
          refine hK.out _ _ ?_ (fun hHeld => ?_)
          · first | exact ⟨d0, d1, d2, d3⟩ | exact ⟨(hkp6.cell (p := ⟨wr.heap.size, 0, none⟩) HZ1.out HNF.out).trans d0, (hkp6.cell (p := ⟨wr.heap.size, 1, none⟩) HZ1.out HNF.out).trans d1, (hkp6.cell (p := ⟨wr.heap.size, 2, none⟩) HZ1.out HNF.out).trans d2, (hkp6.cell (p := ⟨pbk, j, none⟩) HP1.out.lt (HP1.out.q j hj)).trans d3⟩
          clear hK K
          (try simp only [Act.put, List.setIfInBounds_toArray, List.set_cons_zero, List.set_cons_succ])
          refine heldTake 18 (v := ?_) (by simp only [List.getElem?_toArray, List.getElem?_cons_succ, List.getElem?_cons_zero]; rfl) (by kernel_rfl) (by intro _ _ _ h; exact h) (by rfl) (by assumption) ?_ ?_
          rotate_left
          · intro W hSw; (try dsimp only at hSw); go_simp; try with_reducible rfl
          simp only [Act.put, List.setIfInBounds_toArray, List.set_cons_zero, List.set_cons_succ]
          refine heldTake 19 (v := ?_) (by simp only [List.getElem?_toArray, List.getElem?_cons_succ, List.getElem?_cons_zero]; rfl) (by kernel_rfl) (by intro _ _ _ h; exact h) (by rfl) (by assumption) ?_ ?_
          rotate_left
          · intro W hSw; (try dsimp only at hSw); go_simp; try with_reducible rfl
          simp only [Act.put, List.setIfInBounds_toArray, List.set_cons_zero, List.set_cons_succ]
          refine heldDone (by kernel_rfl) ?_ _
          have hz1 : w.heap.size ≤ (wr.alloc (.cells #[.string xk, .int .u16 xa, .int .u16 xn] 31)).drew.heap.size := by simp; omega
          have hP6 := HP1.out.set hj hz1 ho6 ⟨hkp6, hft6⟩
          have hb6 : Below w.heap.size w w6 := (hb.trans (hbX.mono hz)).trans (hkp6.toBelow hz1 (HP1.out.b j hj))
          go_wp2
          go_roundg (gk - 1)
          case measure => have := HK.out; omega
          case rel => exact ⟨k + 1, _, _, _, by go_num, Lib.hid (by have := HK.out; omega), hP6, by rw [HX.out]; exact dealt_snoc HD.out hj, set3_all (P := fun z => z ≤ ((k + 1 : Nat) : Int)) (by omega) (fun i hi => by have := HN.out i hi; omega), set3_len (P := fun z => z ≤ ((k + 1 : Nat) : Int)) (by simp; omega) (fun i hi => by have := HH.out i hi; omega), hb6⟩
      · have hD' : DealtFrom (1 + hu8) 0 H l := fun key now _ => by
          have := hD key (fun a => wtV (now - a) (1 + hu8))
          rwa [List.take_of_length_le (by omega)] at this
        have HD := Lib.hid hD'
        have HP := Lib.hid hP
        have HN : Hid (∀ i, i < 3 → n i ≤ 60) := Lib.hid (fun i hi => by have := hn i hi; omega)
        have HH : Hid (∀ i, i < 3 → ((H i).length : Int) ≤ 60) := Lib.hid (fun i hi => by have := hH i hi; omega)
        clear hD hD' hP hn hH HK
        generalize wr = wB at *
        go_wp2_with fail
        go_loopg [15, 82] ts.length (Td2 w (1 + hu8) cf pbk l ts)
        case atStart => exact ⟨0, 0, F, H, n, rfl, rfl, Lib.hid (by simp), HP.out, HD.out, by omega, HN.out, HH.out, hb⟩
        case round =>
          clear HP HD HN HH hb hz
          obtain ⟨k2, last, F, H, n, rfl, rfl, HK, hP, hD, ⟨la0, la1⟩, hn, hH, hb⟩ := hrel
          have hz := hb.size
          have hkl' : (k2 : Int) ≤ (ts.length : Int) := by have := HK.out; omega
          by_cases hk2 : (k2 : Int) < (ts.length : Int)
          · have hkl : k2 < ts.length := by omega
            obtain ⟨b, o, rfl, hbl, d0⟩ := (ht.below hb).one hkl
            obtain ⟨t0, t1⟩ := ht.2 _ (List.getElem_mem hkl)
            have HD := Lib.hid hD
            have HP := Lib.hid hP
            have HN := Lib.hid hn
            have HH := Lib.hid hH
            obtain ⟨j, hj, hjm⟩ := mod3 k2
            have hj3 : (j : Int) < 3 := by omega
            have d3 := hP.p j hj
            clear hD hn hH hP
            generalize ts[k2] = t at *
            go_wp2_with fail
            refine (dtrim_o (cf j) (F j) (1 + hu8) (n j) (H j) t _ (HP.out.o j hj) (by omega) (by omega) (by have := HH.out j hj; omega)).mono ?_
            rintro e w6 ⟨⟨m, rfl⟩, F6, ho6, hu6⟩
            have hP6 := Lib.hid (HP.out.set hj hz ho6 hu6)
            have hb6 : Below w.heap.size w w6 := hu6.belowB hb (Nat.le_refl _) (HP.out.b j hj)
            go_wp2
            go_roundg (ts.length - (k2 + 1))
            case measure => have := HK.out; omega
            case rel => exact ⟨k2 + 1, max last t, _, _, _, rfl, by go_num, Lib.hid (by have := HK.out; omega), hP6.out, dealt_trim (by omega) HD.out hj, by omega, set3_all (P := fun z => z ≤ 60) (HN.out j hj) HN.out, set3_len (P := fun z => z ≤ 60) (filter_len_le (HH.out j hj)) HH.out, hb6⟩
          · have hk3 : ¬ (k2 : Int) < (ts.length : Int) := hk2
            have HD := Lib.hid hD
            have HN := Lib.hid hn
            clear hD hn hH HK
            generalize wr = wC at *
            have hbX : Below wC.heap.size wC wC.drew := (Below.refl _ _).drew
            have hP1 := hP.grow hbX
            have d0 := hP1.p 0 (by omega)
            have d1 := hP1.p 1 (by omega)
            have d2 := hP1.p 2 (by omega)
            have HP1 := Lib.hid hP1
            have hn0 := HN.out 0 (by omega)
            have hn1 := HN.out 1 (by omega)
            have hn2 := HN.out 2 (by omega)
            have hzC : w.heap.size ≤ wC.drew.heap.size := hz
            have hbC : Below w.heap.size w wC.drew := hb.drew
            clear hP hP1
            go_wp2_with fail
            refine heldStart 18 (S := fun W => W.cell? ⟨pbk, 0, none⟩ = some (.pointer (some ⟨cf 0, 0, none⟩)) ∧ W.cell? ⟨pbk, 1, none⟩ = some (.pointer (some ⟨cf 1, 0, none⟩)) ∧ W.cell? ⟨pbk, 2, none⟩ = some (.pointer (some ⟨cf 2, 0, none⟩))) (by kernel_rfl) ?_ (fun hHeld => ?_)
            · first | exact ⟨d0, d1, d2⟩ | exact ⟨HP6.out.p 0 (by omega), HP6.out.p 1 (by omega), HP6.out.p 2 (by omega)⟩ | exact ⟨HP7.out.p 0 (by omega), HP7.out.p 1 (by omega), HP7.out.p 2 (by omega)⟩
            refine heldTake 0 (v := ?_) (by simp only [List.getElem?_toArray, List.getElem?_cons_succ, List.getElem?_cons_zero]; rfl) (by kernel_rfl) (by intro _ _ _ h; exact h) (by rfl) (by assumption) ?_ ?_
            rotate_left
            · intro W hSw; (try dsimp only at hSw); go_simp; try with_reducible rfl
            simp only [Act.put, List.setIfInBounds_toArray, List.set_cons_zero, List.set_cons_succ]
            refine heldTake 1 (v := ?_) (by simp only [List.getElem?_toArray, List.getElem?_cons_succ, List.getElem?_cons_zero]; rfl) (by kernel_rfl) (by intro _ _ _ h; exact h) (by rfl) (by assumption) ?_ ?_
            rotate_left
            · intro W hSw; (try dsimp only at hSw); go_simp; try with_reducible rfl
            simp only [Act.put, List.setIfInBounds_toArray, List.set_cons_zero, List.set_cons_succ]
            refine heldTake 2 (v := ?_) (by simp only [List.getElem?_toArray, List.getElem?_cons_succ, List.getElem?_cons_zero]; rfl) (by kernel_rfl) (by intro _ _ _ h; exact h) (by rfl) (by assumption) ?_ ?_
            rotate_left
            · intro W hSw; (try dsimp only at hSw); go_simp; try with_reducible rfl
            simp only [Act.put, List.setIfInBounds_toArray, List.set_cons_zero, List.set_cons_succ]
            refine heldTake 3 (v := ?_) (by simp only [List.getElem?_toArray, List.getElem?_cons_succ, List.getElem?_cons_zero]; rfl) (by kernel_rfl) (by intro _ _ _ h; exact h) (by rfl) (by assumption) ?_ ?_
            rotate_left
            · intro W hSw; (try dsimp only at hSw); go_simp; try with_reducible rfl
            simp only [Act.put, List.setIfInBounds_toArray, List.set_cons_zero, List.set_cons_succ]
            refine heldTake 4 (v := ?_) (by simp only [List.getElem?_toArray, List.getElem?_cons_succ, List.getElem?_cons_zero]; rfl) (by kernel_rfl) (by intro _ _ _ h; exact h) (by rfl) (by assumption) ?_ ?_
            rotate_left
            · intro W hSw; (try dsimp only at hSw); go_simp; try with_reducible rfl
            simp only [Act.put, List.setIfInBounds_toArray, List.set_cons_zero, List.set_cons_succ]
            refine heldTake 5 (v := ?_) (by simp only [List.getElem?_toArray, List.getElem?_cons_succ, List.getElem?_cons_zero]; rfl) (by kernel_rfl) (by intro _ _ _ h; exact h) (by rfl) (by assumption) ?_ ?_
            rotate_left
            · intro W hSw; (try dsimp only at hSw); go_simp; try with_reducible rfl
            simp only [Act.put, List.setIfInBounds_toArray, List.set_cons_zero, List.set_cons_succ]
            refine heldCall 6 (by simp only [List.getElem?_toArray, List.getElem?_cons_succ, List.getElem?_cons_zero]; rfl) (by kernel_rfl) (fun K hK => ?_)
            go_simp
            refine (dmerge_o (cf 1) (cf 2) (F 1) (F 2) (1 + hu8) (n 1) (n 2) (H 1) (H 2) _ (HP1.out.o 1 (by omega)) (HP1.out.o 2 (by omega)) (HP1.out.ap 1 2 (by omega) (by omega) (by omega)) (by omega)).mono ?_
            rintro e w6 ⟨rfl, F6, ho6, hu6⟩
            have HP6 := Lib.hid (HP1.out.set (j := 1) (by omega) hzC ho6 hu6)
            have hb6 : Below w.heap.size w w6 := hu6.belowB hbC (Nat.le_refl _) (HP1.out.b 1 (by omega))
            have HO6 := Lib.hid ho6
            clear ho6 hu6
            go_wp2_with fail
            refine hK.out _ _ ?_ (fun hHeld => ?_)
            · first | exact ⟨d0, d1, d2⟩ | exact ⟨HP6.out.p 0 (by omega), HP6.out.p 1 (by omega), HP6.out.p 2 (by omega)⟩ | exact ⟨HP7.out.p 0 (by omega), HP7.out.p 1 (by omega), HP7.out.p 2 (by omega)⟩
            clear hK K
            (try simp only [Act.put, List.setIfInBounds_toArray, List.set_cons_zero, List.set_cons_succ])
            refine heldTake 7 (v := ?_) (by simp only [List.getElem?_toArray, List.getElem?_cons_succ, List.getElem?_cons_zero]; rfl) (by kernel_rfl) (by intro _ _ _ h; exact h) (by rfl) (by assumption) ?_ ?_
            rotate_left
            · intro W hSw; (try dsimp only at hSw); go_simp; try with_reducible rfl
            simp only [Act.put, List.setIfInBounds_toArray, List.set_cons_zero, List.set_cons_succ]
            refine heldTake 8 (v := ?_) (by simp only [List.getElem?_toArray, List.getElem?_cons_succ, List.getElem?_cons_zero]; rfl) (by kernel_rfl) (by intro _ _ _ h; exact h) (by rfl) (by assumption) ?_ ?_
            rotate_left
            · intro W hSw; (try dsimp only at hSw); go_simp; try with_reducible rfl
            simp only [Act.put, List.setIfInBounds_toArray, List.set_cons_zero, List.set_cons_succ]
            refine heldTake 9 (v := ?_) (by simp only [List.getElem?_toArray, List.getElem?_cons_succ, List.getElem?_cons_zero]; rfl) (by kernel_rfl) (by intro _ _ _ h; exact h) (by rfl) (by assumption) ?_ ?_
            rotate_left
            · intro W hSw; (try dsimp only at hSw); go_simp; try with_reducible rfl
            simp only [Act.put, List.setIfInBounds_toArray, List.set_cons_zero, List.set_cons_succ]
            refine heldTake 10 (v := ?_) (by simp only [List.getElem?_toArray, List.getElem?_cons_succ, List.getElem?_cons_zero]; rfl) (by kernel_rfl) (by intro _ _ _ h; exact h) (by rfl) (by assumption) ?_ ?_
            rotate_left
            · intro W hSw; (try dsimp only at hSw); go_simp; try with_reducible rfl
            simp only [Act.put, List.setIfInBounds_toArray, List.set_cons_zero, List.set_cons_succ]
            refine heldTake 11 (v := ?_) (by simp only [List.getElem?_toArray, List.getElem?_cons_succ, List.getElem?_cons_zero]; rfl) (by kernel_rfl) (by intro _ _ _ h; exact h) (by rfl) (by assumption) ?_ ?_
            rotate_left
            · intro W hSw; (try dsimp only at hSw); go_simp; try with_reducible rfl
            simp only [Act.put, List.setIfInBounds_toArray, List.set_cons_zero, List.set_cons_succ]
            refine heldTake 12 (v := ?_) (by simp only [List.getElem?_toArray, List.getElem?_cons_succ, List.getElem?_cons_zero]; rfl) (by kernel_rfl) (by intro _ _ _ h; exact h) (by rfl) (by assumption) ?_ ?_
            rotate_left
            · intro W hSw; (try dsimp only at hSw); go_simp; try with_reducible rfl
            simp only [Act.put, List.setIfInBounds_toArray, List.set_cons_zero, List.set_cons_succ]
            refine heldTake 13 (v := ?_) (by simp only [List.getElem?_toArray, List.getElem?_cons_succ, List.getElem?_cons_zero]; rfl) (by kernel_rfl) (by intro _ _ _ h; exact h) (by rfl) (by assumption) ?_ ?_
            rotate_left
            · intro W hSw; (try dsimp only at hSw); go_simp; try with_reducible rfl
            simp only [Act.put, List.setIfInBounds_toArray, List.set_cons_zero, List.set_cons_succ]
            refine heldTake 14 (v := ?_) (by simp only [List.getElem?_toArray, List.getElem?_cons_succ, List.getElem?_cons_zero]; rfl) (by kernel_rfl) (by intro _ _ _ h; exact h) (by rfl) (by assumption) ?_ ?_
            rotate_left
            · intro W hSw; (try dsimp only at hSw); go_simp; try with_reducible rfl
            simp only [Act.put, List.setIfInBounds_toArray, List.set_cons_zero, List.set_cons_succ]
            refine heldCall 15 (by simp only [List.getElem?_toArray, List.getElem?_cons_succ, List.getElem?_cons_zero]; rfl) (by kernel_rfl) (fun K hK => ?_)
            go_simp
            refine (dmerge_o (cf 0) (cf 1) (F 0) F6 (1 + hu8) (n 0) (n 1 + n 2) (H 0) (H 1 ++ H 2) _ (HP6.out.o 0 (by omega)) HO6.out (HP6.out.ap 0 1 (by omega) (by omega) (by omega)) (by omega)).mono ?_
            rintro e w7 ⟨rfl, F7, ho7, hu7⟩
            have HP7 := Lib.hid (HP6.out.set (j := 0) (by omega) hb6.size ho7 hu7)
            have hb7 : Below w.heap.size w w7 := hu7.belowB hb6 (Nat.le_refl _) (HP6.out.b 0 (by omega))
            have HO7 := Lib.hid ho7
            clear ho7 hu7
            go_wp2_with fail
            refine hK.out _ _ ?_ (fun hHeld => ?_)
            · first | exact ⟨d0, d1, d2⟩ | exact ⟨HP6.out.p 0 (by omega), HP6.out.p 1 (by omega), HP6.out.p 2 (by omega)⟩ | exact ⟨HP7.out.p 0 (by omega), HP7.out.p 1 (by omega), HP7.out.p 2 (by omega)⟩
            clear hK K
            (try simp only [Act.put, List.setIfInBounds_toArray, List.set_cons_zero, List.set_cons_succ])
            refine heldTake 16 (v := ?_) (by simp only [List.getElem?_toArray, List.getElem?_cons_succ, List.getElem?_cons_zero]; rfl) (by kernel_rfl) (by intro _ _ _ h; exact h) (by rfl) (by assumption) ?_ ?_
            rotate_left
            · intro W hSw; (try dsimp only at hSw); go_simp; try with_reducible rfl
            simp only [Act.put, List.setIfInBounds_toArray, List.set_cons_zero, List.set_cons_succ]
            refine heldTake 17 (v := ?_) (by simp only [List.getElem?_toArray, List.getElem?_cons_succ, List.getElem?_cons_zero]; rfl) (by kernel_rfl) (by intro _ _ _ h; exact h) (by rfl) (by assumption) ?_ ?_
            rotate_left
            · intro W hSw; (try dsimp only at hSw); go_simp; try with_reducible rfl
            simp only [Act.put, List.setIfInBounds_toArray, List.set_cons_zero, List.set_cons_succ]
            refine heldDone (by kernel_rfl) ?_ _
            have HO : Hid (DecObj w7 (cf 0) F7 (1 + hu8) (n 0 + (n 1 + n 2)) (H 0 ++ (H 1 ++ H 2))) := HO7
            have e0 := HP7.out.p 0 (by omega)
            have hpl := HP7.out.lt
            have HV : Hid (∀ now, last ≤ now → histSum (fun a => wtV (now - a) (1 + hu8)) key (H 0 ++ (H 1 ++ H 2)) = histSum (fun a => wtV (now - a) (1 + hu8)) key l) := Lib.hid (fun now hn => by
              have := HD.out key now hn
              rw [histSum_append, histSum_append]
              omega)
            clear HP7 HP6 HO6 HO7 HP1 HD HN d0 d1 d2 hn0 hn1 hn2 hb6 hbC hzC hbX hb hz
            generalize n 0 + (n 1 + n 2) = cnt at *
            generalize H 0 ++ (H 1 ++ H 2) = hist at *
            generalize cf 0 = cb at *
            have hz7 := hb7.size
            have hnow : ∃ now : Int, now = last + more := ⟨_, rfl⟩
            obtain ⟨now, hnow⟩ := hnow
            have HV' := Lib.hid (HV.out now (by omega))
            have now0 : 0 ≤ now := by omega
            have now1 : now ≤ 131070 := by omega
            go_wp2_with fail
            rw [← hnow]
            clear HV hnow
            go_loopg [19, 124] l.length (Td3 w (1 + hu8) now key cb pbk F7 cnt hist l)
            case atStart => exact ⟨0, 0, rfl, rfl, Lib.hid (by simp), Lib.hid (by simp [histSum]), by omega, HO.out, e0, hpl, hb7⟩
            case round =>
              clear HO e0 hpl hb7 hz7
              obtain ⟨k3, s, rfl, rfl, HK, HS, ⟨s0, s1⟩, hO, e0, hpl, hb⟩ := hrel
              have hz := hb.size
              have hkl' : (k3 : Int) ≤ (l.length : Int) := by have := HK.out; omega
              by_cases hk3 : (k3 : Int) < (l.length : Int)
              · have hkl : k3 < l.length := by omega
                obtain ⟨b, o, rfl, hbl, d0, d1, d2⟩ := (h.below hb).one hkl
                have hx : l.take (k3 + 1) = l.take k3 ++ [l[k3]] := by simp
                have hok := h.2 _ (List.getElem_mem hkl)
                have HX := Lib.hid hx
                clear hx
                generalize l[k3] = x at *
                obtain ⟨xk, xa, xn⟩ := x
                obtain ⟨k1, ⟨a0, a1⟩, n0, n1⟩ := hok
                simp only at *
                have hbX : Below wr.heap.size wr (wr.alloc (.cells #[.string xk, .int .u16 xa, .int .u16 xn] 31)) := (Below.refl _ _).alloc (Nat.le_refl _) _
                have HO3 := Lib.hid (hO.below hbX)
                have HE3 := Lib.hid ((hbX.cell (p := ⟨pbk, 0, none⟩) hpl).trans e0)
                have HPL3 := Lib.hid (Nat.lt_of_lt_of_le hpl hbX.size)
                have HB3 := Lib.hid (hb.trans (hbX.mono hz))
                clear hbX hO
                by_cases hkk : xk = key
                · subst hkk
                  have heq : (xk.toList == xk.toList) = true := by simp
                  by_cases hlate : now < xa
                  · have HSN : Hid (s = histSum (fun a => wtV (now - a) (1 + hu8)) xk (l.take (k3 + 1))) := Lib.hid (by rw [HX.out, histSum_skip (f := fun a => wtV (now - a) (1 + hu8)) (.inr (wt_late hlate))]; exact HS.out)
                    go_wp2
                    go_roundg (l.length - (k3 + 1))
                    case measure => have := HK.out; omega
                    case rel => exact ⟨k3 + 1, s, rfl, by go_num, Lib.hid (by have := HK.out; omega), HSN, by constructor <;> omega, HO3.out, HE3.out, HPL3.out, HB3.out⟩
                  · have hh : ¬ 1 + hu8 = 0 := by omega
                    obtain ⟨Q, hQ⟩ : ∃ Q : Nat, (now - xa).tdiv (1 + hu8) = (Q : Int) := ⟨((now - xa).tdiv (1 + hu8)).toNat, (Int.toNat_of_nonneg (Int.tdiv_nonneg (by omega) (by omega))).symm⟩
                    have hQ2 : (now - xa) / (1 + hu8) = (Q : Int) := by rw [← hQ, Int.tdiv_eq_ediv_of_nonneg (by omega)]
                    have hQb : (Q : Int) ≤ 131070 := by
                      rw [← hQ2]
                      have := Int.ediv_le_self (1 + hu8) (show 0 ≤ now - xa by omega)
                      omega
                    have HWT : Hid (wtV (now - xa) (1 + hu8) = 1048576 / 2 ^ Q) := Lib.hid (by rw [half_wt (by omega) (by omega), hQ2]; rfl)
                    clear hQ2
                    generalize wr = wD at *
                    go_wp2_with fail
                    go_loopg [22, 23] Q (Td4 (wD.alloc (.cells #[.string xk, .int .u16 xa, .int .u16 xn] 31)) Q)
                    case atStart => exact ⟨0, 1048576, rfl, by rfl, Lib.hid (by simp), Lib.hid (by simp), by omega, rfl⟩
                    case round =>
                      obtain ⟨m, x, rfl, rfl, HM, HXX, ⟨x0, x1⟩, rfl⟩ := hrel
                      by_cases hg0 : 0 < (gk : Int)
                      · by_cases hx0 : 0 < x
                        · have hxt : x.tdiv 2 = x / 2 := Int.tdiv_eq_ediv_of_nonneg (by omega)
                          have HY : Hid (x / 2 = 1048576 / 2 ^ (m + 1)) := Lib.hid (by rw [HXX.out, half_pow])
                          have HG1 : Hid (m + 1 + (gk - 1) = Q) := Lib.hid (by have := HM.out; omega)
                          have HG2 : Hid (((gk - 1 : Nat) : Int) = (gk : Int) - 1) := Lib.hid (by omega)
                          have hgb : (gk : Int) ≤ 131070 := by have := HM.out; omega
                          have y0 : 0 ≤ x / 2 := by omega
                          have y1 : x / 2 ≤ 1048576 := by omega
                          generalize x / 2 = y at *
                          go_wp2
                          go_roundg (gk - 1)
                          case measure => omega
                          case rel => exact ⟨m + 1, y, by rfl, by rw [HG2.out], HG1, HY, by omega, rfl⟩
                        · have hxv : 1048576 / 2 ^ Q = x := by
                            have hz0 : x = 0 := by omega
                            have := HXX.out
                            rw [hz0] at this
                            rw [hz0, ← HM.out]
                            exact half_zero this.symm
                          have hmul : 0 ≤ xn * x ∧ xn * x ≤ 68718428160 := by
                            refine ⟨Int.mul_nonneg (by omega) (by omega), ?_⟩
                            have := Int.mul_le_mul (show xn ≤ 65535 by omega) (show x ≤ 1048576 by omega) (by omega) (by omega)
                            omega
                          obtain ⟨p0, p1⟩ := hmul
                          have HSN : Hid (s + xn * x = histSum (fun a => wtV (now - a) (1 + hu8)) xk (l.take (k3 + 1))) := Lib.hid (by
                            rw [HX.out, histSum_snoc, ← HS.out]
                            unfold histN
                            rw [if_pos rfl]
                            show s + xn * x = s + xn * wtV (now - xa) (1 + hu8)
                            rw [HWT.out, hxv])
                          clear hxv
                          go_wp2
                          go_roundg (l.length - (k3 + 1))
                          case measure => have := HK.out; omega
                          case rel => exact ⟨k3 + 1, _, rfl, by go_num, Lib.hid (by have := HK.out; omega), HSN, by constructor <;> omega, HO3.out, HE3.out, HPL3.out, HB3.out⟩
                      · have hxv : 1048576 / 2 ^ Q = x := by
                          have hm : m = Q := by have := HM.out; omega
                          rw [HXX.out, hm]
                        have hmul : 0 ≤ xn * x ∧ xn * x ≤ 68718428160 := by
                          refine ⟨Int.mul_nonneg (by omega) (by omega), ?_⟩
                          have := Int.mul_le_mul (show xn ≤ 65535 by omega) (show x ≤ 1048576 by omega) (by omega) (by omega)
                          omega
                        obtain ⟨p0, p1⟩ := hmul
                        have HSN : Hid (s + xn * x = histSum (fun a => wtV (now - a) (1 + hu8)) xk (l.take (k3 + 1))) := Lib.hid (by
                          rw [HX.out, histSum_snoc, ← HS.out]
                          unfold histN
                          rw [if_pos rfl]
                          show s + xn * x = s + xn * wtV (now - xa) (1 + hu8)
                          rw [HWT.out, hxv])
                        clear hxv
                        go_wp2
                        go_roundg (l.length - (k3 + 1))
                        case measure => have := HK.out; omega
                        case rel => exact ⟨k3 + 1, _, rfl, by go_num, Lib.hid (by have := HK.out; omega), HSN, by constructor <;> omega, HO3.out, HE3.out, HPL3.out, HB3.out⟩
                · have heq : (xk.toList == key.toList) = false := by rw [str_beq]; simp [hkk]
                  have HSN : Hid (s = histSum (fun a => wtV (now - a) (1 + hu8)) key (l.take (k3 + 1))) := Lib.hid (by rw [HX.out, histSum_skip (.inl hkk)]; exact HS.out)
                  go_wp2
                  go_roundg (l.length - (k3 + 1))
                  case measure => have := HK.out; omega
                  case rel => exact ⟨k3 + 1, s, rfl, by go_num, Lib.hid (by have := HK.out; omega), HSN, by constructor <;> omega, HO3.out, HE3.out, HPL3.out, HB3.out⟩
              · have hval : cntV (1 + hu8) hist key now = s := by
                  unfold cntV
                  rw [if_neg (by omega), HV'.out, HS.out, List.take_of_length_le (by omega)]
                have HVAL := Lib.hid hval
                have HO := Lib.hid hO
                clear hval hO HK HS
                go_wp2_with fail
                refine (dat_any cb F7 (1 + hu8) cnt hist key now _ HO.out hkey (by omega)).mono ?_
                rintro e w9 ⟨rfl, hb9⟩
                rw [HVAL.out]
                go_wp2
                go_ret
                exact ⟨ret_bool (by simp), hb.trans (hb9.mono hz)⟩
  · go_enter Try.func3, Try.ntmps3
    go_wp2_with fail
    refine (counts_any _).mono ?_
    rintro e w1 ⟨rfl, hb1⟩
    have z1 := hb1.size
    go_wp2_with fail
    refine (few_any A c l w1 ⟨(h.1.below hb1).more z1, h.2⟩ hl).mono ?_
    rintro e w2 ⟨rfl, hb2⟩
    have hbw2 : Below w.heap.size w w2 := hb1.trans (hb2.mono z1)
    have z2 := hbw2.size
    clear hb1 hb2 z1
    have HG := Lib.hid hg
    clear hg
    by_cases hfw : fewB l = true
    · rw [hfw]
      by_cases ht10 : (ts.length : Int) ≤ 10
      · have hk24 : 24 < (key.size : Int) := by
          have := HG.out
          rcases Int.lt_or_le 24 (key.size : Int) with h1 | h1
          · exact h1
          · exact absurd ⟨hfw, ht10, h1⟩ this
        have g1 : ¬ 10 < (ts.length : Int) := by omega
        have g3 : ¬ (key.size : Int) ≤ 24 := by omega
        clear hfw
        go_wp2_with fail
        refine (counts_any _).mono ?_
        rintro e w3 ⟨rfl, hb3⟩
        go_wp2
        go_ret
        exact ⟨rfl, hbw2.trans (hb3.mono z2)⟩
      · have g1 : 10 < (ts.length : Int) := by omega
        clear hfw
        go_wp2_with fail
        refine (counts_any _).mono ?_
        rintro e w3 ⟨rfl, hb3⟩
        go_wp2
        go_ret
        exact ⟨rfl, hbw2.trans (hb3.mono z2)⟩
    · rw [show fewB l = false by simpa using hfw]
      clear hfw
      go_wp2_with fail
      refine (counts_any _).mono ?_
      rintro e w3 ⟨rfl, hb3⟩
      go_wp2
      go_ret
      exact ⟨rfl, hbw2.trans (hb3.mono z2)⟩
end Go.Proofs.Ytmigjlceogofaaa
