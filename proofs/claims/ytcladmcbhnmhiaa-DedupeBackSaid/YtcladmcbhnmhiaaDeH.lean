/- Contract of dedupe.number at bytes that putNumber has put. -/
import Derived.Test.YtcladmcbhnmhiaaDeG
import Derived.OwnWalk
namespace Go.Proofs.Ytcladmcbhnmhiaa
open Go.ChangeShapes Go.WideShapes Go.ChangeAt Go.RowKit Go.Shelf Go.Lib Go.Sort Go.Proofs
set_option linter.unusedVariables false
set_option linter.unusedSimpArgs false

/-- Bytes read at a place. -/
structure BySl (w : World) (b o c : Nat) (l : List UInt8) : Prop where
  cells : ∀ j (hj : j < l.length), w.cell? ⟨b, o + j, none⟩ = some (.int .u8 ((l[j]).toNat : Int))
  cap : l.length ≤ c
  lt : b < w.heap.size
theorem BySl.below {w w' : World} {b o c : Nat} {l : List UInt8} (h : BySl w b o c l) (hb : Below w.heap.size w w') : BySl w' b o c l :=
  ⟨fun j hj => (hb.cell (p := ⟨b, o + j, none⟩) h.lt).trans (h.cells j hj), h.cap, Nat.lt_of_lt_of_le h.lt hb.size⟩
def dropO (c k o : Nat) : Nat := if c = k then o else o + k
theorem BySl.drop {w : World} {b o c : Nat} {l : List UInt8} (h : BySl w b o c l) {k : Nat} (hk : k ≤ l.length) : BySl w b (dropO c k o) (c - k) (l.drop k) := by
  refine ⟨fun j hj => ?_, ?_, h.lt⟩
  · rw [List.length_drop] at hj
    have hc := h.cap
    unfold dropO
    rw [if_neg (by omega)]
    have := h.cells (k + j) (by omega)
    rw [← Nat.add_assoc] at this
    rw [this, List.getElem_drop]
  · rw [List.length_drop]
    have hc := h.cap
    omega
theorem slice_at (b o c k : Nat) : (if c = k then (some ⟨b, o, none⟩ : Option Addr) else some ⟨b, o + k, none⟩) = some ⟨b, dropO c k o, none⟩ := by
  unfold dropO
  split <;> rfl

theorem and127 (y : Nat) (h : y < 256) : bits BinOp.and IntKind.u8 (y : Int) 127 = ((y % 128 : Nat) : Int) := and127_fin ⟨y, h⟩
theorem big_facts (c d : Nat) (h : d < 128) (hc : c = 128 + d) : ((c : Int) == 0) = false ∧ ¬ ((c : Int) < 128) ∧ decide ((c : Int) < 128) = false ∧ bits BinOp.and IntKind.u8 (c : Int) 127 = (d : Int) := by
  have h2 : ¬ ((c : Int) < 128) := by omega
  refine ⟨by rw [beq_eq_false_iff_ne]; omega, h2, decide_eq_false h2, ?_⟩
  have h0 := and127 c (by omega)
  rw [h0, hc, Nat.add_mod_left, Nat.mod_eq_of_lt h]
theorem numB_ne (n : Nat) : numB n ≠ [] := by
  rw [numB]
  split <;> simp
theorem first_at {l m : List UInt8} {i : Nat} {u : UInt8} (hi : i < l.length) (hd : l.drop i = u :: m) : l[i] = u ∧ l.drop (i + 1) = m := by
  rw [List.drop_eq_getElem_cons hi] at hd
  injection hd with h1 h2
  exact ⟨h1, h2⟩
theorem first_small {l rest : List UInt8} {i y : Nat} (hi : i < l.length) (hd : l.drop i = numB y ++ rest) (hy : y < 128) : (l[i]).toNat = y ∧ l.drop (i + 1) = rest := by
  rw [numB_small hy] at hd
  obtain ⟨h1, h2⟩ := first_at hi hd
  refine ⟨?_, h2⟩
  rw [h1]
  simp
  omega
theorem first_big {l rest : List UInt8} {i y : Nat} (hi : i < l.length) (hd : l.drop i = numB y ++ rest) (hy : ¬ y < 128) : (l[i]).toNat = 128 + y % 128 ∧ l.drop (i + 1) = numB (y / 128) ++ rest := by
  rw [numB, dif_neg hy] at hd
  obtain ⟨h1, h2⟩ := first_at hi hd
  refine ⟨?_, h2⟩
  rw [h1]
  simp
  omega
def NumNew (w : World) (b n : Nat) (rest : List UInt8) (e : Ending) (w' : World) : Prop :=
  ∃ o' c', e = .returned (.tuple #[.int .i64 n, .slice (some ⟨b, o', none⟩) (List.length rest) c', .int .i64 0]) ∧ BySl w' b o' c' rest ∧ Below w.heap.size w w' ∧ c' ≤ maxLen
set_option maxHeartbeats 16000000 in
set_option maxRecDepth 100000 in
theorem dnum_any (b o c n : Nat) (l rest : List UInt8) (w : World) (h : BySl w b o c l) (hl : l = numB n ++ rest) (hn : n < 4398046511104) (hc : c ≤ maxLen) :
    Calls Try.prog 38 #[.slice (some ⟨b, o, none⟩) l.length c] w (NumNew w b n rest) := by
  have H := Lib.hid h
  have HLE := Lib.hid hl
  have hcap := h.cap
  have h6 : (numB n).length ≤ 6 := numB_le6 hn
  have hll : l.length = (numB n).length + rest.length := by rw [hl, List.length_append]
  have hlc : (l.length : Int) ≤ (c : Int) := by omega
  have HLL := Lib.hid (And.intro hll h6)
  clear h hl hll h6 hcap
  go_enter Try.func38, Try.ntmps38
  go_wp2_with fail
  go_loopg [5, 8] 6 (fun left s5 s8 wr => ∃ (i y acc : Nat), s8 = .int .i64 i ∧ s5 = .int .i64 acc ∧ Hid (i + left = 6) ∧ Hid (l.drop i = numB y ++ rest) ∧ Hid (y = n / 128 ^ i ∧ acc = n % 128 ^ i) ∧ Hid (0 < i → 0 < y) ∧ w = wr)
  case atStart => exact ⟨0, n, 0, rfl, rfl, Lib.hid rfl, Lib.hid (by simpa using HLE.out), Lib.hid ⟨by simp, by simp [Nat.mod_one]⟩, Lib.hid (fun h => by omega), rfl⟩
  case round =>
    obtain ⟨i, y, acc, rfl, rfl, HI, HD, HY, HP, rfl⟩ := hrel
    have hdl := congrArg List.length HD.out
    rw [List.length_drop, List.length_append] at hdl
    have hyn : 0 < (numB y).length := List.length_pos_iff.2 (numB_ne y)
    have hil : i < l.length := by omega
    have hi6 : i < 6 := by have := HLL.out.1; have := HLL.out.2; omega
    have hi6' : (i : Int) < 6 := by omega
    have hilI : (i : Int) < (l.length : Int) := by omega
    obtain ⟨d, hd⟩ : ∃ d, d = y % 128 := ⟨_, rfl⟩
    have hd128 : d < 128 := by omega
    obtain ⟨q, hq⟩ : ∃ q, q = 2 ^ (7 * i) * d := ⟨_, rfl⟩
    have hp7 : (128 : Nat) ^ i = 2 ^ (7 * i) := by rw [Nat.pow_mul]
    have hms : n % 128 ^ (i + 1) = q + acc := by
      rw [Nat.mod_pow_succ, ← HY.out.1, ← HY.out.2, ← hd, hq, ← hp7]
      omega
    have hpb : (2 : Nat) ^ (7 * i) ≤ 2 ^ 35 := Nat.pow_le_pow_right (by omega) (by omega)
    have hqb : q ≤ 2 ^ 35 * 127 := by rw [hq]; exact Nat.mul_le_mul hpb (by omega)
    have hacc : acc < 2 ^ (7 * i) := by rw [HY.out.2, hp7]; exact Nat.mod_lt _ (Nat.pos_of_ne_zero (by simp))
    have hor : bits BinOp.or IntKind.i64 (acc : Int) (q : Int) = ((q + acc : Nat) : Int) := by
      rw [hq]
      exact or_low hacc (by rw [← hq]; omega)
    obtain ⟨acc2, hacc2⟩ : ∃ a, a = q + acc := ⟨_, rfl⟩
    rw [← hacc2] at hor hms
    have hsh : wrap64 ((d : Int) * 2 ^ (7 * i)) = (q : Int) := by
      have e2 : ((2 ^ (7 * i) * d : Nat) : Int) = (d : Int) * 2 ^ (7 * i) := by push_cast; rw [Int.mul_comm]
      rw [hq, ← e2, ← hq]
      unfold wrap64
      omega
    have hw7 : wrap64 (7 * (i : Int)) = 7 * (i : Int) := by unfold wrap64; omega
    have hs0 : (0 : Int) ≤ 7 * (i : Int) := by omega
    have hs1 : 7 * (i : Int) ≤ 64 := by omega
    have hwd : wrap64 (d : Int) = (d : Int) := by unfold wrap64; omega
    have HMS := Lib.hid hms
    have HSH := Lib.hid hsh
    have HOR := Lib.hid hor
    clear hsh hor
    have HACC := Lib.hid hacc2
    clear hq hp7 hpb hqb hacc hms hacc2
    by_cases hy : y < 128
    · obtain ⟨hget, hrest⟩ := first_small hil HD.out hy
      have hce := H.out.cells i hil
      rw [hget] at hce
      have hyd : d = y := by rw [hd]; exact Nat.mod_eq_of_lt hy
      have hany : n = acc2 := by
        rw [← HMS.out]
        have h0 : n / 128 ^ i < 128 := by rw [← HY.out.1]; exact hy
        have : n < 128 ^ (i + 1) := by
          rw [Nat.pow_succ]
          have h3 := (Nat.div_lt_iff_lt_mul (x := n) (k := 128 ^ i) (y := 128) (Nat.pos_of_ne_zero (by simp))).1 h0
          rw [Nat.mul_comm]
          exact h3
        rw [Nat.mod_eq_of_lt this]
      have hby : BySl w b (dropO c (i + 1) o) (c - (i + 1)) rest := by rw [← hrest]; exact H.out.drop (by omega)
      have hrl : rest.length = l.length - (i + 1) := by rw [← hrest, List.length_drop]
      have hfin : ∀ m, NumNew w b n rest (.returned (.tuple #[.int .i64 acc2, .slice (some ⟨b, dropO c (i + 1) o, none⟩) (l.length - (i + 1)) (c - (i + 1)), .int .i64 0])) (w.drewN m) := fun m => by
        rw [← hany, ← hrl]
        exact ⟨_, _, rfl, hby.below (below_drewN (Below.refl _ _) m), below_drewN (Below.refl _ _) m, Nat.le_trans (Nat.sub_le _ _) hc⟩
      have HFN := Lib.hid hfin
      have hy2 : (y : Int) < 128 := Int.ofNat_lt.2 hy
      have hsl := slice_at b o c (i + 1)
      have hyP := HP.out
      clear hfin hby hrest hany hget hyn hdl hyd HD HY HI hrl hn
      have hand : bits BinOp.and IntKind.u8 (y : Int) 127 = (d : Int) := by
        rw [hd]
        exact and127 y (Nat.lt_trans hy (by decide))
      have hsh := HSH.out
      have hor := HOR.out
      clear hd
      by_cases hy0 : y = 0
      · have hi0 : i = 0 := Nat.eq_zero_of_not_pos (fun h => absurd (hyP h) (by rw [hy0]; exact Nat.lt_irrefl 0))
        have hyn0 : ((y : Int) == 0) = true := by rw [hy0]; rfl
        have hi1 : ¬ ((0 : Int) < (i : Int)) := by rw [hi0]; exact Int.lt_irrefl 0
        have hi2 : decide ((0 : Int) < (i : Int)) = false := decide_eq_false hi1
        clear hy0 hi0 hyP
        go_wp2_with fail
        go_quiet (fail)
        all_goals go_wp2_with fail
        all_goals go_ret3
        all_goals exact HFN.out _
      · have hyn0 : ((y : Int) == 0) = false := by simpa using hy0
        go_wp2_with fail
        go_quiet (fail)
        all_goals go_wp2_with fail
        all_goals go_ret3
        all_goals exact HFN.out _
    · obtain ⟨hget, hrest⟩ := first_big hil HD.out hy
      have hce := H.out.cells i hil
      rw [hget] at hce
      have hyd : y % 128 = d := hd.symm
      rw [hyd] at hce
      have hy1 : n / 128 ^ (i + 1) = y / 128 := by rw [Nat.pow_succ, ← Nat.div_div_eq_div_mul, ← HY.out.1]
      have hyp : 0 < y / 128 := Nat.div_pos (Nat.not_lt.1 hy) (by decide)
      have HY2 : Hid (y / 128 = n / 128 ^ (i + 1) ∧ acc2 = n % 128 ^ (i + 1)) := Lib.hid ⟨hy1.symm, HMS.out.symm⟩
      clear hy1
      have HD2 := Lib.hid hrest
      have HP2 := Lib.hid (fun (_ : 0 < i + 1) => hyp)
      obtain ⟨cN, hcN⟩ : ∃ cN, cN = 128 + d := ⟨_, rfl⟩
      rw [← hcN] at hce
      obtain ⟨hz, h128, h128d, hand⟩ := big_facts cN d hd128 hcN
      have hsh := HSH.out
      have hor := HOR.out
      clear hyp hrest hget hyn hdl hcN hyd HD HY HP hn hy
      generalize y / 128 = y2 at *
      clear hd hd128
      go_wp2_with fail
      clear hand hsh hor
      go_roundg (gk - 1)
      case measure => have := HI.out; omega
      case rel => exact ⟨i + 1, y2, acc2, by go_num, rfl, Lib.hid (by have := HI.out; omega), HD2, HY2, HP2, rfl⟩
end Go.Proofs.Ytcladmcbhnmhiaa
