/- law14's example, its measure of rows, the reference's Same and Room; a heavy's bounds as an object. -/
import Derived.Test.YtpjaolablkcpmaaHvN
import Derived.Test.YtpjaolablkcpmaaHvM
import Derived.Test.YtpjaolablkcpmaaHvG
import Derived.Test.YtpjaolablkcpmaaTxts
import Derived.Laws.StructEq
import Derived.ChangeKeysEq
namespace Go.Proofs.Ytpjaolablkcpmaa
open Go.ChangeShapes Go.WideShapes Go.ChangeAt Go.RowKit Go.Shelf Go.Lib Go.Sort Go.Proofs
set_option linter.unusedVariables false
set_option linter.unusedSimpArgs false

theorem hlow_o {w : World} {hb : Nat} {F : Nat → Prop} {s : HvS} (h : HvO w hb F s) (k : ByteArray) (hk : strOk k) : Calls Try.prog 13 #[.pointer (some ⟨hb, 0, none⟩), .string k] w fun e w' => e = .returned (.int .i64 (lowV s.S k)) ∧ w = w' := by
  obtain ⟨cb, S, hA, hp, hne, rfl, hi⟩ := h
  have := hlow_any hA k hk
  rwa [lowV_perm hp hA.cnt.nodup] at this
theorem hhigh_o {w : World} {hb : Nat} {F : Nat → Prop} {s : HvS} (h : HvO w hb F s) (k : ByteArray) (hk : strOk k) : Calls Try.prog 14 #[.pointer (some ⟨hb, 0, none⟩), .string k] w fun e w' => e = .returned (.int .i64 (lowV s.S k + s.slack)) ∧ Below w.heap.size w w' := by
  obtain ⟨cb, S, hA, hp, hne, rfl, hi⟩ := h
  have e := lowV_perm hp hA.cnt.nodup k
  have h1 := hi.low k
  have h2 := hi.sl
  have := hhigh_any hA k hk (by omega) (by have := hi.s0; omega)
  rwa [e] at this
theorem htotal_o {w : World} {hb : Nat} {F : Nat → Prop} {s : HvS} (h : HvO w hb F s) : Calls Try.prog 36 #[.pointer (some ⟨hb, 0, none⟩)] w fun e w' => e = .returned (.int .i64 s.total) ∧ w = w' := by
  obtain ⟨cb, S, hA, hp, hne, rfl, hi⟩ := h
  exact htotal_any hA
theorem hslack_o {w : World} {hb : Nat} {F : Nat → Prop} {s : HvS} (h : HvO w hb F s) : Calls Try.prog 15 #[.pointer (some ⟨hb, 0, none⟩)] w fun e w' => e = .returned (.int .i64 s.slack) ∧ w = w' := by
  obtain ⟨cb, S, hA, hp, hne, rfl, hi⟩ := h
  exact hslack_any hA
theorem hnew_o (m : Int) (w : World) : Calls Try.prog 11 #[.int .i64 m] w fun e w' => ∃ hb F, e = .returned (.pointer (some ⟨hb, 0, none⟩)) ∧ HvO w' hb F (newH m) ∧ (∀ k, F k → w.heap.size ≤ k) ∧ Below w.heap.size w w' := by
  refine (hnew_any m w).mono ?_
  rintro e w' ⟨hb, cb, rfl, hA, h1, h2, hne, hb'⟩
  refine ⟨hb, fun k => k = hb ∨ k = cb, rfl, ⟨cb, [], hA, List.Perm.refl _, hne, rfl, newH_inv m⟩, ?_, hb'⟩
  rintro k (rfl | rfl) <;> assumption
theorem htop_o {w : World} {hb : Nat} {F : Nat → Prop} {s : HvS} (h : HvO w hb F s) (n : Int) (hn : n ≤ 9223372036854775807) :
    Calls Try.prog 16 #[.pointer (some ⟨hb, 0, none⟩), .int .i64 n] w fun e w' => ∃ A c ts, e = .returned (.slice A (List.length ts) c) ∧ TopH s.S n ts ∧ w'.ownsRow w.heap.size 28 2 (.slice A ts.length c) ts.length (ts.flatMap cntEnc) ∧ Below w.heap.size w w' := by
  obtain ⟨cb, S, hA, hp, hne, rfl, hi⟩ := h
  refine (htop_any hA (by have := hp.length_eq; have := hi.len; have := hi.r2; omega) n hn).mono ?_
  rintro e w' ⟨A, c, ts, h1, h2, h3⟩
  exact ⟨A, c, ts, h1, h2.perm hp, h3⟩
theorem hsure_o {w : World} {hb : Nat} {F : Nat → Prop} {s : HvS} (h : HvO w hb F s) (n : Int) :
    Calls Try.prog 18 #[.pointer (some ⟨hb, 0, none⟩), .int .i64 n] w fun e w' => ∃ A c ks, e = .returned (.slice A (List.length ks) c) ∧ SureOf s.S n ks ∧ w'.ownsRow w.heap.size 9 1 (.slice A ks.length c) ks.length (ks.map Value.string) ∧ Below w.heap.size w w' := by
  obtain ⟨cb, S, hA, hp, hne, rfl, hi⟩ := h
  refine (hsure_any hA (by have := hp.length_eq; have := hi.len; have := hi.r2; omega) n).mono ?_
  rintro e w' ⟨A, c, ks, h1, h2, h3⟩
  exact ⟨A, c, ks, h1, h2.perm hp, h3⟩
/-- What a merge leaves, as objects. -/
def MergeNewH (w : World) (hb : Nat) (F : Nat → Prop) (s o : HvS) (e : Ending) (w' : World) : Prop :=
  e = .returned (.bool true) ∧ ∃ F', HvO w' hb F' (mergeH s o) ∧ Upd F w F' w'
theorem MergeH.o {w w' : World} {hb cb : Nat} {s o : HvS} {e : Ending} (h : MergeH w hb cb s o e w') (hi : HvInv (mergeH s o)) : MergeNewH w hb (fun k => k = hb ∨ k = cb) s o e w' := by
  obtain ⟨h1, cb', S', hA, hp, hne, hc, hk⟩ := h
  refine ⟨h1, fun k => k = hb ∨ k = cb', ⟨cb', S', hA, hp, hne, rfl, hi⟩, hk, ?_⟩
  rintro k (rfl | rfl)
  · exact .inl (.inl rfl)
  · rcases hc with h | h
    · exact .inl (.inr h)
    · exact .inr h
theorem hmerge_o {w : World} {hb ob : Nat} {F G : Nat → Prop} {s o : HvS} (h : HvO w hb F s) (k : HvO w ob G o) (hd : Apart F G) (hr : o.room = s.room) (ha : s.added + o.added ≤ 1048576) :
    Calls Try.prog 22 #[.pointer (some ⟨hb, 0, none⟩), .pointer (some ⟨ob, 0, none⟩)] w (MergeNewH w hb F s o) := by
  obtain ⟨cb, S, hA, hp, hne, rfl, hi⟩ := h
  obtain ⟨co, So, hO, hpo, hneo, rfl, hio⟩ := k
  exact (hmerge_core hA hp hi hO hpo hio hne (fun e => hd hb (.inl rfl) (.inr e.symm)) hr ha).mono (fun e w' h => h.o (mergeH_inv hi hio hr ha))
theorem hmerge_self {w : World} {hb : Nat} {F : Nat → Prop} {s : HvS} (h : HvO w hb F s) (ha : s.added + s.added ≤ 1048576) :
    Calls Try.prog 22 #[.pointer (some ⟨hb, 0, none⟩), .pointer (some ⟨hb, 0, none⟩)] w (MergeNewH w hb F s s) := by
  obtain ⟨cb, S, hA, hp, hne, rfl, hi⟩ := h
  exact (hmerge_core hA hp hi hA hp hi hne hne rfl ha).mono (fun e w' h => h.o (mergeH_inv hi hi rfl ha))
theorem hmerge_other {w : World} {hb ob : Nat} {F G : Nat → Prop} {s o : HvS} (h : HvO w hb F s) (k : HvO w ob G o) (hr : o.room ≠ s.room) :
    Calls Try.prog 22 #[.pointer (some ⟨hb, 0, none⟩), .pointer (some ⟨ob, 0, none⟩)] w fun e w' => e = .returned (.bool false) ∧ Below w.heap.size w w' := by
  obtain ⟨cb, S, hA, hp, hne, rfl, hi⟩ := h
  obtain ⟨co, So, hO, hpo, hneo, rfl, hio⟩ := k
  exact hmerge_room hA hO hr

/-! ### The example -/
def keyA : ByteArray := ⟨#[97]⟩
def keyB : ByteArray := ⟨#[98]⟩
theorem lives_s1 : hokB (newH 1) keyA 5 = true ∧ addH (newH 1) keyA 5 = ⟨1, 1, 5, 0, [(keyA, 5)]⟩ := by
  have h : hokB (newH 1) keyA 5 = true := by decide +kernel
  refine ⟨h, ?_⟩
  rw [hokB_add h]
  have e : plusS (newH 1).S keyA 5 = [(keyA, 5)] := by decide +kernel
  rw [e]
  have r : (newH 1).room = 1 := rfl
  unfold cutC cutS
  rw [r, if_neg (by simp), if_neg (by simp)]
  rfl
theorem lives_s2 : hokB ⟨1, 1, 5, 0, [(keyA, 5)]⟩ keyB 3 = true ∧ addH ⟨1, 1, 5, 0, [(keyA, 5)]⟩ keyB 3 = ⟨1, 2, 8, 3, [(keyA, 2)]⟩ := by
  have h : hokB ⟨1, 1, 5, 0, [(keyA, 5)]⟩ keyB 3 = true := by decide +kernel
  refine ⟨h, ?_⟩
  rw [hokB_add h]
  have e : plusS [(keyA, 5)] keyB 3 = [(keyA, 5), (keyB, 3)] := by decide +kernel
  have n : nthV [(keyA, 5), (keyB, 3)] (1 : Int).toNat = 3 := nthV_is ⟨by decide +kernel, by decide +kernel⟩
  have t : takeL [(keyA, 5), (keyB, 3)] 3 = [(keyA, 2)] := by decide +kernel
  simp only [e]
  unfold cutC cutS
  rw [if_pos (by simp), if_pos (by simp), n, t]
  rfl

set_option maxRecDepth 20000 in
set_option maxHeartbeats 1000000 in
theorem lives14_any (w : World) : Calls Try.prog 7 #[] w fun e w' => e = .returned (.bool true) ∧ Below w.heap.size w w' := by
  obtain ⟨k1, e1⟩ := lives_s1
  obtain ⟨k2, e2⟩ := lives_s2
  have K1 := Lib.hid k1
  have E1 := Lib.hid e1
  have K2 := Lib.hid k2
  have E2 := Lib.hid e2
  have LA : Hid (lowV [(keyA, 2)] keyA = 2) := Lib.hid (by decide +kernel)
  have LB : Hid (lowV [(keyA, 2)] keyB = 0) := Lib.hid (by decide +kernel)
  have OA : strOk keyA := by show keyA.size ≤ maxLen; decide +kernel
  have OB : strOk keyB := by show keyB.size ≤ maxLen; decide +kernel
  clear k1 k2 e1 e2
  go_enter Try.func7, Try.ntmps7
  go_wp2_with fail
  refine (hnew_o 1 _).mono ?_
  rintro e w1 ⟨hb, F, rfl, hO, hF, hb1⟩
  go_wp2_with fail
  refine (hadd_any hb F _ keyA 5 _ hO (by decide +kernel)).mono ?_
  rintro e w2 ⟨rfl, F2, hO2, hu2⟩
  rw [E1.out] at hO2
  rw [K1.out]
  have hF2 := hu2.base hb1.size hF
  have hb2 : Below w.heap.size w w2 := hu2.belowB hb1 (Nat.le_refl _) hF
  clear hO hu2 hb1 hF
  go_wp2_with fail
  refine (hadd_any hb F2 _ keyB 3 _ hO2 (by decide +kernel)).mono ?_
  rintro e w3 ⟨rfl, F3, hO3, hu3⟩
  rw [E2.out] at hO3
  rw [K2.out]
  have hb3 : Below w.heap.size w w3 := hu3.belowB hb2 (Nat.le_refl _) hF2
  clear hO2 hu3 hb2 hF2
  go_wp2_with fail
  refine (hlow_o hO3 keyA OA).mono ?_
  rintro e w4 ⟨rfl, rfl⟩
  simp only [LA.out]
  go_wp2_with fail
  refine (hhigh_o hO3 keyA OA).mono ?_
  rintro e w4 ⟨rfl, hb4⟩
  simp only [LA.out]
  have hO4 := hO3.below hb4
  have hb4' : Below w.heap.size w w4 := hb3.trans (hb4.mono hb3.size)
  clear hO3 hb4 hb3
  go_wp2_with fail
  refine (hlow_o hO4 keyB OB).mono ?_
  rintro e w5 ⟨rfl, rfl⟩
  simp only [LB.out]
  go_wp2_with fail
  refine (hhigh_o hO4 keyB OB).mono ?_
  rintro e w5 ⟨rfl, hb5⟩
  simp only [LB.out]
  have hb5' : Below w.heap.size w w5 := hb4'.trans (hb5.mono hb4'.size)
  clear hO4 hb5 hb4'
  go_wp2
  go_ret
  exact ⟨rfl, hb5'⟩

theorem neq_cnt (k l : ByteArray) (a c : Int) (w : World) : (binOp .neq 28 (.agg #[.string k, .int .i64 a]) (.agg #[.string l, .int .i64 c])).run Try.prog w = .ok (.bool (!(k.toList == l.toList && a == c))) w := by
  have hS : Try.prog.underlying 28 = some (.struct (Try.prog.fieldsOf 28)) := by kernel_rfl
  have hp : Try.prog.stoodInHeld 28 = false := by kernel_rfl
  have p0 := fun (v : Value) (xs : Array Value) (h : xs[0]? = some v) => run_part_plain (P := Try.prog) (w := w) (e := 9) (by kernel_rfl) h
  have p1 := fun (v : Value) (xs : Array Value) (h : xs[1]? = some v) => run_part_plain (P := Try.prog) (w := w) (e := 2) (by kernel_rfl) h
  have i := fun (d : Nat) (a b : Int) => run_equalIn_int (P := Try.prog) w d 2 .i64 .i64 a b Try.underlying2
  have j := fun (d : Nat) (a b : ByteArray) => run_equalIn_string (P := Try.prog) w d 9 a b Try.underlying9
  rw [run_neq_struct, run_equalIn_agg w 9999 _ _ _ hS hp]
  simp only [Program.fieldsOf, Try.underlying28, Op.eqFields]
  cases h1 : k.toList == l.toList <;> cases h2 : a == c <;> simp [Op.eqFields, p0, p1, i, j, h1, h2, Result.andThen]

set_option maxRecDepth 20000 in
set_option maxHeartbeats 2000000 in
theorem csame_any (A A' : Option Addr) (c c' : Nat) (rs : List CntV) (w : World) (h : CntsAt w w.heap.size A rs) (h' : CntsAt w w.heap.size A' rs) (hl : (rs.length : Int) ≤ 1048576) :
    Calls Try.prog 38 #[.slice A rs.length c, .slice A' rs.length c'] w fun e w' => e = .returned (.bool true) ∧ Below w.heap.size w w' := by
  have hne : ((rs.length : Int) != (rs.length : Int)) = false := by simp
  go_enter Try.func38, Try.ntmps38
  go_wp2_with fail
  go_loopg [5] rs.length (fun rest i wr => ∃ k : Nat, i = .int .i64 k ∧ Hid (k + rest = rs.length) ∧ Below w.heap.size w wr)
  case atStart => exact ⟨0, rfl, Lib.hid (by simp), Below.refl _ _⟩
  case round =>
    obtain ⟨k, rfl, HK, hb⟩ := hrel
    by_cases hk : (k : Int) < (rs.length : Int)
    · have hkl : k < rs.length := by omega
      obtain ⟨b, o, rfl, hbl, c1, c2⟩ := (h.below hb).one hkl
      obtain ⟨b', o', rfl, hbl', d1, d2⟩ := (h'.below hb).one hkl
      generalize rs[k] = y at *
      have q := neq_cnt y.key y.key y.n y.n
      have e : (!(y.key.toList == y.key.toList && y.n == y.n)) = false := by simp
      rw [e] at q
      clear e
      go_wp2_with fail
      go_quiet (fail)
      go_wp2
      go_roundg (gk - 1)
      case measure => have := HK.out; omega
      case rel => exact ⟨k + 1, by go_num, Lib.hid (by have := HK.out; omega), below_drewN hb _⟩
    · go_wp2
      go_ret
      exact ⟨rfl, hb⟩

set_option maxHeartbeats 400000 in
theorem rroom_any (m : Int) (w : World) : Calls Try.prog 34 #[.int .i64 m] w fun e w' => e = .returned (.int .i64 (newH m).room) ∧ w = w' := by
  have e : (newH m).room = min (max m 1) 4096 := rfl
  rw [e]
  clear e
  by_cases h1 : m < 1
  · have E : Hid (min (max m 1) 4096 = 1) := Lib.hid (by omega)
    go_enter Try.func34, Try.ntmps34
    go_wp2
    go_ret
    exact ⟨by rw [E.out]; rfl, rfl⟩
  · by_cases h2 : 4096 < m
    · have E : Hid (min (max m 1) 4096 = 4096) := Lib.hid (by omega)
      go_enter Try.func34, Try.ntmps34
      go_wp2
      go_ret
      exact ⟨by rw [E.out]; rfl, rfl⟩
    · have E : Hid (min (max m 1) 4096 = m) := Lib.hid (by omega)
      go_enter Try.func34, Try.ntmps34
      go_wp2
      go_ret
      exact ⟨by rw [E.out]; rfl, rfl⟩

def bigB (l : List CntV) (most : Int) : Bool := decide (most < (l.length : Int)) || l.any (fun a => decide (100 < (a.key.size : Int)))
theorem bigB_no {l : List CntV} {most : Int} (h : bigB l most = false) : (l.length : Int) ≤ most ∧ ∀ a ∈ l, (a.key.size : Int) ≤ 100 := by
  unfold bigB at h
  rw [Bool.or_eq_false_iff] at h
  refine ⟨by simpa using h.1, fun a ha => ?_⟩
  have := List.any_eq_false.1 h.2 a ha
  simpa using this
set_option maxRecDepth 20000 in
set_option maxHeartbeats 1000000 in
theorem big14_any (A : Option Addr) (c : Nat) (l : List CntV) (most : Int) (w : World) (hl : CntsAt w w.heap.size A l) (hlen : (l.length : Int) ≤ 9223372036854775807) (hm : most ≤ 1000) :
    Calls Try.prog 8 #[.slice A l.length c, .int .i64 most] w fun e w' => e = .returned (.bool (bigB l most)) ∧ Below w.heap.size w w' := by
  by_cases h1 : most < (l.length : Int)
  · have E : Hid (bigB l most = true) := Lib.hid (by unfold bigB; rw [decide_eq_true h1]; rfl)
    go_enter Try.func8, Try.ntmps8
    go_wp2
    go_ret
    exact ⟨by rw [E.out]; rfl, Below.refl _ _⟩
  · have E : Hid (bigB l most = l.any (fun a => decide (100 < (a.key.size : Int)))) := Lib.hid (by unfold bigB; rw [decide_eq_false h1]; rfl)
    go_enter Try.func8, Try.ntmps8
    go_wp2_with fail
    go_loopg [5] l.length (fun rest i wr => ∃ k : Nat, i = .int .i64 k ∧ Hid (k + rest = l.length) ∧ Hid (∀ a ∈ l.take k, (a.key.size : Int) ≤ 100) ∧ Below w.heap.size w wr)
    case atStart => exact ⟨0, rfl, Lib.hid (by simp), Lib.hid (by simp), Below.refl _ _⟩
    case round =>
      obtain ⟨k, rfl, HK, HN, hb⟩ := hrel
      by_cases hk : (k : Int) < (l.length : Int)
      · have hkl : k < l.length := by omega
        obtain ⟨b, o, rfl, hbl, e1, e2⟩ := (hl.below hb).one hkl
        have HKT : Hid (l.take (k + 1) = l.take k ++ [l[k]]) := Lib.hid (List.take_succ_eq_append_getElem hkl)
        have HM : Hid (l[k] ∈ l) := Lib.hid (List.getElem_mem hkl)
        generalize l[k] = y at *
        by_cases hy : 100 < (y.key.size : Int)
        · have E2 : Hid (bigB l most = true) := Lib.hid (by rw [E.out, List.any_eq_true]; exact ⟨y, HM.out, by simpa using hy⟩)
          go_wp2
          go_ret
          exact ⟨by rw [E2.out]; rfl, hb⟩
        · have HN2 : Hid (∀ a ∈ l.take (k + 1), (a.key.size : Int) ≤ 100) := Lib.hid (by
            rw [HKT.out]
            intro a ha
            rcases List.mem_append.1 ha with ha | ha
            · exact HN.out a ha
            · simp at ha; subst ha; omega)
          go_wp2
          go_roundg (gk - 1)
          case measure => have := HK.out; omega
          case rel => exact ⟨k + 1, by go_num, Lib.hid (by have := HK.out; omega), HN2, hb⟩
      · have E2 : Hid (bigB l most = false) := Lib.hid (by
          rw [E.out, List.any_eq_false]
          intro a ha
          have := HN.out a (by rw [List.take_of_length_le (by omega)]; exact ha)
          simp
          omega)
        go_wp2
        go_ret
        exact ⟨by rw [E2.out]; rfl, hb⟩
end Go.Proofs.Ytpjaolablkcpmaa
