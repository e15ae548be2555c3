/- The reference's counter in memory; its Half, May, At (ciceroneref11). -/
import Derived.Test.YtgahopkbgefjdaaDecN
import Derived.Test.YtgahopkbgefjdaaDecG
import Derived.Test.YtgahopkbgefjdaaKitZ
import Derived.Test.YtgahopkbgefjdaaKitC
import Derived.Test.YtgahopkbgefjdaaKitT
import Derived.Test.YtgahopkbgefjdaaKitX
import Derived.IntWalk
namespace Go.Proofs.Ytgahopkbgefjdaa
open Go.ChangeShapes Go.WideShapes Go.ChangeAt Go.RowKit Go.Shelf Go.Lib Go.Sort Go.Proofs
set_option linter.unusedVariables false
set_option linter.unusedSimpArgs false

def add3 (a : AddD) : List Value := [.string a.key, .int .i64 a.at_, .int .i64 a.n]
def AddsAt3 (w : World) (B : Nat) (A : Option Addr) (l : List AddD) : Prop := Reads w B 3 A l.length (l.flatMap add3)
theorem AddsAt3.one {w : World} {B : Nat} {A : Option Addr} {l : List AddD} (h : AddsAt3 w B A l) {k : Nat} (hk : k < l.length) :
    ∃ b o, A = some ⟨b, o, none⟩ ∧ b < B ∧ w.cell? ⟨b, o + k * 3, none⟩ = some (.string l[k].key) ∧ w.cell? ⟨b, o + k * 3 + 1, none⟩ = some (.int .i64 l[k].at_) ∧ w.cell? ⟨b, o + k * 3 + 2, none⟩ = some (.int .i64 l[k].n) := by
  obtain ⟨b, o, e, hb, hc⟩ := h.2 (by omega)
  have f := fun j (hj : j < 3) => flat_getE (e := add3) (k := 3) (fun _ => rfl) l k j hk hj
  refine ⟨b, o, e, hb, ?_, ?_, ?_⟩
  · have := hc (k * 3 + 0) _ (by rw [f 0 (by omega)]; rfl)
    simpa using this
  · have := hc (k * 3 + 1) _ (by rw [f 1 (by omega)]; rfl)
    simpa [Nat.add_assoc] using this
  · have := hc (k * 3 + 2) _ (by rw [f 2 (by omega)]; rfl)
    simpa [Nat.add_assoc] using this
theorem AddsAt3.below {w w' : World} {B : Nat} {A : Option Addr} {l : List AddD} (h : AddsAt3 w B A l) (hb : Below B w w') : AddsAt3 w' B A l := Reads.below h hb

/-- The struct of the reference. -/
abbrev RcB (w : World) (mb : Nat) (hf : Int) (A : Option Addr) (n c : Nat) (cnt : Int) : Prop :=
  w.heap[mb]? = some (.cells #[.int .i64 hf, .slice A n c, .int .i64 cnt] 39 (0, 0))
def rowF (A : Option Addr) (k : Nat) : Prop := ∃ o sp, A = some ⟨k, o, sp⟩
structure RcAt (w : World) (mb : Nat) (hf cnt : Int) (L : List AddD) (A : Option Addr) (c : Nat) : Prop where
  blk : RcB w mb hf A L.length c cnt
  row : AddsAt3 w w.heap.size A L
  nil : A = none → c = 0
  out : ¬ rowF A mb
  low : ∀ k, rowF A k → k < w.heap.size
/-- A reference's counter at mb, on the footprint F. -/
def RcO (w : World) (mb : Nat) (F : Nat → Prop) (hf cnt : Int) (L : List AddD) : Prop := ∃ A c, RcAt w mb hf cnt L A c ∧ F = (fun k => k = mb ∨ rowF A k)
theorem adds3_keep {w w' : World} {A : Option Addr} {l : List AddD} {G : Nat → Prop} (h : AddsAt3 w w.heap.size A l) (hk : Keeps G w w') (hd : ∀ k, rowF A k → ¬ G k) : AddsAt3 w' w'.heap.size A l := by
  refine ⟨h.1, fun hn => ?_⟩
  obtain ⟨b, o, e, hb, hc⟩ := h.2 hn
  have hG : ¬ G b := hd b ⟨o, none, e⟩
  exact ⟨b, o, e, Nat.lt_of_lt_of_le hb hk.size, fun j u hu => (hk.cell (p := ⟨b, o + j, none⟩) hb hG).trans (hc j u hu)⟩
theorem RcAt.keep {w w' : World} {mb : Nat} {hf cnt : Int} {L : List AddD} {A : Option Addr} {c : Nat} {G : Nat → Prop} (h : RcAt w mb hf cnt L A c) (hk : Keeps G w w') (hx : ¬ G mb) (hd : ∀ k, rowF A k → ¬ G k) : RcAt w' mb hf cnt L A c :=
  ⟨(hk.block mb (Array.getElem?_eq_some_iff.1 h.blk).1 hx).trans h.blk, adds3_keep h.row hk hd, h.nil, h.out, fun k hk' => Nat.lt_of_lt_of_le (h.low k hk') hk.size⟩
theorem RcAt.below {w w' : World} {mb : Nat} {hf cnt : Int} {L : List AddD} {A : Option Addr} {c : Nat} (h : RcAt w mb hf cnt L A c) (hb : Below w.heap.size w w') : RcAt w' mb hf cnt L A c := h.keep (Keeps.ofBelow hb noF) (fun e => e) (fun _ _ e => e)
theorem RcO.own (mb : Nat) (hf cnt : Int) (L : List AddD) : Own1 (fun w F => RcO w mb F hf cnt L) where
  keep := by
    rintro w w' F G ⟨A, c, h, rfl⟩ hk hd
    exact ⟨A, c, h.keep hk (hd mb (.inl rfl)) (fun k hk' => hd k (.inr hk')), rfl⟩
  lt := by
    rintro w F ⟨A, c, h, rfl⟩ k (rfl | hk)
    · exact (Array.getElem?_eq_some_iff.1 h.blk).1
    · exact h.low k hk
theorem RcO.below {w w' : World} {mb : Nat} {F : Nat → Prop} {hf cnt : Int} {L : List AddD} (h : RcO w mb F hf cnt L) (hb : Below w.heap.size w w') : RcO w' mb F hf cnt L := (RcO.own mb hf cnt L).below h hb
theorem three_cells {w : World} {hb : Nat} {T : TypeId} {a0 a1 a2 : Value} (h : w.heap[hb]? = some (.cells #[a0, a1, a2] T (0, 0))) :
    (w.cell? ⟨hb, 0, none⟩ = some a0 ∧ w.cell? ⟨hb, 1, none⟩ = some a1 ∧ w.cell? ⟨hb, 2, none⟩ = some a2) ∧ w.frozen? ⟨hb, 1, none⟩ = false ∧ w.frozen? ⟨hb, 2, none⟩ = false := by
  refine ⟨⟨?_, ?_, ?_⟩, ?_, ?_⟩ <;> simp [World.cell?, World.frozen?, h]
theorem three_set {w : World} {hb : Nat} {T : TypeId} {a0 a1 a2 : Value} (h : w.heap[hb]? = some (.cells #[a0, a1, a2] T (0, 0))) :
    (∀ v, (w.setCell ⟨hb, 1, none⟩ v).heap[hb]? = some (.cells #[a0, v, a2] T (0, 0))) ∧ (∀ v, (w.setCell ⟨hb, 2, none⟩ v).heap[hb]? = some (.cells #[a0, a1, v] T (0, 0))) := by
  refine ⟨fun v => ?_, fun v => ?_⟩ <;> simp [World.setCell, Array.getElem?_modify, h]

set_option maxHeartbeats 400000 in
theorem rhalf_any (n : Int) (w : World) : Calls Try.prog 22 #[.int .i64 n] w fun e w' => e = .returned (.int .i64 (halfOf n)) ∧ w = w' := by
  unfold halfOf
  by_cases h1 : n < 1
  · have E : Hid (min (max n 1) 1099511627776 = 1) := Lib.hid (by omega)
    go_enter Try.func22, Try.ntmps22
    go_wp2
    go_ret
    exact ⟨by rw [E.out]; rfl, rfl⟩
  · by_cases h2 : 1099511627776 < n
    · have E : Hid (min (max n 1) 1099511627776 = 1099511627776) := Lib.hid (by omega)
      go_enter Try.func22, Try.ntmps22
      go_wp2
      go_ret
      exact ⟨by rw [E.out]; rfl, rfl⟩
    · have E : Hid (min (max n 1) 1099511627776 = n) := Lib.hid (by omega)
      go_enter Try.func22, Try.ntmps22
      go_wp2
      go_ret
      exact ⟨by rw [E.out]; rfl, rfl⟩

theorem addOk_iff {a : AddD} : addOk a = true ↔ ((1 : Int) ≤ a.key.size ∧ (a.key.size : Int) ≤ 24 ∧ 0 ≤ a.at_ ∧ a.at_ ≤ 1099511627776 ∧ 0 ≤ a.n ∧ a.n ≤ 1048576) := by
  unfold addOk daddB
  simp only [Bool.and_eq_true, decide_eq_true_eq]
  omega

set_option maxHeartbeats 2000000 in
theorem rmay11_any (a : AddD) (w : World) (hk : (a.key.size : Int) ≤ 4611686018427387904) :
    Calls Try.prog 26 #[.agg #[.string a.key, .int .i64 a.at_, .int .i64 a.n]] w fun e w' => e = .returned (.bool (addOk a)) ∧ Below w.heap.size w w' := by
  obtain ⟨key, at_, n⟩ := a
  have hb : Below w.heap.size w (w.alloc (.cells #[.string key, .int .i64 at_, .int .i64 n] 30)) := (Below.refl _ _).alloc (Nat.le_refl _) _
  have HB := Lib.hid hb
  clear hb
  simp only at hk ⊢
  by_cases h1 : (1 : Int) ≤ key.size
  · by_cases h2 : (key.size : Int) ≤ 24
    · by_cases h3 : 0 ≤ at_
      · by_cases h4 : at_ ≤ 1099511627776
        · by_cases h5 : 0 ≤ n
          · have HV : Hid (decide (n ≤ 1048576) = addOk ⟨key, at_, n⟩) := Lib.hid (by
              rw [Bool.eq_iff_iff, addOk_iff, decide_eq_true_eq]
              simp only
              omega)
            go_enter Try.func26, Try.ntmps26
            go_wp2
            go_ret
            exact ⟨ret_bool HV.out, HB.out⟩
          · have HV : Hid (false = addOk ⟨key, at_, n⟩) := Lib.hid (by
              rw [Bool.eq_iff_iff, addOk_iff]
              simp only
              simp
              omega)
            go_enter Try.func26, Try.ntmps26
            go_wp2
            go_ret
            exact ⟨ret_bool HV.out, HB.out⟩
        · have HV : Hid (false = addOk ⟨key, at_, n⟩) := Lib.hid (by
            rw [Bool.eq_iff_iff, addOk_iff]
            simp only
            simp
            omega)
          go_enter Try.func26, Try.ntmps26
          go_wp2
          go_ret
          exact ⟨ret_bool HV.out, HB.out⟩
      · have HV : Hid (false = addOk ⟨key, at_, n⟩) := Lib.hid (by
          rw [Bool.eq_iff_iff, addOk_iff]
          simp only
          simp
          omega)
        go_enter Try.func26, Try.ntmps26
        go_wp2
        go_ret
        exact ⟨ret_bool HV.out, HB.out⟩
    · have HV : Hid (false = addOk ⟨key, at_, n⟩) := Lib.hid (by
        rw [Bool.eq_iff_iff, addOk_iff]
        simp only
        simp
        omega)
      go_enter Try.func26, Try.ntmps26
      go_wp2
      go_ret
      exact ⟨ret_bool HV.out, HB.out⟩
  · have HV : Hid (false = addOk ⟨key, at_, n⟩) := Lib.hid (by
      rw [Bool.eq_iff_iff, addOk_iff]
      simp only
      simp
      omega)
    go_enter Try.func26, Try.ntmps26
    go_wp2
    go_ret
    exact ⟨ret_bool HV.out, HB.out⟩

theorem histSum_take (f : Int → Int) (key : ByteArray) (l : List AddD) {k : Nat} (hk : k < l.length) : histSum f key (l.take (k + 1)) = histSum f key (l.take k) + histN f key l[k] := by
  rw [List.take_succ_eq_append_getElem hk]
  induction l.take k with
  | nil => simp [histSum]
  | cons a m ih => rw [List.cons_append, histSum_cons, ih, histSum_cons]; omega
theorem histSum_bd {hf now : Int} (key : ByteArray) : ∀ {l : List AddD}, (∀ a ∈ l, addOk a = true) → 0 ≤ histSum (fun a => wtV (now - a) hf) key l ∧ histSum (fun a => wtV (now - a) hf) key l ≤ (l.length : Int) * 1099511627776
  | [], _ => by simp [histSum]
  | a :: l, h => by
    have ih := histSum_bd (hf := hf) (now := now) key (l := l) (fun b hb => h b (by simp [hb]))
    obtain ⟨_, _, _, _, h5, h6⟩ := addOk_iff.1 (h a (by simp))
    have h7 := wtV_bd (now - a.at_) hf
    rw [histSum_cons, List.length_cons]
    have h8 : 0 ≤ histN (fun a => wtV (now - a) hf) key a ∧ histN (fun a => wtV (now - a) hf) key a ≤ 1099511627776 := by
      unfold histN
      split
      · have h9 := Int.mul_le_mul h6 h7.2 h7.1 (by omega : (0 : Int) ≤ 1048576)
        exact ⟨Int.mul_nonneg h5 h7.1, Int.le_trans h9 (by omega)⟩
      · omega
    omega

set_option maxRecDepth 20000 in
set_option maxHeartbeats 2000000 in
theorem rat11_any (mb : Nat) (F : Nat → Prop) (hf cnt : Int) (L : List AddD) (key : ByteArray) (now : Int) (w : World) (h : RcO w mb F hf cnt L) (hok : ∀ a ∈ L, addOk a = true) (hl : (L.length : Int) ≤ 1000) (hh : hf ≤ 1099511627776) (n1 : now ≤ 9223372036854775807) :
    Calls Try.prog 19 #[.pointer (some ⟨mb, 0, none⟩), .string key, .int .i64 now] w fun e w' => e = .returned (.int .i64 (cntV hf L key now)) ∧ Below w.heap.size w w' := by
  obtain ⟨A, c, hR, -⟩ := h
  obtain ⟨⟨c0, c1, c2⟩, -, -⟩ := three_cells hR.blk
  have hml : mb < w.heap.size := (Array.getElem?_eq_some_iff.1 hR.blk).1
  have HROW := Lib.hid hR.row
  clear hR
  by_cases n0 : now < 0
  · have e : cntV hf L key now = 0 := by unfold cntV; rw [if_pos n0]
    rw [e]
    clear e
    by_cases h0 : (0 : Int) < (L.length : Int)
    · have h0' : decide (0 < L.length) = true := by simpa using (by omega : 0 < L.length)
      go_enter Try.func19, Try.ntmps19
      go_wp2
      refine wp_loop_rounds 1 ?_
      rw [rounds_succ]
      go_wp2
      go_ret
      exact ⟨rfl, Below.refl _ _⟩
    · go_enter Try.func19, Try.ntmps19
      go_wp2
      refine wp_loop_rounds 1 ?_
      rw [rounds_succ]
      go_wp2
      go_ret
      exact ⟨rfl, Below.refl _ _⟩
  · have e : cntV hf L key now = histSum (fun a => wtV (now - a) hf) key L := by unfold cntV; rw [if_neg n0]
    rw [e]
    clear e
    have hbd : ∀ k, 0 ≤ histSum (fun a => wtV (now - a) hf) key (L.take k) ∧ histSum (fun a => wtV (now - a) hf) key (L.take k) ≤ 1099511627776000 := fun k => by
      have h1 := histSum_bd (hf := hf) (now := now) key (l := L.take k) (fun a ha => hok a (List.mem_of_mem_take ha))
      have h2 := List.length_take_le' k L
      omega
    have hsn := fun k (hk : k < L.length) => histSum_take (fun a => wtV (now - a) hf) key L hk
    have hfin : ∀ k, L.length ≤ k → histSum (fun a => wtV (now - a) hf) key (L.take k) = histSum (fun a => wtV (now - a) hf) key L := fun k hk => by rw [List.take_of_length_le hk]
    have h0 : histSum (fun a => wtV (now - a) hf) key (L.take 0) = 0 := by simp [histSum]
    generalize hg : (fun k : Nat => histSum (fun a => wtV (now - a) hf) key (L.take k)) = g at *
    have hgk : ∀ k, histSum (fun a => wtV (now - a) hf) key (L.take k) = g k := fun k => by rw [← hg]
    simp only [hgk] at hbd hsn hfin h0
    have HBD := Lib.hid hbd
    have HSN := Lib.hid hsn
    have HFIN := Lib.hid hfin
    have HOK := Lib.hid hok
    have H0 := Lib.hid h0
    clear hbd hsn hfin hok hg hgk h0
    go_enter Try.func19, Try.ntmps19
    go_wp2_with fail
    go_loopg [7, 8] L.length (fun rest s i wr => ∃ (k : Nat), i = .int .i64 k ∧ Hid (k + rest = L.length) ∧ s = .int .i64 (g k) ∧ Hid (Below w.heap.size w wr))
    case atStart => exact ⟨0, rfl, Lib.hid (by simp), by rw [H0.out], Lib.hid (Below.refl _ _)⟩
    case round =>
      obtain ⟨k, rfl, HK, rfl, HB⟩ := hrel
      have d0 := (HB.out.cell (p := ⟨mb, 0, none⟩) hml).trans c0
      have d1 := (HB.out.cell (p := ⟨mb, 1, none⟩) hml).trans c1
      by_cases hk : (k : Int) < (L.length : Int)
      · have hkl : k < L.length := by omega
        have hkd : decide (k < L.length) = true := by simpa using hkl
        obtain ⟨b, o, rfl, hbl, e1, e2, e3⟩ := (HROW.out.below HB.out).one hkl
        have hsn := HSN.out k hkl
        have hbd := HBD.out k
        obtain ⟨-, -, a0, a1, a2, a3⟩ := addOk_iff.1 (HOK.out _ (List.getElem_mem hkl))
        have hwb := wtV_bd (now - L[k].at_) hf
        have hhn : histN (fun a => wtV (now - a) hf) key L[k] = if L[k].key = key then L[k].n * wtV (now - L[k].at_) hf else 0 := rfl
        rw [hhn] at hsn
        clear hhn
        generalize L[k] = y at *
        have q := fun W => (rweight_any (now - y.at_) hf W (by omega) (by omega)).mono (R' := fun e w' => e = .returned (.int .i64 (wtV (now - y.at_) hf)) ∧ w' = W) (fun e w' h => ⟨h.1, h.2.symm⟩)
        have Q := Lib.hid q
        clear q
        by_cases hy : y.key = key
        · have he : (y.key.toList == key.toList) = true := by rw [str_beq]; simpa using hy
          rw [if_pos hy] at hsn
          clear hy
          by_cases ht : y.at_ ≤ now
          · have hpr : 0 ≤ y.n * wtV (now - y.at_) hf ∧ y.n * wtV (now - y.at_) hf ≤ 1099511627776 := by
              have h9 := Int.mul_le_mul a3 hwb.2 hwb.1 (by omega : (0 : Int) ≤ 1048576)
              exact ⟨Int.mul_nonneg a2 hwb.1, by omega⟩
            have HSN2 := Lib.hid hsn
            clear hsn
            generalize wtV (now - y.at_) hf = wt at *
            have w1 : IntKind.i64.wrap (now - y.at_) = now - y.at_ := IntWalk.i64_in _ (by omega)
            have w2 : IntKind.i64.wrap (y.n * wt) = y.n * wt := IntWalk.i64_in _ (by omega)
            have w3 : IntKind.i64.wrap (g k + y.n * wt) = g k + y.n * wt := IntWalk.i64_in _ (by omega)
            clear hwb hpr
            go_wp2_with fail
            go_quiet ((go_at_call 11; exact Calls.quiet_of_same (Q.out _)))
            clear w1 w2 w3
            go_wp2
            go_roundg (gk - 1)
            case measure => have := HK.out; omega
            case rel => exact ⟨k + 1, by go_num, Lib.hid (by have := HK.out; omega), by rw [HSN2.out], Lib.hid (below_drewN HB.out _)⟩
          · have hz : wtV (now - y.at_) hf = 0 := by unfold wtV; rw [if_pos (by omega)]
            rw [hz, Int.mul_zero, Int.add_zero] at hsn
            have HSN2 := Lib.hid hsn
            clear hsn hz hwb
            go_wp2
            go_roundg (gk - 1)
            case measure => have := HK.out; omega
            case rel => exact ⟨k + 1, by go_num, Lib.hid (by have := HK.out; omega), by rw [HSN2.out], HB⟩
        · have he : (y.key.toList == key.toList) = false := by rw [str_beq]; simpa using hy
          rw [if_neg hy, Int.add_zero] at hsn
          have HSN2 := Lib.hid hsn
          clear hsn hwb hy
          go_wp2
          go_roundg (gk - 1)
          case measure => have := HK.out; omega
          case rel => exact ⟨k + 1, by go_num, Lib.hid (by have := HK.out; omega), by rw [HSN2.out], HB⟩
      · have hkd : decide (k < L.length) = false := by simpa using (by omega : L.length ≤ k)
        have hfin := HFIN.out k (by omega)
        have HF := Lib.hid hfin
        clear hfin
        go_wp2
        go_ret
        exact ⟨ret_int HF.out, HB.out⟩
end Go.Proofs.Ytgahopkbgefjdaa
