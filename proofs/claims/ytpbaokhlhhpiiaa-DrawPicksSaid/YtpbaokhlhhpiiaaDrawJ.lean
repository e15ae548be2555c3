/- Contracts of both Pick; the walk of DrawPicks. -/
import Derived.Test.YtpbaokhlhhpiiaaDrawH
import Derived.Test.YtpbaokhlhhpiiaaKitP
namespace Go.Proofs.Ytpbaokhlhhpiiaa
open Go.ChangeShapes Go.WideShapes Go.ChangeAt Go.RowKit
set_option linter.unusedVariables false
set_option linter.unusedSimpArgs false

/-! ### plain -/
def wclamp (n : Int) : Int := min (max n 0) 1048576
def wsum (l : List Int) : Int := (l.map wclamp).sum
def pickFrom : Int → Nat → List Int → Int
  | _, _, [] => -1
  | left, i, n :: l => if left - wclamp n < 0 then i else pickFrom (left - wclamp n) (i + 1) l
def pickV (seed : Int) (word : ByteArray) (ws : List Int) : Int := if wsum ws = 0 then -1 else pickFrom (belowV (hashV seed [word]) (wsum ws)) 0 ws

theorem wclamp_bd (n : Int) : 0 ≤ wclamp n ∧ wclamp n ≤ 1048576 := by unfold wclamp; omega
theorem wsum_cons (n : Int) (l : List Int) : wsum (n :: l) = wclamp n + wsum l := rfl
theorem wsum_snoc (n : Int) (l : List Int) : wsum (l ++ [n]) = wsum l + wclamp n := by simp [wsum]
theorem wsum_bd (l : List Int) : 0 ≤ wsum l ∧ wsum l ≤ 1048576 * l.length := by
  induction l with
  | nil => simp [wsum]
  | cons n l ih => rw [wsum_cons]; have := wclamp_bd n; simp; omega
theorem wsum_append (l m : List Int) : wsum (l ++ m) = wsum l + wsum m := by simp [wsum]
theorem wsum_take_le (l : List Int) (k : Nat) : wsum (l.take k) ≤ wsum l := by
  have h : wsum l = wsum (l.take k) + wsum (l.drop k) := by
    conv => lhs; rw [← List.take_append_drop k l]
    exact wsum_append _ _
  have := (wsum_bd (l.drop k)).1
  omega
theorem pick_found (l : List Int) : ∀ (left : Int) (i : Nat), 0 ≤ left → left < wsum l → ∃ j, ∃ h : j < l.length, 0 < l[j] ∧ ∀ ex, pickFrom left i (l ++ ex) = ((i + j : Nat) : Int) := by
  induction l with
  | nil => intro left i h0 h1; simp [wsum] at h1; omega
  | cons n l ih =>
    intro left i h0 h1
    rw [wsum_cons] at h1
    by_cases hc : left - wclamp n < 0
    · refine ⟨0, by simp, ?_, fun ex => ?_⟩
      · show 0 < n
        unfold wclamp at hc
        omega
      · show (if left - wclamp n < 0 then (i : Int) else _) = _
        rw [if_pos hc]; simp
    · obtain ⟨j, hj, hp, he⟩ := ih (left - wclamp n) (i + 1) (by omega) (by omega)
      refine ⟨j + 1, by simpa using hj, by simpa using hp, fun ex => ?_⟩
      show (if left - wclamp n < 0 then (i : Int) else pickFrom (left - wclamp n) (i + 1) (l ++ ex)) = _
      rw [if_neg hc, he ex]
      congr 1
      omega
theorem pickV_spec (seed : Int) (word : ByteArray) (ws : List Int) : pickV seed word (ws ++ [0, -5]) = pickV seed word ws ∧ (pickV seed word ws = -1 ∨ ∃ j, ∃ h : j < ws.length, pickV seed word ws = (j : Int) ∧ 0 < ws[j]) := by
  have hs : wsum (ws ++ [0, -5]) = wsum ws := by
    rw [wsum_append]
    have : wsum [0, -5] = 0 := by decide
    omega
  unfold pickV
  rw [hs]
  have hh := hashV_bd seed [word]
  have hb := belowV_bd (hashV seed [word]) (wsum ws) hh.1 hh.2
  have hw := (wsum_bd ws).1
  by_cases h0 : wsum ws = 0
  · rw [if_pos h0, if_pos h0]
    exact ⟨rfl, .inl rfl⟩
  · rw [if_neg h0, if_neg h0]
    obtain ⟨j, hj, hp, he⟩ := pick_found ws (belowV (hashV seed [word]) (wsum ws)) 0 hb.1 (hb.2.1 (by omega))
    have e1 := he [0, -5]
    have e2 := he []
    rw [List.append_nil] at e2
    rw [e1, e2]
    exact ⟨rfl, .inr ⟨j, hj, by simp, hp⟩⟩

def IntsAt (w : World) (B : Nat) (A : Option Addr) (l : List Int) : Prop := Reads w B 1 A l.length (l.map (Value.int .i64))
theorem IntsAt.below {w w' : World} {B : Nat} {A : Option Addr} {l : List Int} (h : IntsAt w B A l) (hb : Below B w w') : IntsAt w' B A l := Reads.below h hb

/-- The search from place k on. -/
theorem pick_step (left : Int) (l : List Int) (k : Nat) (hk : k < l.length) : pickFrom left k (l.drop k) = if left - wclamp l[k] < 0 then (k : Int) else pickFrom (left - wclamp l[k]) (k + 1) (l.drop (k + 1)) := by
  rw [List.drop_eq_getElem_cons hk]
  rfl

set_option maxRecDepth 20000 in
set_option maxHeartbeats 1000000 in
theorem pick_any (seed : Int) (word : ByteArray) (A : Option Addr) (B c : Nat) (ws : List Int) (w : World) (hr : IntsAt w B A ws) (hB : B ≤ w.heap.size) (hl : (ws.length : Int) ≤ 1000) (hw : word.size ≤ maxLen) :
    Calls Try.prog 22 #[.int .u64 seed, .string word, .slice A ws.length c] w fun e w' => e = .returned (.int .i64 (pickV seed word ws)) ∧ Below w.heap.size w w' := by
  obtain ⟨R, hR⟩ : ∃ R, pickV seed word ws = R := ⟨_, rfl⟩
  rw [hR]
  have HR := Lib.hid hR
  clear hR
  have hT := wsum_bd ws
  go_enter Try.func22, Try.ntmps22
  go_wp2
  go_loopg [7, 15] ws.length (fun rest s i wr => ∃ (k : Nat) (t : Int), i = .int .i64 k ∧ s = .int .i64 t ∧ 0 ≤ t ∧ Hid (t = wsum (ws.take k)) ∧ Hid (k + rest = ws.length) ∧ w = wr)
  case atStart => exact ⟨0, 0, rfl, rfl, Int.le_refl _, Lib.hid rfl, Lib.hid (by simp), rfl⟩
  case round =>
    obtain ⟨k, t, rfl, rfl, ht0, HT, HK, rfl⟩ := hrel
    have htle : t ≤ wsum ws := by rw [HT.out]; exact wsum_take_le _ _
    by_cases hk : (k : Int) < (ws.length : Int)
    · have hkl : k < ws.length := by omega
      obtain ⟨b, o, rfl, hb, hcell⟩ := hr.one hkl
      have HN : Hid (t + wclamp ws[k] = wsum (ws.take (k + 1))) := Lib.hid (by rw [List.take_succ_eq_append_getElem hkl, wsum_snoc, ← HT.out])
      have hwb := wclamp_bd ws[k]
      unfold wclamp at HN hwb
      generalize ws[k] = x at *
      go_wp2
      go_roundg (gk - 1)
      case measure => have := HK.out; omega
      case rel => exact ⟨k + 1, _, by go_num, rfl, by omega, HN, Lib.hid (by have := HK.out; omega), rfl⟩
    · have hkl : k = ws.length := by have := HK.out; omega
      have HT2 : Hid (t = wsum ws) := Lib.hid (by rw [HT.out, hkl, List.take_length])
      clear HT hkl
      by_cases h0 : t = 0
      · subst h0
        have HF : Hid (-1 = R) := Lib.hid (by rw [← HR.out]; unfold pickV; rw [if_pos HT2.out.symm])
        go_wp2
        go_ret
        exact ⟨ret_int HF.out, Below.refl _ _⟩
      · have h0b : (t == 0) = false := by simp [h0]
        have hh := hashV_bd seed [word]
        have hbd := belowV_bd (hashV seed [word]) t hh.1 hh.2
        have HF : Hid (R = pickFrom (belowV (hashV seed [word]) t) 0 ws) := Lib.hid (by rw [← HR.out]; unfold pickV; rw [← HT2.out, if_neg h0])
        have q1 := fun b W (h : W.cell? ⟨b, 0, none⟩ = some (.string word)) => hash_any seed (some ⟨b, 0, none⟩) (b + 1) 1 [word] W (strs_one h hw) (by simp)
        generalize hashV seed [word] = H at *
        have q2 := fun W => below_any H t W hh.1 hh.2 (by omega)
        generalize belowV H t = L at *
        obtain ⟨l0, l1, _⟩ := hbd
        have l2 := l1 (by omega)
        have Q1 := Lib.hid q1
        have Q2 := Lib.hid q2
        clear q1 q2 hh l1 h0
        have hA1 : Below w.heap.size w (w.alloc (.cells #[.string word] 9)) := (Below.refl _ _).alloc (Nat.le_refl _) _
        have hr1 := hr.below (hA1.mono hB)
        go_wp2_with fail
        refine (Q1.out _ _ (by go_simp)).mono ?_
        rintro e w1 ⟨rfl, rfl⟩
        go_wp2_with fail
        refine (Q2.out _).mono ?_
        rintro e w1 ⟨rfl, rfl⟩
        go_wp2_with fail
        generalize hW1 : w.alloc (.cells #[.string word] 9) = w1 at *
        clear hW1
        go_loopg [10, 35] ws.length (fun rest s i wr => ∃ (k : Nat) (t : Int), i = .int .i64 k ∧ s = .int .i64 t ∧ 0 ≤ t ∧ t ≤ 9223372036854775807 ∧ Hid (R = pickFrom t k (ws.drop k)) ∧ Hid (k + rest = ws.length) ∧ w1 = wr)
        case atStart => exact ⟨0, L, rfl, rfl, l0, by omega, Lib.hid (by rw [HF.out]; rfl), Lib.hid (by simp), rfl⟩
        case round =>
          obtain ⟨k2, t2, rfl, rfl, u0, u1, HT3, HK2, rfl⟩ := hrel
          by_cases hk2 : (k2 : Int) < (ws.length : Int)
          · have hkl2 : k2 < ws.length := by omega
            obtain ⟨b, o, rfl, hb, hcell⟩ := hr1.one hkl2
            have hst := pick_step t2 ws k2 hkl2
            have hwb := wclamp_bd ws[k2]
            by_cases hlt : t2 - wclamp ws[k2] < 0
            · rw [if_pos hlt] at hst
              have HF2 : Hid (R = (k2 : Int)) := Lib.hid (by rw [HT3.out, hst])
              clear hst
              unfold wclamp at hlt hwb
              generalize ws[k2] = x at *
              go_wp2
              go_ret
              exact ⟨ret_int HF2.out.symm, hA1⟩
            · rw [if_neg hlt] at hst
              have HF2 : Hid (R = pickFrom (t2 - wclamp ws[k2]) (k2 + 1) (ws.drop (k2 + 1))) := Lib.hid (by rw [HT3.out, hst])
              clear hst
              unfold wclamp at hlt hwb HF2
              generalize ws[k2] = x at *
              go_wp2
              go_roundg (gk - 1)
              case measure => have := HK2.out; omega
              case rel => exact ⟨k2 + 1, _, by go_num, rfl, by omega, by omega, HF2, Lib.hid (by have := HK2.out; omega), rfl⟩
          · have HF2 : Hid (R = -1) := Lib.hid (by rw [HT3.out, List.drop_of_length_le (by omega)]; rfl)
            go_wp2
            go_ret
            exact ⟨ret_int HF2.out.symm, hA1⟩
set_option maxHeartbeats 400000 in
theorem rweight_any (n : Int) (w : World) : Calls Try.prog 36 #[.int .i64 n] w fun e w' => e = .returned (.int .i64 (wclamp n)) ∧ w = w' := by
  by_cases h1 : n < 0
  · have e : wclamp n = 0 := by unfold wclamp; omega
    rw [e]; clear e
    go_enter Try.func36, Try.ntmps36
    go_wp2
    go_ret
    exact ⟨rfl, rfl⟩
  · by_cases h2 : 1048576 < n
    · have e : wclamp n = 1048576 := by unfold wclamp; omega
      rw [e]; clear e
      go_enter Try.func36, Try.ntmps36
      go_wp2
      go_ret
      exact ⟨rfl, rfl⟩
    · have e : wclamp n = n := by unfold wclamp; omega
      rw [e]; clear e
      go_enter Try.func36, Try.ntmps36
      go_wp2
      go_ret
      exact ⟨rfl, rfl⟩

set_option maxRecDepth 20000 in
set_option maxHeartbeats 1000000 in
theorem rpick_any (seed : Int) (word : ByteArray) (A : Option Addr) (B c : Nat) (ws : List Int) (w : World) (hr : IntsAt w B A ws) (hB : B ≤ w.heap.size) (hl : (ws.length : Int) ≤ 1000) (hw : word.size ≤ maxLen) (hw2 : (word.size : Int) ≤ 1000000) :
    Calls Try.prog 23 #[.int .u64 seed, .string word, .slice A ws.length c] w fun e w' => e = .returned (.int .i64 (pickV seed word ws)) ∧ Below w.heap.size w w' := by
  obtain ⟨R, hR⟩ : ∃ R, pickV seed word ws = R := ⟨_, rfl⟩
  rw [hR]
  have HR := Lib.hid hR
  clear hR
  have hT := wsum_bd ws
  go_enter Try.func23, Try.ntmps23
  go_wp2
  go_loopg [7, 8] ws.length (fun rest s i wr => ∃ (k : Nat) (t : Int), i = .int .i64 k ∧ s = .int .i64 t ∧ 0 ≤ t ∧ Hid (t = wsum (ws.take k)) ∧ Hid (k + rest = ws.length) ∧ w = wr)
  case atStart => exact ⟨0, 0, rfl, rfl, Int.le_refl _, Lib.hid rfl, Lib.hid (by simp), rfl⟩
  case round =>
    obtain ⟨k, t, rfl, rfl, ht0, HT, HK, rfl⟩ := hrel
    have htle : t ≤ wsum ws := by rw [HT.out]; exact wsum_take_le _ _
    by_cases hk : (k : Int) < (ws.length : Int)
    · have hkl : k < ws.length := by omega
      obtain ⟨b, o, rfl, hb, hcell⟩ := hr.one hkl
      have HN : Hid (t + wclamp ws[k] = wsum (ws.take (k + 1))) := Lib.hid (by rw [List.take_succ_eq_append_getElem hkl, wsum_snoc, ← HT.out])
      have hwb := wclamp_bd ws[k]
      have qw := fun W => rweight_any ws[k] W
      have QW := Lib.hid qw
      clear qw
      generalize hwx : wclamp ws[k] = wx at *
      clear hwx
      generalize ws[k] = x at *
      go_wp2_with fail
      refine (QW.out _).mono ?_
      rintro e w1 ⟨rfl, rfl⟩
      go_wp2
      go_roundg (gk - 1)
      case measure => have := HK.out; omega
      case rel => exact ⟨k + 1, _, by go_num, rfl, by omega, HN, Lib.hid (by have := HK.out; omega), rfl⟩
    · have hkl : k = ws.length := by have := HK.out; omega
      have HT2 : Hid (t = wsum ws) := Lib.hid (by rw [HT.out, hkl, List.take_length])
      clear HT hkl
      by_cases h0 : t = 0
      · subst h0
        have HF : Hid (-1 = R) := Lib.hid (by rw [← HR.out]; unfold pickV; rw [if_pos HT2.out.symm])
        go_wp2
        go_ret
        exact ⟨ret_int HF.out, Below.refl _ _⟩
      · have h0b : (t == 0) = false := by simp [h0]
        have hh := hashV_bd seed [word]
        have hbd := belowV_bd (hashV seed [word]) t hh.1 hh.2
        have HF : Hid (R = pickFrom (belowV (hashV seed [word]) t) 0 ws) := Lib.hid (by rw [← HR.out]; unfold pickV; rw [← HT2.out, if_neg h0])
        have q1 := fun b W (h : W.cell? ⟨b, 0, none⟩ = some (.string word)) => rhash_any seed (some ⟨b, 0, none⟩) (b + 1) 1 [word] W (strs_one h hw) (by simp) (by simpa using hw2)
        generalize hashV seed [word] = H at *
        have q2 := fun W => rbelow_any H t W hh.1 hh.2 (by omega)
        generalize belowV H t = L at *
        obtain ⟨l0, l1, _⟩ := hbd
        have l2 := l1 (by omega)
        have Q1 := Lib.hid q1
        have Q2 := Lib.hid q2
        clear q1 q2 hh l1 h0
        have hA1 : Below w.heap.size w (w.alloc (.cells #[.string word] 9)) := (Below.refl _ _).alloc (Nat.le_refl _) _
        have hr1 := hr.below (hA1.mono hB)
        go_wp2_with fail
        refine (Q1.out _ _ (by go_simp)).mono ?_
        rintro e w1 ⟨rfl, rfl⟩
        go_wp2_with fail
        refine (Q2.out _).mono ?_
        rintro e w1 ⟨rfl, rfl⟩
        go_wp2_with fail
        generalize hW1 : w.alloc (.cells #[.string word] 9) = w1 at *
        clear hW1
        go_loopg [9, 10] ws.length (fun rest s i wr => ∃ (k : Nat) (t : Int), i = .int .i64 k ∧ s = .int .i64 t ∧ 0 ≤ t ∧ t ≤ 9223372036854775807 ∧ Hid (R = pickFrom t k (ws.drop k)) ∧ Hid (k + rest = ws.length) ∧ w1 = wr)
        case atStart => exact ⟨0, L, rfl, rfl, l0, by omega, Lib.hid (by rw [HF.out]; rfl), Lib.hid (by simp), rfl⟩
        case round =>
          obtain ⟨k2, t2, rfl, rfl, u0, u1, HT3, HK2, rfl⟩ := hrel
          by_cases hk2 : (k2 : Int) < (ws.length : Int)
          · have hkl2 : k2 < ws.length := by omega
            obtain ⟨b, o, rfl, hb, hcell⟩ := hr1.one hkl2
            have hst := pick_step t2 ws k2 hkl2
            have hwb := wclamp_bd ws[k2]
            by_cases hlt : t2 - wclamp ws[k2] < 0
            · rw [if_pos hlt] at hst
              have HF2 : Hid (R = (k2 : Int)) := Lib.hid (by rw [HT3.out, hst])
              clear hst
              have qw := fun W => rweight_any ws[k2] W
              have QW := Lib.hid qw
              clear qw
              generalize hwx : wclamp ws[k2] = wx at *
              clear hwx
              generalize ws[k2] = x at *
              go_wp2_with fail
              refine (QW.out _).mono ?_
              rintro e w2 ⟨rfl, rfl⟩
              go_wp2
              go_ret
              exact ⟨ret_int HF2.out.symm, hA1⟩
            · rw [if_neg hlt] at hst
              have HF2 : Hid (R = pickFrom (t2 - wclamp ws[k2]) (k2 + 1) (ws.drop (k2 + 1))) := Lib.hid (by rw [HT3.out, hst])
              clear hst
              have qw := fun W => rweight_any ws[k2] W
              have QW := Lib.hid qw
              clear qw
              generalize hwx : wclamp ws[k2] = wx at *
              clear hwx
              generalize ws[k2] = x at *
              go_wp2_with fail
              refine (QW.out _).mono ?_
              rintro e w2 ⟨rfl, rfl⟩
              go_wp2
              go_roundg (gk - 1)
              case measure => have := HK2.out; omega
              case rel => exact ⟨k2 + 1, _, by go_num, rfl, by omega, by omega, HF2, Lib.hid (by have := HK2.out; omega), rfl⟩
          · have HF2 : Hid (R = -1) := Lib.hid (by rw [HT3.out, List.drop_of_length_le (by omega)]; rfl)
            go_wp2
            go_ret
            exact ⟨ret_int HF2.out.symm, hA1⟩
end Go.Proofs.Ytpbaokhlhhpiiaa
