/- Contract of (*pairs.table).all: a row of things is counted. -/
import Derived.Test.YtbmkejiijkbmlaaPrA
import Derived.Test.YtbmkejiijkbmlaaKitZ
namespace Go.Proofs.Ytbmkejiijkbmlaa
open Go.ChangeShapes Go.WideShapes Go.ChangeAt Go.RowKit
set_option linter.unusedVariables false
set_option linter.unusedSimpArgs false

instance decMemB (x : ByteArray) (l : List ByteArray) : Decidable (x ∈ l) := decidable_of_iff (memB x l = true) memB_iff

def addF (f : ByteArray → Int) (l : List ByteArray) (n : Int) : ByteArray → Int := fun x => f x + if x ∈ l then n else 0
def addG (g : ByteArray → ByteArray → Int) (l m : List ByteArray) (n : Int) : ByteArray → ByteArray → Int := fun x y => g x y + if x ∈ l ∧ y ∈ m ∧ x ≠ y then n else 0

section
variable (f : ByteArray → Int) (g : ByteArray → ByteArray → Int) (l m : List ByteArray) (a b : ByteArray) (n : Int)
theorem addF_nil : addF f [] n = f := by funext x; simp [addF]
theorem addF_snoc (h : a ∉ l) : setF (addF f l n) a n = addF f (l ++ [a]) n := by
  funext x
  unfold setF addF
  by_cases e : x = a
  · subst e; simp [h]
  · simp [e]
theorem addF_at (h : a ∉ l) : addF f l n a = f a := by simp [addF, h]
theorem addG_nil : addG g [] m n = g := by funext x y; simp [addG]
theorem addG_nil2 : addG g l [] n = g := by funext x y; simp [addG]
theorem addG_step (h : b ∉ m) (hab : a ≠ b) : setG (addG g [a] m n) a b n = addG g [a] (m ++ [b]) n := by
  funext x y
  unfold setG addG
  by_cases e : x = a
  · subst e
    by_cases e2 : y = b
    · subst e2; simp [h, hab]
    · simp [e2]
  · simp [e]
theorem addG_same (hab : a = b) : addG g [a] m n = addG g [a] (m ++ [b]) n := by
  subst hab
  funext x y
  unfold addG
  by_cases e : x = a
  · subst e
    by_cases e2 : y = x
    · subst e2; simp
    · simp [e2]
  · simp [e]
theorem addG_row (h : a ∉ l) : addG (addG g l m n) [a] m n = addG g (l ++ [a]) m n := by
  funext x y
  unfold addG
  by_cases e : x = a
  · subst e; simp [h]
  · simp [e]
theorem addG_at (h : a ∉ l) (h' : b ∉ m) (k : List ByteArray) : addG (addG g l k n) [a] m n a b = g a b := by simp [addG, h, h']
end

theorem nodup_not_take {α : Type} {l : List α} (h : l.Nodup) {k : Nat} (hk : k < l.length) : l[k] ∉ l.take k := by
  intro hm
  have e := List.take_succ_eq_append_getElem hk
  have h2 : (l.take (k + 1)).Nodup := h.sublist (List.take_sublist _ _)
  rw [e, List.nodup_append] at h2
  exact h2.2.2 _ hm _ (by simp) rfl

set_option maxRecDepth 20000 in
set_option maxHeartbeats 2000000 in
theorem all_any (tb : Nat) (F : Nat → Prop) (f : ByteArray → Int) (g : ByteArray → ByteArray → Int) (A : Option Addr) (c B : Nat) (l : List ByteArray) (n : Int) (w : World) (h : TabObj w tb F f g) (hl : StrsAt w B A l) (hB : B ≤ w.heap.size) (hA : ∀ b o sp, A = some ⟨b, o, sp⟩ → ¬ F b) (hlen : (l.length : Int) ≤ 1000000)
    (hn : l.Nodup) (n0 : 0 < n) (n1 : ∀ a, f a + n ≤ 1000000) (n2 : ∀ a b, g a b + n ≤ 1000000) :
    Calls Try.prog 23 #[.pointer (some ⟨tb, 0, none⟩), .slice A l.length c, .int .i64 n] w fun e w' => e = .returned (.tuple #[]) ∧ ∃ F', TabObj w' tb F' (addF f l n) (addG g l l n) ∧ Upd F w F' w' := by
  have HN := Lib.hid hn
  have HA := Lib.hid hA
  have HL := Lib.hid hl
  have HO := Lib.hid h
  have N1 := Lib.hid n1
  have N2 := Lib.hid n2
  clear hn hA hl h n1 n2
  go_enter Try.func23, Try.ntmps23
  go_wp2_with fail
  go_loopg [12] l.length (fun rest i wr => ∃ (k : Nat) (F' : Nat → Prop), i = .int .i64 k ∧ Hid (k + rest = l.length) ∧ Hid (TabObj wr tb F' (addF f (l.take k) n) (addG g (l.take k) l n)) ∧ Hid (Upd F w F' wr))
  case atStart => exact ⟨0, F, rfl, Lib.hid (by simp), Lib.hid (by rw [List.take_zero, addF_nil, addG_nil]; exact HO.out), Lib.hid (Upd.refl _ _)⟩
  case round =>
    obtain ⟨k, F1, rfl, HK, HT, HU⟩ := hrel
    by_cases hk : (k : Int) < (l.length : Int)
    · have hkl : k < l.length := by omega
      have hat := HL.out.keep HU.out.keeps hB HA.out
      obtain ⟨b, o, rfl, hbl, d1, s1⟩ := hat.one hkl
      have hnt := nodup_not_take HN.out hkl
      have hts := List.take_succ_eq_append_getElem hkl
      have HNT := Lib.hid hnt
      have HTS := Lib.hid hts
      clear hnt hts hat
      generalize l[k] = x at *
      have hs1 := single_any tb F1 (addF f (l.take k) n) (addG g (l.take k) l n) x n wr HT.out (by unfold maxLen; omega) n0 (by rw [addF_at _ _ _ _ HNT.out]; exact N1.out x)
      have HS1 := Lib.hid hs1
      clear hs1
      go_wp2_with fail
      refine HS1.out.mono ?_
      rintro e w1 ⟨rfl, F2, hT2, hU2⟩
      rw [addF_snoc _ _ _ _ HNT.out, ← HTS.out] at hT2
      have HT2 := Lib.hid hT2
      have HU2 := Lib.hid (HU.out.trans hU2)
      clear hT2 hU2 HS1 HT d1
      go_wp2_with fail
      generalize wr = w2 at *
      generalize gk = g2 at *
      go_loopg [22] l.length (fun rest i wx => ∃ (j : Nat) (F' : Nat → Prop), i = .int .i64 j ∧ Hid (j + rest = l.length) ∧ Hid (TabObj wx tb F' (addF f (l.take (k + 1)) n) (addG (addG g (l.take k) l n) [x] (l.take j) n)) ∧ Hid (Upd F w F' wx))
      case atStart => exact ⟨0, F2, rfl, Lib.hid (by simp), Lib.hid (by rw [List.take_zero, addG_nil2]; exact HT2.out), HU2⟩
      case round =>
        clear HT2 HU2
        obtain ⟨j, F3, rfl, HJ, HT3, HU3⟩ := hrel
        by_cases hj : (j : Int) < (l.length : Int)
        · have hjl : j < l.length := by omega
          have hat := HL.out.keep HU3.out.keeps hB HA.out
          obtain ⟨b', o', e', hbl', d1, s2⟩ := hat.one hjl
          injection e' with e'
          injection e' with e1 e2 e3
          subst e1 e2
          have hnt := nodup_not_take HN.out hjl
          have hts := List.take_succ_eq_append_getElem hjl
          have HNT2 := Lib.hid hnt
          have HTS2 := Lib.hid hts
          clear hnt hts hat e3
          generalize l[j] = y at *
          by_cases hxy : x = y
          · have hb1 : (x.toList == y.toList) = true := by rw [str_beq]; simp [hxy]
            have hst := addG_same (addG g (l.take k) l n) (l.take j) x y n hxy
            rw [← HTS2.out] at hst
            have HST := Lib.hid hst
            clear hst hxy
            go_wp2_with fail
            go_roundg (gk - 1)
            case measure => have := HJ.out; omega
            case rel => exact ⟨j + 1, F3, by go_num, Lib.hid (by have := HJ.out; omega), Lib.hid (by rw [← HST.out]; exact HT3.out), HU3⟩
          · have hb1 : (x.toList == y.toList) = false := by rw [str_beq]; simp [hxy]
            have hp1 := pair_any tb F3 (addF f (l.take (k + 1)) n) (addG (addG g (l.take k) l n) [x] (l.take j) n) x y n wr HT3.out (by unfold maxLen; omega) (by unfold maxLen; omega) n0 (by rw [addG_at _ _ _ _ _ _ HNT.out HNT2.out]; exact N2.out x y)
            have HP1 := Lib.hid hp1
            have HXY := Lib.hid hxy
            clear hp1 hxy
            go_wp2_with fail
            refine HP1.out.mono ?_
            rintro e w3 ⟨rfl, F4, hT4, hU4⟩
            rw [addG_step _ _ _ _ _ HNT2.out HXY.out, ← HTS2.out] at hT4
            have HT4 := Lib.hid hT4
            have HU4 := Lib.hid (HU3.out.trans hU4)
            clear hT4 hU4 HP1 HT3
            go_wp2_with fail
            go_roundg (gk - 1)
            case measure => have := HJ.out; omega
            case rel => exact ⟨j + 1, F4, by go_num, Lib.hid (by have := HJ.out; omega), HT4, HU4⟩
        · have hj' : j = l.length := by have := HJ.out; omega
          go_wp2_with fail
          go_roundg (g2 - 1)
          case measure => have := HK.out; omega
          case rel =>
            refine ⟨k + 1, F3, by go_num, Lib.hid (by have := HK.out; omega), Lib.hid ?_, HU3⟩
            have h3 := HT3.out
            rw [hj', List.take_length, addG_row _ _ _ _ _ HNT.out, ← HTS.out] at h3
            exact h3
    · have hk' : k = l.length := by have := HK.out; omega
      go_wp2_with fail
      go_end0
      have h3 := HT.out
      rw [hk', List.take_length] at h3
      exact ⟨rfl, F1, h3, HU.out⟩
end Go.Proofs.Ytbmkejiijkbmlaa
