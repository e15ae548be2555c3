/- The reference's Has and Few (layer 18). -/
import Derived.Test.YtbmkejiijkbmlaaPrH
namespace Go.Proofs.Ytbmkejiijkbmlaa
open Go.ChangeShapes Go.WideShapes Go.ChangeAt Go.RowKit Go.Shelf Go.Lib Go.Sort Go.Proofs
set_option linter.unusedVariables false
set_option linter.unusedSimpArgs false

set_option maxHeartbeats 1000000 in
theorem has_any (s : SessD) (a : ByteArray) (B : Nat) (w : World) (h : SessOk w B s) (hB : B ≤ w.heap.size) (hl : (s.l.length : Int) ≤ 1000000) :
    Calls Try.prog 13 #[.agg (sessCells s).toArray, .string a] w fun e w' => e = .returned (.bool (decide (a ∈ s.l))) ∧ Below w.heap.size w w' := by
  obtain ⟨who, fr, to, A, c, l⟩ := s
  obtain ⟨hs, hm⟩ := h
  simp only at hs hm hl ⊢
  obtain ⟨W1, hW1⟩ : ∃ W1, W1 = w.alloc (.cells #[.string who, .int .i64 fr, .int .i64 to, .slice A l.length c] 34) := ⟨_, rfl⟩
  have hb1 : Below w.heap.size w W1 := by rw [hW1]; exact (Below.refl _ w).alloc (Nat.le_refl _) _
  have d1 : W1.cell? ⟨w.heap.size, 3, none⟩ = some (.slice A l.length c) := by rw [hW1]; simp
  have hs1 := hs.below (hb1.mono hB)
  have HS := Lib.hid hs1
  unfold sessCells
  clear hs hs1
  go_enter Try.func13, Try.ntmps13
  go_wp2_with fail
  rw [← hW1]
  clear hW1
  go_loopg [5] l.length (fun rest i wr => ∃ k : Nat, i = .int .i64 k ∧ Hid (k + rest = l.length) ∧ Hid (a ∉ l.take k) ∧ wr = W1)
  case atStart => exact ⟨0, rfl, Lib.hid (by simp), Lib.hid (by simp), rfl⟩
  case round =>
    obtain ⟨k, rfl, HK, HN, rfl⟩ := hrel
    by_cases hk : (k : Int) < (l.length : Int)
    · have hkl : k < l.length := by omega
      obtain ⟨b, o, rfl, hbl, e1, s1⟩ := HS.out.one hkl
      have ht := List.take_succ_eq_append_getElem hkl
      have hmem := List.getElem_mem hkl
      have HT := Lib.hid ht
      have HM := Lib.hid hmem
      clear ht hmem
      generalize l[k] = x at *
      by_cases hx : x = a
      · have hb : (x.toList == a.toList) = true := by rw [str_beq]; simp [hx]
        have hd : decide (a ∈ l) = true := by rw [← hx]; simpa using HM.out
        clear hx
        go_wp2
        go_ret
        first | exact ⟨rfl, hb1⟩ | exact ⟨by rw [hd]; rfl, hb1⟩
      · have hb : (x.toList == a.toList) = false := by rw [str_beq]; simp [hx]
        have HN2 : Hid (a ∉ l.take (k + 1)) := Lib.hid (by
          rw [HT.out, List.mem_append]
          rintro (h | h)
          · exact HN.out h
          · exact hx (by simpa using h : a = x).symm)
        clear hx
        go_wp2
        go_roundg (gk - 1)
        case measure => have := HK.out; omega
        case rel => exact ⟨k + 1, by go_num, Lib.hid (by have := HK.out; omega), HN2, rfl⟩
    · have hd : decide (a ∈ l) = false := by
        have h1 := HN.out
        have h2 : k = l.length := by have := HK.out; omega
        rw [h2, List.take_length] at h1
        simpa using h1
      go_wp2
      go_ret
      first | exact ⟨rfl, hb1⟩ | exact ⟨by rw [hd]; rfl, hb1⟩

/-- What Few tells. -/
def FewP (l : List SessD) : Prop := (l.length : Int) ≤ 41 ∧ ∀ s ∈ l, (s.l.length : Int) ≤ 20 ∧ ∀ x ∈ s.l, (x.size : Int) ≤ 100

def FewNew (w : World) (l : List SessD) (e : Ending) (w' : World) : Prop := ∃ b, e = .returned (.bool b) ∧ (b = true → FewP l) ∧ Below w.heap.size w w'

set_option maxHeartbeats 2000000 in
theorem few_any (A : Option Addr) (c B : Nat) (l : List SessD) (w : World) (h : SessAt w B A l) (hB : B ≤ w.heap.size) (hl : (l.length : Int) ≤ 9223372036854775807) :
    Calls Try.prog 9 #[.slice A l.length c] w (FewNew w l) := by
  have HL := Lib.hid h
  clear h
  go_enter Try.func9, Try.ntmps9
  go_wp2_with fail
  go_loopg [3] l.length (fun rest i wr => ∃ k : Nat, i = .int .i64 k ∧ Hid (k + rest = l.length) ∧ (k : Int) ≤ 41 ∧ Hid (∀ s ∈ l.take k, (s.l.length : Int) ≤ 20 ∧ ∀ x ∈ s.l, (x.size : Int) ≤ 100) ∧ Below w.heap.size w wr)
  case atStart => exact ⟨0, rfl, Lib.hid (by simp), by omega, Lib.hid (by simp), Below.refl _ _⟩
  case round =>
    obtain ⟨k, rfl, HK, hk41, HN, hbr⟩ := hrel
    by_cases hk : (k : Int) < (l.length : Int)
    · have hkl : k < l.length := by omega
      obtain ⟨b, o, rfl, hbl, c1, c2, c3, c4, hok⟩ := (HL.out.below (hbr.mono hB)).one hkl
      have ht := List.take_succ_eq_append_getElem hkl
      have HT := Lib.hid ht
      have HOK := Lib.hid hok
      clear ht hok c1 c2 c3
      generalize l[k] = x at *
      obtain ⟨who, fr, to, xa, xc, xl⟩ := x
      simp only at c4
      have hst : StrsAt wr B xa xl := HOK.out.1
      have HST := Lib.hid hst
      clear hst HOK
      by_cases h40 : 40 < (k : Int)
      · go_wp2
        go_ret
        exact ⟨false, rfl, by simp, hbr⟩
      · by_cases h20 : 20 < (xl.length : Int)
        · go_wp2
          go_ret
          exact ⟨false, rfl, by simp, hbr⟩
        · go_wp2_with fail
          generalize wr = w2 at *
          generalize gk = g2 at *
          go_loopg [4] xl.length (fun rest i wx => ∃ j : Nat, i = .int .i64 j ∧ Hid (j + rest = xl.length) ∧ Hid (∀ y ∈ xl.take j, (y.size : Int) ≤ 100) ∧ wx = w2)
          case atStart => exact ⟨0, rfl, Lib.hid (by simp), Lib.hid (by simp), rfl⟩
          case round =>
            obtain ⟨j, rfl, HJ, HY, rfl⟩ := hrel
            by_cases hj : (j : Int) < (xl.length : Int)
            · have hjl : j < xl.length := by omega
              obtain ⟨b', o', rfl, hbl', d1, s2⟩ := HST.out.one hjl
              have ht2 := List.take_succ_eq_append_getElem hjl
              have HT2 := Lib.hid ht2
              clear ht2
              generalize xl[j] = y at *
              by_cases hy : 100 < (y.size : Int)
              · go_wp2
                go_ret
                exact ⟨false, rfl, by simp, hbr⟩
              · have HY2 : Hid (∀ z ∈ xl.take (j + 1), (z.size : Int) ≤ 100) := Lib.hid (by
                  rw [HT2.out]
                  intro z hz
                  rcases List.mem_append.1 hz with hz | hz
                  · exact HY.out z hz
                  · have : z = y := by simpa using hz
                    rw [this]; omega)
                go_wp2
                go_roundg (gk - 1)
                case measure => have := HJ.out; omega
                case rel => exact ⟨j + 1, by go_num, Lib.hid (by have := HJ.out; omega), HY2, rfl⟩
            · have HN2 : Hid (∀ s ∈ l.take (k + 1), (s.l.length : Int) ≤ 20 ∧ ∀ x ∈ s.l, (x.size : Int) ≤ 100) := Lib.hid (by
                rw [HT.out]
                intro z hz
                rcases List.mem_append.1 hz with hz | hz
                · exact HN.out z hz
                · have : z = ⟨who, fr, to, xa, xc, xl⟩ := by simpa using hz
                  subst this
                  have h1 := HY.out
                  have h2 : j = xl.length := by have := HJ.out; omega
                  rw [h2, List.take_length] at h1
                  exact ⟨by omega, h1⟩)
              go_wp2
              go_roundg (g2 - 1)
              case measure => have := HK.out; omega
              case rel => exact ⟨k + 1, by go_num, Lib.hid (by have := HK.out; omega), by omega, HN2, hbr⟩
    · have hF : FewP l := by
        have h1 := HN.out
        have h2 : k = l.length := by have := HK.out; omega
        rw [h2, List.take_length] at h1
        exact ⟨by omega, h1⟩
      go_wp2
      go_ret
      exact ⟨true, rfl, fun _ => hF, hbr⟩
end Go.Proofs.Ytbmkejiijkbmlaa
