/- Contract of dedupe.source at bytes that Encode has put. -/
import Derived.Test.YtcladmcbhnmhiaaDeH
namespace Go.Proofs.Ytcladmcbhnmhiaa
open Go.ChangeShapes Go.WideShapes Go.ChangeAt Go.RowKit Go.Shelf Go.Lib Go.Sort Go.Proofs
set_option linter.unusedVariables false
set_option linter.unusedSimpArgs false

def SrcNew (w : World) (b : Nat) (k : ByteArray) (rest : List UInt8) (e : Ending) (w' : World) : Prop :=
  ∃ o' c', e = .returned (.tuple #[.string k, .slice (some ⟨b, o', none⟩) (List.length rest) c', .int .i64 0]) ∧ BySl w' b o' c' rest ∧ Below w.heap.size w w' ∧ c' ≤ maxLen
theorem conv_sl {w : World} {b o c c2 : Nat} {l : List UInt8} (h : BySl w b o c l) {n : Nat} (hn : n ≤ l.length) : (convert 52 9 (.slice (some ⟨b, o, none⟩) n c2)).run Try.prog w = .ok (.string ⟨(l.take n).toArray⟩) w := by
  have hl : (l.take n).length = n := by rw [List.length_take]; omega
  have q := run_convert_bytes_back (P := Try.prog) w 52 9 5 ⟨b, o, none⟩ c2 (l.take n) Try.underlying52 Try.underlying5 Try.underlying9 (fun j hj => by
    have hadd : (⟨b, o, none⟩ : Addr).add j = ⟨b, o + j, none⟩ := by unfold Addr.add; split <;> simp_all
    rw [hadd, h.cells j (by rw [hl] at hj; omega), List.getElem_take])
  rw [hl] at q
  exact q
theorem u8_small {n : Nat} (h : n < 256) : (UInt8.ofNat n).toNat = n := by simp; omega
theorem src_facts (L S c r : Nat) (h1 : 1 ≤ S) (h2 : (S : Int) ≤ 24) (h3 : L = 1 + S + r) (h4 : L ≤ c) (h5 : c ≤ maxLen) :
    ¬ L = 0 ∧ ((L : Int) == 0) = false ∧ wrap64 ((L : Int) - 1) = (L : Int) - 1 ∧ wrap64 (S : Int) = (S : Int) ∧ ¬ ((L : Int) - 1 < (S : Int)) ∧ decide ((L : Int) - 1 < (S : Int)) = false ∧ wrap64 (1 + (S : Int)) = 1 + (S : Int) ∧ (1 + (S : Int)).toNat = 1 + S ∧ (0 : Int) < (L : Int) ∧ 1 + (S : Int) ≤ (L : Int) ∧ (0 : Int) ≤ 1 + (S : Int) ∧ (1 : Int) ≤ 1 + (S : Int) ∧ 1 + (S : Int) ≤ (c : Int) ∧ 0 < L := by
  unfold maxLen at h5
  have f5 : ¬ ((L : Int) - 1 < (S : Int)) := by omega
  unfold wrap64
  refine ⟨by omega, by rw [beq_eq_false_iff_ne]; omega, by omega, by omega, f5, decide_eq_false f5, by omega, by omega, by omega, by omega, by omega, by omega, by omega, by omega⟩
set_option maxHeartbeats 16000000 in
set_option maxRecDepth 100000 in
theorem dsrc_any (b o c : Nat) (k : ByteArray) (l rest : List UInt8) (w : World) (h : BySl w b o c l) (hl : l = UInt8.ofNat k.size :: (k.data.toList ++ rest)) (hk : nameB k = true) (hc : c ≤ maxLen) :
    Calls Try.prog 39 #[.slice (some ⟨b, o, none⟩) l.length c] w (SrcNew w b k rest) := by
  obtain ⟨k1, k2, -⟩ := (nameB_iff k).1 hk
  have hcap := h.cap
  have hkl : k.data.toList.length = k.size := Array.length_toList
  have hll : l.length = 1 + k.size + rest.length := by rw [hl, List.length_cons, List.length_append, hkl]; omega
  have hc0 := h.cells 0 (by omega)
  have hb0 : (l[0]'(by omega)).toNat = k.size := by
    have h9 : l[0]? = some (UInt8.ofNat k.size) := by rw [hl]; rfl
    rw [(List.getElem?_eq_some_iff.1 h9).2]
    exact u8_small (by omega)
  rw [hb0, Nat.add_zero] at hc0
  have hd1 : l.drop 1 = k.data.toList ++ rest := by rw [hl]; rfl
  have hdk : l.drop (1 + k.size) = rest := by
    rw [← List.drop_drop, hd1, List.drop_append_of_le_length (by omega), List.drop_of_length_le (by omega), List.nil_append]
  have hS1 := h.drop (k := 1) (by omega)
  have hcv := fun c2 => conv_sl (c2 := c2) hS1 (n := k.size) (by rw [hd1, List.length_append]; omega)
  have hst : (⟨((l.drop 1).take k.size).toArray⟩ : ByteArray) = k := by
    rw [hd1, List.take_append_of_le_length (by omega), List.take_of_length_le (by omega)]
  rw [hst] at hcv
  have hby : BySl w b (dropO c (1 + k.size) o) (c - (1 + k.size)) rest := by rw [← hdk]; exact h.drop (by omega)
  have hrl : rest.length = l.length - (1 + k.size) := by omega
  have hfin : ∀ m, SrcNew w b k rest (.returned (.tuple #[.string k, .slice (some ⟨b, dropO c (1 + k.size) o, none⟩) (l.length - (1 + k.size)) (c - (1 + k.size)), .int .i64 0])) (w.drewN m) := fun m => by
    rw [← hrl]
    exact ⟨_, _, rfl, hby.below (below_drewN (Below.refl _ _) m), below_drewN (Below.refl _ _) m, Nat.le_trans (Nat.sub_le _ _) hc⟩
  have HFN := Lib.hid hfin
  have hnm := name_any k w (by unfold maxLen; omega)
  rw [hk] at hnm
  have HNM := Lib.hid hnm
  have hsl1 := slice_at b o c 1
  have hsl2 := slice_at b o c (1 + k.size)
  obtain ⟨L, hL⟩ : ∃ L, L = l.length := ⟨_, rfl⟩
  rw [← hL] at HFN hll ⊢
  have hLc : L ≤ c := by rw [hL]; exact hcap
  obtain ⟨S, hS⟩ : ∃ S, S = k.size := ⟨_, rfl⟩
  rw [← hS] at HFN hll hsl2 hcv hc0 k1 k2
  obtain ⟨f1, f2, f3, f4, f5, f6, f7, f8, f9, f10, f11, f12, f13, f14⟩ := src_facts L S c rest.length (Int.ofNat_le.1 k1) k2 hll hLc hc
  clear hst hby hrl hfin hnm hS1 hd1 hdk hb0 hkl hl h hll hL hS
  have hcv' := hcv (c - 1)
  have HSL2 := Lib.hid (And.intro hsl2 (And.intro f10 (And.intro f11 f13)))
  clear hcv hk hc hcap hLc k1 k2
  go_enter Try.func39, Try.ntmps39
  go_wp2_with fail
  refine Calls.mono HNM.out ?_
  rintro e w1 ⟨rfl, rfl⟩
  obtain ⟨hsl2, f10, f11, f13⟩ := HSL2.out
  clear hcv'
  go_wp2_with fail
  go_quiet (fail)
  all_goals go_wp2_with fail
  all_goals go_ret3
  all_goals exact HFN.out _
end Go.Proofs.Ytcladmcbhnmhiaa
