/- The chapter's example: contract of awake. -/
import Derived.Test.YtcladmcbhnmhiaaDdH
import Derived.Laws.IdiomStrings
namespace Go.Proofs.Ytcladmcbhnmhiaa
open Go.ChangeShapes Go.WideShapes Go.ChangeAt Go.RowKit Go.Shelf Go.Lib Go.Sort Go.Proofs
set_option linter.unusedVariables false
set_option linter.unusedSimpArgs false

set_option maxRecDepth 100000 in
/-- The bytes of a row as a text. -/
theorem conv_row {w : World} {base : Nat} {A : Option Addr} {c : Nat} {l : List UInt8} (h : ByRow w base A c l) : (convert 52 9 (.slice A l.length c)).run Try.prog w = .ok (.string ⟨l.toArray⟩) w := by
  rcases h.2 with ⟨h1, h2⟩ | ⟨g, cap, cur, h1, -⟩
  · have hl : l = [] := List.eq_nil_of_length_eq_zero h2
    subst hl
    injection h1 with e1 e2 e3
    subst e1 e3
    exact run_convert_bytes_nil (P := Try.prog) w 52 5 Try.underlying52 Try.underlying5 0 0 9 Try.underlying9
  · injection h1 with e1 e2 e3
    subst e1 e3
    refine run_convert_bytes_back (P := Try.prog) w 52 9 5 ⟨g, 0, none⟩ c l Try.underlying52 Try.underlying5 Try.underlying9 (fun j hj => ?_)
    exact h.cells (g := g) rfl j _ (by unfold byC; rw [List.getElem?_map, List.getElem?_eq_getElem hj]; rfl)
theorem numB_small {n : Nat} (h : n < 128) : numB n = [UInt8.ofNat n] := by rw [numB, dif_pos h]

def kA : ByteArray := ⟨#[97]⟩
def Fa (R : List Rg) : RowsF := fun x => if x = kA then R else []
theorem Fa_put {R : List Rg} {n : Int} (h : putB (Fa R) kA n = true) : putF (Fa R) kA n = Fa (putR R n) := by
  unfold putF
  rw [if_pos h]
  funext x
  unfold updF Fa
  split <;> simp
theorem Fa_nil : (fun _ => [] : RowsF) = Fa [] := by funext x; unfold Fa; split <;> rfl
theorem Fa_at (R : List Rg) : Fa R kA = R := by unfold Fa; simp
theorem kA_len : kA.size ≤ maxLen := by unfold maxLen; decide
theorem kA_keys {R : List Rg} (h : R ≠ []) : KeysF (Fa R) [kA] := by
  refine ⟨by simp, fun k => ?_⟩
  unfold Fa
  by_cases e : k = kA
  · simp [e, h]
  · simp [e]

set_option maxHeartbeats 4000000 in
set_option maxRecDepth 100000 in
theorem awake_any (w : World) : Calls Try.prog 11 #[] w fun e w' => e = .returned (.bool true) ∧ Below w.heap.size w w' := by
  go_enter Try.func11, Try.ntmps11
  go_wp2_with fail
  refine Calls.mono (dnew_any w) ?_
  rintro e w1 ⟨sb, G, rfl, hO, hG, hb1⟩
  rw [Fa_nil] at hO
  have HO1 := Lib.hid hO
  have HG1 := Lib.hid hG
  have HB1 := Lib.hid hb1
  clear hO hG hb1
  have hp := fun (W : World) (G' : Nat → Prop) (R : List Rg) (n : Int) (h : SetObj W sb G' (Fa R)) (hl : R.length < 900000) (h1 : -9223372036854775808 ≤ n) (h2 : n ≤ 9223372036854775807) => put_any sb G' (Fa R) kA n W h kA_len (by rw [Fa_at]; exact hl) h1 h2
  have HP := Lib.hid hp
  clear hp
  have b1 : putB (Fa []) kA 1 = true := by decide
  have r1 : putR [] 1 = [(1, 2)] := by decide
  have b2 : putB (Fa [(1, 2)]) kA 2 = true := by decide
  have r2 : putR [(1, 2)] 2 = [(1, 3)] := by decide
  have b3 : putB (Fa [(1, 3)]) kA 4 = true := by decide
  have r3 : putR [(1, 3)] 4 = [(1, 3), (4, 5)] := by decide
  have b4 : putB (Fa [(1, 3), (4, 5)]) kA 2 = false := by decide
  have hE : EncOk (Fa [(1, 3), (4, 5)]) [kA] := by
    refine ⟨kA_keys (by simp), by simp, fun k hk => ?_, fun k r hr => ?_, fun k => ?_, ?_⟩
    · simp at hk; subst hk; decide
    · unfold Fa at hr
      split at hr
      · simp at hr
        rcases hr with rfl | rfl <;> decide
      · simp at hr
    · unfold Fa
      split <;> simp
    · simp [encF, encS, Fa_at, encR, numB_small]
      decide
  have hbytes : encF (Fa [(1, 3), (4, 5)]) [kA] = [1, 1, 97, 2, 0, 2, 1, 1] := by
    simp [encF, encS, Fa_at, encR, numB_small]
    decide
  have hnx : nextR (Fa [(1, 3), (4, 5)] kA) = 3 := by decide
  have hct : sumK (Fa [(1, 3), (4, 5)]) [kA] = 3 := by decide
  have HEE := Lib.hid hE
  have HBY := Lib.hid hbytes
  clear hE hbytes
  go_wp2_with fail
  refine Calls.mono (HP.out w1 G [] 1 HO1.out (by simp) (by omega) (by omega)) ?_
  rintro e w2 ⟨G2, rfl, hO2, hU2⟩
  rw [Fa_put b1, r1] at hO2
  rw [b1]
  have HO2 := Lib.hid hO2
  have HU2 := Lib.hid hU2
  clear hO2 hU2 b1 r1
  go_wp2_with fail
  refine Calls.mono (HP.out w2 G2 _ 2 HO2.out (by simp) (by omega) (by omega)) ?_
  rintro e w3 ⟨G3, rfl, hO3, hU3⟩
  rw [Fa_put b2, r2] at hO3
  rw [b2]
  have HO3 := Lib.hid hO3
  have HU3 := Lib.hid (HU2.out.trans hU3)
  clear hO3 hU3 b2 r2 HU2 HO2
  go_wp2_with fail
  refine Calls.mono (HP.out w3 G3 _ 4 HO3.out (by simp) (by omega) (by omega)) ?_
  rintro e w4 ⟨G4, rfl, hO4, hU4⟩
  rw [Fa_put b3, r3] at hO4
  rw [b3]
  have HO4 := Lib.hid hO4
  have HU4 := Lib.hid (HU3.out.trans hU4)
  clear hO4 hU4 b3 r3 HU3 HO3
  go_wp2_with fail
  refine Calls.mono (HP.out w4 G4 _ 2 HO4.out (by simp) (by omega) (by omega)) ?_
  rintro e w5 ⟨G5, rfl, hO5, hU5⟩
  have hO5' : SetObj w5 sb G5 (Fa [(1, 3), (4, 5)]) := by
    unfold putF at hO5
    rw [b4] at hO5
    exact hO5
  rw [b4]
  have HO5 := Lib.hid hO5'
  have HU5 := Lib.hid (HU4.out.trans hU5)
  clear hO5 hO5' hU5 b4 HU4 HO4
  go_wp2_with fail
  refine Calls.mono (next_any sb G5 _ kA w5 HO5.out kA_len) ?_
  rintro e w6 ⟨rfl, hb6⟩
  rw [hnx]
  have HO6 := Lib.hid ((SetObj.own sb _).below HO5.out hb6)
  have HB6 := Lib.hid hb6
  clear hb6 hnx
  go_wp2_with fail
  refine Calls.mono (count_any sb G5 _ w6 HO6.out [kA] HEE.out.keys HEE.out.n HEE.out.top HEE.out.len) ?_
  rintro e w7 ⟨rfl, hb7⟩
  rw [hct]
  have HO7 := Lib.hid ((SetObj.own sb _).below HO6.out hb7)
  have HB7 := Lib.hid (HB6.out.trans (hb7.mono HB6.out.size))
  clear hb7 hct HB6
  go_wp2_with fail
  refine Calls.mono (encode_any sb G5 _ [kA] w7 HO7.out HEE.out) ?_
  rintro e w8 ⟨A8, k8, rfl, hr8, hb8⟩
  rw [HBY.out] at hr8 ⊢
  have hcv : (convert 52 9 (.slice A8 8 k8)).run Try.prog w8 = .ok (.string ⟨#[1, 1, 97, 2, 0, 2, 1, 1]⟩) w8 := conv_row hr8
  have hB8 : Below w.heap.size w w8 := by
    have h1 := HU5.out.belowB HB1.out (Nat.le_refl _) HG1.out
    exact h1.trans ((HB7.out.trans (hb8.mono HB7.out.size)).mono h1.size)
  have HB8 := Lib.hid hB8
  clear hB8 hb8 hr8
  go_wp2
  go_ret
  exact ⟨by first | rfl | decide, HB8.out⟩
end Go.Proofs.Ytcladmcbhnmhiaa
