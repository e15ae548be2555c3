/- Counts as an argument; the walk of HeavyPlays. -/
import Derived.Test.YtpjaolablkcpmaaHvU
import Derived.Test.YtpjaolablkcpmaaHvV
namespace Go.Proofs.Ytpjaolablkcpmaa
open Go.ChangeShapes Go.WideShapes Go.ChangeAt Go.RowKit Go.Shelf Go.Lib Go.Sort Go.Proofs
set_option linter.unusedVariables false
set_option linter.unusedSimpArgs false

section
variable {H : Type} {enc : TypeId × Value → H} {w : World}
theorem dec_cnt : Dec enc Try.prog w 28 cntEnc (fun a => a.key.size ≤ maxLen) := by
  refine (dec_struct2 Try.underlying28 (by kernel_rfl) rfl (by kernel_rfl) (dec_string Try.underlying9) (dec_int Try.underlying2)).map (fun p => (⟨p.1, p.2⟩ : CntV)) (fun _ => rfl) (fun a h => h.1)
theorem dec_cnts : Dec enc Try.prog w 22 (slCells (α := CntV)) (SlEx w 2 cntEnc (fun a => a.key.size ≤ maxLen)) :=
  dec_slice Try.underlying22 (by omega) (by kernel_rfl) (fun _ => rfl) dec_cnt
end

set_option maxRecDepth 20000 in
set_option maxHeartbeats 2000000 in
theorem plays_walk (m : Int) (A : Option Addr) (c : Nat) (l : List CntV) (key : ByteArray) (n least : Int) (w : World) (hl : CntsAt w w.heap.size A l) (hlen : (l.length : Int) ≤ 9223372036854775807) (hk : key.size ≤ maxLen) (hn : n ≤ 9223372036854775807) :
    Calls Try.prog 4 #[.int .i64 m, .slice A l.length c, .string key, .int .i64 n, .int .i64 least] w fun e w' => e = .returned (.bool true) ∧ Below w.heap.size w w' := by
  have hks : strOk key := hk
  have HL := Lib.hid hl
  have HKS := Lib.hid hks
  clear hl hks
  by_cases g1 : bigB l 60 = true
  · go_enter Try.func4, Try.ntmps4
    go_wp2_with fail
    refine (lives14_any _).mono ?_
    rintro e w1 ⟨rfl, hb1⟩
    go_wp2_with fail
    refine (big14_any A c l 60 _ ((HL.out.below hb1).more hb1.size) hlen (by omega)).mono ?_
    rintro e w2 ⟨rfl, hb2⟩
    rw [g1]
    go_wp2
    go_ret
    exact ⟨rfl, hb1.trans (hb2.mono hb1.size)⟩
  · have g1' : bigB l 60 = false := by simpa using g1
    have hno := Lib.hid (bigB_no g1')
    clear g1
    by_cases g2 : 100 < (key.size : Int)
    · go_enter Try.func4, Try.ntmps4
      go_wp2_with fail
      refine (lives14_any _).mono ?_
      rintro e w1 ⟨rfl, hb1⟩
      go_wp2_with fail
      refine (big14_any A c l 60 _ ((HL.out.below hb1).more hb1.size) hlen (by omega)).mono ?_
      rintro e w2 ⟨rfl, hb2⟩
      rw [g1']
      go_wp2
      go_ret
      exact ⟨rfl, hb1.trans (hb2.mono hb1.size)⟩
    · go_enter Try.func4, Try.ntmps4
      go_wp2_with fail
      refine (lives14_any _).mono ?_
      rintro e w1 ⟨rfl, hb1⟩
      go_wp2_with fail
      refine (big14_any A c l 60 _ ((HL.out.below hb1).more hb1.size) hlen (by omega)).mono ?_
      rintro e w2 ⟨rfl, hb2⟩
      have hB2 : Below w.heap.size w w2 := hb1.trans (hb2.mono hb1.size)
      clear hb1 hb2
      rw [g1']
      go_wp2_with fail
      refine (grown14_any m A c l _ ((HL.out.below hB2).more hB2.size) (by have := hno.out.1; omega) hno.out.2).mono ?_
      rintro e w3 ⟨hb, xb, F, G, rfl, hH, hX, hap, hF, hG, hb3⟩
      have HH := Lib.hid hH
      have HX := Lib.hid hX
      have hB3 : Below w.heap.size w w3 := hB2.trans (hb3.mono hB2.size)
      clear hH hX hap hF hG hb3 hB2
      generalize addAll (newH m) l = st at *
      go_wp2_with fail
      refine (even_any hb xb F G st key n least _ HH.out HX.out HKS.out hn).mono ?_
      rintro e w4 ⟨rfl, hb4⟩
      go_wp2_with fail
      refine (even_any hb xb F G st key 5000 0 _ (HH.out.below hb4) (HX.out.below hb4) HKS.out (by omega)).mono ?_
      rintro e w5 ⟨rfl, hb5⟩
      go_wp2
      go_ret
      exact ⟨rfl, hB3.trans ((hb4.trans (hb5.mono hb4.size)).mono hB3.size)⟩
end Go.Proofs.Ytpjaolablkcpmaa
