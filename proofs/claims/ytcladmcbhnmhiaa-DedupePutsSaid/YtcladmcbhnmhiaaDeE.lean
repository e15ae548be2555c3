/- Walk of DedupePuts. -/
import Derived.Test.YtcladmcbhnmhiaaDeD
namespace Go.Proofs.Ytcladmcbhnmhiaa
open Go.ChangeShapes Go.WideShapes Go.ChangeAt Go.RowKit Go.Shelf Go.Lib Go.Sort Go.Proofs
set_option linter.unusedVariables false
set_option linter.unusedSimpArgs false

set_option maxHeartbeats 16000000 in
set_option maxRecDepth 100000 in
theorem puts_walk (A : Option Addr) (c : Nat) (l : List OpD) (key : ByteArray) (n : Int) (w : World) (h : OpsAt w w.heap.size A l) (hl : (l.length : Int) ≤ 9223372036854775807) (hkz : key.size ≤ maxLen) :
    Calls Try.prog 3 #[.slice A l.length c, .string key, .int .i64 n] w fun e w' => e = .returned (.bool true) ∧ Below w.heap.size w w' := by
  have HL := Lib.hid h
  clear h
  go_enter Try.func3, Try.ntmps3
  go_wp2_with fail
  refine Calls.mono (long_any A c l w HL.out hl) ?_
  rintro e w1 ⟨lb, rfl, hlong, hb1⟩
  have HB1 := Lib.hid hb1
  have HLG := Lib.hid hlong
  clear hb1 hlong
  have hgo : ∀ W, Below w.heap.size w W → Calls Try.prog 11 #[] W fun e w' => e = .returned (.bool true) ∧ Below w.heap.size w w' := fun W hW => (awake_any W).mono (by
    rintro e w2 ⟨rfl, hb2⟩
    exact ⟨rfl, hW.trans (hb2.mono hW.size)⟩)
  have HGO := Lib.hid hgo
  clear hgo
  cases lb with
  | true =>
    go_wp2_with fail
    refine Calls.mono (HGO.out w1 HB1.out) ?_
    rintro e w2 ⟨rfl, hb2⟩
    have HB2 := Lib.hid hb2
    clear hb2
    go_wp2
    go_ret
    exact ⟨rfl, HB2.out⟩
  | false =>
  obtain ⟨h80, -⟩ := HLG.out rfl
  by_cases h60 : (60 : Int) < (key.size : Int)
  · go_wp2_with fail
    refine Calls.mono (HGO.out w1 HB1.out) ?_
    rintro e w2 ⟨rfl, hb2⟩
    have HB2 := Lib.hid hb2
    clear hb2
    go_wp2
    go_ret
    exact ⟨rfl, HB2.out⟩
  have hd60 : decide ((60 : Int) < (key.size : Int)) = false := decide_eq_false h60
  go_wp2_with fail
  refine Calls.mono (fill_any A c w.heap.size l w1 (HL.out.below HB1.out) HB1.out.size (by omega)) ?_
  rintro e w2 ⟨sb, A2, c2, xs, G, H, rfl, hO, hS, hX, -, hG, -, hb2⟩
  have hB2 : Below w.heap.size w w2 := HB1.out.trans (hb2.mono HB1.out.size)
  have hF := foldF_ok l
  have hXo := foldX_ok l
  rw [← hX] at hXo
  obtain ⟨nu, nl, nll⟩ := names_of hX
  have HO := Lib.hid hO
  have HS := Lib.hid hS
  have HF := Lib.hid hF
  have HX := Lib.hid (And.intro hXo nu)
  have HN := Lib.hid (And.intro nl nll)
  have HB2 := Lib.hid hB2
  clear hO hS hF hXo nu nl nll hb2 hB2 hG hX
  generalize foldF l = F at *
  have hul := unlike_any sb G F A2 c2 xs l w2 HO.out HS.out.at_ HX.out.1 HF.out (by omega) (by have := HN.out.1; omega) (fun s hs => by have := HN.out.2 s hs; omega)
  have HUL := Lib.hid hul
  clear hul
  go_wp2_with fail
  refine Calls.mono HUL.out ?_
  rintro e w3 ⟨rfl, hb3⟩
  have HO3 := Lib.hid ((SetObj.own sb F).below HO.out hb3)
  have HS3 := Lib.hid ((SrcsObj.own A2 xs).below HS.out hb3)
  have HB3 := Lib.hid (HB2.out.trans (hb3.mono HB2.out.size))
  have hem : ((⟨#[]⟩ : ByteArray).toList == (⟨#[]⟩ : ByteArray).toList) = true := by rw [str_beq]; simp
  clear hb3
  have q1 := has_any sb G F key n w3 HO3.out hkz (by have := HF.out.len key; omega)
  have Q1 := Lib.hid q1
  clear q1
  have hb : decide (hasX (xs.map plS) key n) = decide (memR (F key) n) := decide_eq_decide.2 (HX.out.1.mem key n)
  have q2 := fun W (hW : Below w3.heap.size w3 W) => rhas07_any A2 c2 W.heap.size xs key n W ((SrcsObj.own A2 xs).below HS3.out hW).at_ HX.out.2 (by have := HN.out.1; omega) (fun s hs => by have := HN.out.2 s hs; omega)
  rw [hb] at q2
  have Q2 := Lib.hid q2
  have q4 := fun W (hW : Below w3.heap.size w3 W) => rnext_any A2 c2 W.heap.size xs key (F key) W ((SrcsObj.own A2 xs).below HS3.out hW).at_ HX.out.2 (by have := HN.out.1; omega) (fun s hs => by have := HN.out.2 s hs; omega) (HF.out.ok key) (HF.out.top key) (HX.out.1.mem key)
  have Q4 := Lib.hid q4
  have q3 := fun W (hW : Below w3.heap.size w3 W) => next_any sb G F key W ((SetObj.own sb F).below HO3.out hW) hkz
  have Q3 := Lib.hid q3
  clear q2 q3 q4 hb
  obtain ⟨hv, hhv⟩ : ∃ hv, hv = decide (memR (F key) n) := ⟨_, rfl⟩
  rw [← hhv] at Q1 Q2
  clear hhv
  obtain ⟨nx, hnx⟩ : ∃ nx, nx = nextR (F key) := ⟨_, rfl⟩
  rw [← hnx] at Q3 Q4
  clear hnx
  have hvv : (hv == hv) = true := by cases hv <;> rfl
  have hnn : (nx == nx) = true := by simp
  go_wp2_with fail
  refine Calls.mono Q1.out ?_
  rintro e w4 ⟨rfl, hb4⟩
  have HV4 := Lib.hid hb4
  clear hb4
  go_wp2_with fail
  refine Calls.mono (Q2.out w4 HV4.out) ?_
  rintro e w5 ⟨rfl, rfl⟩
  go_wp2_with fail
  refine Calls.mono (Q3.out w4 HV4.out) ?_
  rintro e w5 ⟨rfl, hb5⟩
  have HV5 := Lib.hid (HV4.out.trans (hb5.mono HV4.out.size))
  clear hb5
  go_wp2_with fail
  refine Calls.mono (Q4.out w5 HV5.out) ?_
  rintro e w6 ⟨rfl, rfl⟩
  go_wp2_with fail
  refine Calls.mono (HGO.out w5 (HB3.out.trans (HV5.out.mono HB3.out.size))) ?_
  rintro e w7 ⟨rfl, hb7⟩
  have HB7 := Lib.hid hb7
  clear hb7
  go_wp2
  go_ret
  exact ⟨rfl, HB7.out⟩
end Go.Proofs.Ytcladmcbhnmhiaa
