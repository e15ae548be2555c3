/- The walk of the statement RisingOf. -/
import Derived.Test.YtbfjknpljkmgjaaRisS
namespace Go.Proofs.Ytbfjknpljkmgjaa
open Go.ChangeShapes Go.WideShapes Go.ChangeAt Go.RowKit Go.Shelf Go.Lib Go.Sort Go.Proofs
set_option linter.unusedVariables false
set_option linter.unusedSimpArgs false

set_option maxRecDepth 20000 in
set_option maxHeartbeats 2000000 in
theorem of_walk (width : Int) (A : Option Addr) (c : Nat) (l : List AddD) (span now floor : Int) (w : World) (hl : AddsAt w w.heap.size A l) (hlen : (l.length : Int) ≤ 9223372036854775807) :
    Calls Try.prog 3 #[.int .i64 width, .slice A l.length c, .int .i64 span, .int .i64 now, .int .i64 floor] w fun e w' => e = .returned (.bool true) ∧ Below w.heap.size w w' := by
  by_cases g1 : longB l = true
  · go_enter Try.func3, Try.ntmps3
    go_wp2_with fail
    refine (long_any A c l _ hl hlen).mono ?_
    rintro r w1 ⟨rfl, hb1⟩
    go_wp2_with fail
    refine (awake_any _).mono ?_
    rintro r w2 ⟨rfl, hb2⟩
    go_wp2
    go_ret
    exact ⟨rfl, hb1.trans (hb2.mono hb1.size)⟩
  · have g1' : longB l = false := by simpa using g1
    have hno := Lib.hid (longB_no g1').1
    clear g1
    go_enter Try.func3, Try.ntmps3
    go_wp2_with fail
    refine (long_any A c l _ hl hlen).mono ?_
    rintro r w1 ⟨rfl, hb1⟩
    go_wp2_with fail
    refine (fill_any width A c l _ ((hl.below hb1).more hb1.size) (by have := hno.out; omega)).mono ?_
    rintro r w2 ⟨pb, F, rfl, hO, hF, hb2⟩
    have HO := Lib.hid hO
    clear hO hF
    go_wp2_with fail
    refine (rof_any pb F (widthOf width) (l.filter rightB) span now floor w2 HO.out).mono ?_
    rintro r w3 ⟨A3, c3, rs, rfl, hrs, hown, hb3, hlen3⟩
    have hrl : (rs.length : Int) ≤ 1048576 := by
      have h1 := List.length_filter_le rightB l
      have := hno.out
      omega
    have HB : Hid (Below w.heap.size w w3) := Lib.hid ((hb1.trans (hb2.mono hb1.size)).trans (hb3.mono (by have := hb1.size; have := hb2.size; omega)))
    have HO3 := Lib.hid (HO.out.below hb3)
    have HRS := Lib.hid hrs
    have hat : RisesAt w3 w3.heap.size A3 rs := Reads.of_own hown
    have HAT := Lib.hid hat
    have c0 := HO3.out.cells
    have hq := rall_any A c l (widthOf width) span now floor w3 pb F HO3.out ((hl.below HB.out).more HB.out.size) (by have := hno.out; omega)
    have HQ := Lib.hid hq
    clear hat hown hrs hlen3 hb1 hb2 hb3 HO hq
    go_wp2_with (go_at_call 17; refine (pwidth_any pb (widthOf width) _ c0).mono ?_; rintro e w1' ⟨rfl, rfl⟩)
    refine HQ.out.mono ?_
    rintro r w4 ⟨A4, c4, rs4, rfl, hrs4, hat4, hb4⟩
    have e4 : rs4 = rs := rises_same HO3.out HRS.out hrs4
    subst e4
    have q := rsame_any A3 A4 c3 c4 rs4 w4 ((HAT.out.below hb4).more hb4.size) hat4 hrl
    have Q2 := Lib.hid q
    have HB4 : Hid (Below w.heap.size w w4) := Lib.hid (HB.out.trans (hb4.mono HB.out.size))
    clear q hat4 hrs4 HQ hb4
    go_wp2_with fail
    refine Q2.out.mono ?_
    rintro r w5 ⟨rfl, hb5⟩
    go_wp2_with fail
    refine (awake_any _).mono ?_
    rintro r w6 ⟨rfl, hb6⟩
    go_wp2
    go_ret
    exact ⟨rfl, (HB4.out.trans (hb5.mono HB4.out.size)).trans (hb6.mono (by have := HB4.out.size; have := hb5.size; omega))⟩
end Go.Proofs.Ytbfjknpljkmgjaa
