/- The walk of DecayPlays. -/
import Derived.Test.YtgahopkbgefjdaaRdH
namespace Go.Proofs.Ytgahopkbgefjdaa
open Go.ChangeShapes Go.WideShapes Go.ChangeAt Go.RowKit Go.Shelf Go.Lib Go.Sort Go.Proofs
set_option linter.unusedVariables false
set_option linter.unusedSimpArgs false

set_option maxRecDepth 20000 in
set_option maxHeartbeats 2000000 in
theorem plays11_walk (half : Int) (A : Option Addr) (c : Nat) (l : List DeedD) (key : ByteArray) (now n : Int) (w : World) (hA : DeedsAt w w.heap.size A l) (hN : (l.length : Int) ≤ 9223372036854775807) (hds : ∀ d ∈ l, DeedOk d) (hk : key.size ≤ maxLen) (hnow : I64 now) (hn : I64 n) :
    Calls Try.prog 6 #[.int .i64 half, .slice A l.length c, .string key, .int .i64 now, .int .i64 n] w fun e w' => e = .returned (.bool true) ∧ Below w.heap.size w w' := by
  have HA := Lib.hid hA
  have HDS := Lib.hid hds
  obtain ⟨hn0, hn1⟩ := hnow
  obtain ⟨hm0, hm1⟩ := hn
  clear hA hds
  by_cases g0 : heavyB l 40 = true
  · have G := Lib.hid g0
    clear g0
    go_enter Try.func6, Try.ntmps6
    go_wp2_with fail
    refine (lives_any _).mono ?_
    rintro e w1 ⟨rfl, hb⟩
    go_wp2_with fail
    refine (heavy_any A c l 40 _ ((HA.out.below hb).more hb.size) hN).mono ?_
    rintro e w2 ⟨rfl, rfl⟩
    rw [G.out]
    go_wp2
    go_ret
    exact ⟨rfl, hb⟩
  · have g0' : heavyB l 40 = false := by simpa using g0
    have G := Lib.hid g0'
    clear g0 g0'
    by_cases g1 : 100 < (key.size : Int)
    · go_enter Try.func6, Try.ntmps6
      go_wp2_with fail
      refine (lives_any _).mono ?_
      rintro e w1 ⟨rfl, hb⟩
      go_wp2_with fail
      refine (heavy_any A c l 40 _ ((HA.out.below hb).more hb.size) hN).mono ?_
      rintro e w2 ⟨rfl, rfl⟩
      rw [G.out]
      go_wp2
      go_ret
      exact ⟨rfl, hb⟩
    · have hL := (heavyB_no G.out).1
      have HKS := Lib.hid (heavyB_no G.out).2
      have HK : Hid (strOk key) := Lib.hid hk
      clear hk
      go_enter Try.func6, Try.ntmps6
      go_wp2_with fail
      refine (lives_any _).mono ?_
      rintro e w1 ⟨rfl, hb⟩
      go_wp2_with fail
      refine (heavy_any A c l 40 _ ((HA.out.below hb).more hb.size) hN).mono ?_
      rintro e w2 ⟨rfl, rfl⟩
      rw [G.out]
      go_wp2_with fail
      refine (grown11_any half A c l _ ((HA.out.below hb).more hb.size) (by omega) HKS.out HDS.out).mono ?_
      rintro e w3 ⟨cb, mb, rfl, ⟨F, Gf, hD, hM, -, -, -⟩, hb3⟩
      have hso := stOk_all (halfOf half) l
      have hh2 : halfOf half ≤ 1099511627776 := by unfold halfOf; omega
      generalize deedsS (halfOf half) l = st at *
      generalize halfOf half = hf at *
      have q := even11_any cb mb F Gf hf st.1 st.1 st.2 st.2 key now n w3 hD hM (fun _ => rfl) hso.1 (by have := hso.2.1; omega) (by have := hso.2.1; omega) hh2 HK.out hn1 hm1
      have Q := Lib.hid q
      have HB3 : Hid (Below w.heap.size w w3) := Lib.hid (hb.trans (hb3.mono hb.size))
      clear q hso hD hM hb3 hb
      go_wp2_with fail
      refine Q.out.mono ?_
      rintro e w4 ⟨rfl, hb4⟩
      have HB4 : Hid (Below w.heap.size w w4) := Lib.hid (HB3.out.trans (hb4.mono HB3.out.size))
      clear hb4
      go_wp2
      go_ret
      exact ⟨rfl, HB4.out⟩
end Go.Proofs.Ytgahopkbgefjdaa
