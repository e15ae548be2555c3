/- The walk of the statement RisingFloors. -/
import Derived.Test.YtbfjknpljkmgjaaRisH
namespace Go.Proofs.Ytbfjknpljkmgjaa
open Go.ChangeShapes Go.WideShapes Go.ChangeAt Go.RowKit Go.Shelf Go.Lib Go.Sort Go.Proofs
set_option linter.unusedVariables false
set_option linter.unusedSimpArgs false

theorem take_filter (rs : List RiseV) (p : RiseV → Bool) {k : Nat} (hk : k < rs.length) : (rs.take (k + 1)).filter p = (rs.take k).filter p ++ (if p rs[k] = true then [rs[k]] else []) := by
  rw [List.take_succ_eq_append_getElem hk, List.filter_append]
  congr 1
  by_cases h : p rs[k] = true <;> simp [List.filter_cons, h]

set_option maxRecDepth 20000 in
set_option maxHeartbeats 4000000 in
theorem floors_walk (width : Int) (A : Option Addr) (c : Nat) (l : List AddD) (span now floor more : Int) (w : World) (hl : AddsAt w w.heap.size A l) (hlen : (l.length : Int) ≤ 9223372036854775807) (m0 : 0 ≤ more) (m1 : more ≤ 255) :
    Calls Try.prog 7 #[.int .i64 width, .slice A l.length c, .int .i64 span, .int .i64 now, .int .i64 floor, .int .u8 more] w fun e w' => e = .returned (.bool true) ∧ Below w.heap.size w w' := by
  by_cases g1 : longB l = true
  · go_enter Try.func7, Try.ntmps7
    go_wp2_with fail
    refine (long_any A c l _ hl hlen).mono ?_
    rintro r w1 ⟨rfl, hb1⟩
    go_wp2_with fail
    refine (awake_any _).mono ?_
    rintro r w2 ⟨rfl, hb2⟩
    go_wp2
    go_ret
    exact ⟨rfl, hb1.trans (hb2.mono hb1.size)⟩
  · have g1' : longB l = false := by simpa using g1
    have hno := Lib.hid (longB_no g1').1
    clear g1
    by_cases g2 : floor < 0
    · go_enter Try.func7, Try.ntmps7
      go_wp2_with fail
      refine (long_any A c l _ hl hlen).mono ?_
      rintro r w1 ⟨rfl, hb1⟩
      go_wp2_with fail
      refine (awake_any _).mono ?_
      rintro r w2 ⟨rfl, hb2⟩
      go_wp2
      go_ret
      exact ⟨rfl, hb1.trans (hb2.mono hb1.size)⟩
    · by_cases g3 : 1099511627776 < floor
      · go_enter Try.func7, Try.ntmps7
        go_wp2_with fail
        refine (long_any A c l _ hl hlen).mono ?_
        rintro r w1 ⟨rfl, hb1⟩
        go_wp2_with fail
        refine (awake_any _).mono ?_
        rintro r w2 ⟨rfl, hb2⟩
        go_wp2
        go_ret
        exact ⟨rfl, hb1.trans (hb2.mono hb1.size)⟩
      · go_enter Try.func7, Try.ntmps7
        go_wp2_with fail
        refine (long_any A c l _ hl hlen).mono ?_
        rintro r w1 ⟨rfl, hb1⟩
        go_wp2_with fail
        refine (fill_any width A c l _ ((hl.below hb1).more hb1.size) (by have := hno.out; omega)).mono ?_
        rintro r w2 ⟨pb, F, rfl, hO, hF, hb2⟩
        have HO := Lib.hid hO
        clear hO hF
        go_wp2_with fail
        refine (rof_any pb F (widthOf width) (l.filter rightB) span now floor w2 HO.out).mono ?_
        rintro r w3 ⟨A3, c3, rs, rfl, hrs, hown, hb3, hlen3⟩
        have hat : RisesAt w3 w3.heap.size A3 rs := Reads.of_own hown
        have hrl : (rs.length : Int) ≤ 60 := by
          have h1 := List.length_filter_le rightB l
          have := hno.out
          omega
        have HB : Hid (Below w.heap.size w w3) := Lib.hid ((hb1.trans (hb2.mono hb1.size)).trans (hb3.mono (by have := hb1.size; have := hb2.size; omega)))
        have HO3 := Lib.hid (HO.out.below hb3)
        have HRS := Lib.hid hrs
        have HAT := Lib.hid hat
        clear hat hown hrs hlen3 hb1 hb2 hb3 HO
        go_wp2_with fail
        go_loopg [14, 39] rs.length (fun rest s i wr => ∃ (k : Nat) (A4 : Option Addr) (c4 : Nat) (ms : List RiseV), i = .int .i64 k ∧ Hid (k + rest = rs.length) ∧ s = .slice A4 ms.length c4 ∧ Hid (ms = (rs.take k).filter (fun r => decide (floor + more ≤ r.new))) ∧
          wr.ownsRow w3.heap.size 34 3 (.slice A4 ms.length c4) ms.length (ms.flatMap riseEnc) ∧ Below w3.heap.size w3 wr)
        case atStart => exact ⟨0, none, 0, [], rfl, Lib.hid (by simp), rfl, Lib.hid rfl, World.ownsRow_nil _ _ _ _, Below.refl _ _⟩
        case round =>
          obtain ⟨k, A4, c4, ms, rfl, HK, rfl, HM, hown, hb⟩ := hrel
          have hz := hb.size
          have hml : (ms.length : Int) ≤ (k : Int) := by
            have h1 := List.length_filter_le (fun r : RiseV => decide (floor + more ≤ r.new)) (rs.take k)
            have h2 := List.length_take_le k rs
            rw [HM.out]
            omega
          by_cases hk : (k : Int) < (rs.length : Int)
          · have hkl : k < rs.length := by omega
            obtain ⟨b, o, rfl, hbl, c1, c2, c3⟩ := (HAT.out.below hb).one hkl
            have hsn := take_filter rs (fun r => decide (floor + more ≤ r.new)) hkl
            rw [← HM.out] at hsn
            generalize rs[k] = y at *
            have c3' : wr.cell? ⟨b, o + k * 3 + 2, none⟩ = some (.int .i64 y.old) := c3
            by_cases hfl : floor + more ≤ y.new
            · rw [if_pos (by simpa using hfl)] at hsn
              have HSN := Lib.hid hsn
              clear hsn
              have hownB : (wr.alloc (Obj.cells #[Value.string y.key, Value.int .i64 y.new, Value.int .i64 y.old] 34)).ownsRow w3.heap.size 34 3 (.slice A4 ms.length c4) ms.length (ms.flatMap riseEnc) := hown.alloc _
              go_wp2_with (at_builtin; refine wpList_append_one (wr.alloc (Obj.cells #[Value.string y.key, Value.int .i64 y.new, Value.int .i64 y.old] 34)) rfl _ _ _ rfl w3.heap.size 34 (.agg #[.string ByteArray.empty, .int .i64 0, .int .i64 0]) 3 32 Try.underlying28 rise_info rfl (by decide) A4 ms.length c4 _ rfl hownB [.string y.key, .int .i64 y.new, .int .i64 y.old] (by rw [World.size_alloc]; rfl) rfl (by intro u hu; simp at hu; rcases hu with rfl | rfl | rfl <;> rfl) (by omega) (by unfold maxLen; omega) (by simp; omega) ?_; intro A5 c5 w5 hown5 hg5 hb5)
              have hb6 : Below w3.heap.size w3 w5 := (hb.alloc hz _).trans hb5
              have hl5 : (ms ++ [y]).length = ms.length + 1 := by simp
              have HO5 : Hid (w5.ownsRow w3.heap.size 34 3 (.slice A5 (ms ++ [y]).length c5) (ms ++ [y]).length ((ms ++ [y]).flatMap riseEnc)) := Lib.hid (by
                rw [hl5, List.flatMap_append]
                exact hown5)
              clear hown5 hg5 hb5 hown hownB
              go_wp2
              go_roundg (gk - 1)
              case measure => have := HK.out; omega
              case rel => exact ⟨k + 1, A5, c5, ms ++ [y], by go_num, Lib.hid (by have := HK.out; omega), by rw [hl5], Lib.hid HSN.out.symm, HO5.out, hb6⟩
            · rw [if_neg (by simpa using hfl), List.append_nil] at hsn
              have HSN := Lib.hid hsn
              clear hsn
              go_wp2
              go_roundg (gk - 1)
              case measure => have := HK.out; omega
              case rel => exact ⟨k + 1, A4, c4, ms, by go_num, Lib.hid (by have := HK.out; omega), rfl, Lib.hid HSN.out.symm, hown.alloc _, hb.alloc hz _⟩
          · have hms : ms = rs.filter (fun r => decide (floor + more ≤ r.new)) := by
              have h1 := HM.out
              have h2 := HK.out
              rw [List.take_of_length_le (by omega)] at h1
              exact h1
            have HMS := Lib.hid hms
            clear hms
            have q := rof_any pb F (widthOf width) (l.filter rightB) span now (floor + more) wr (HO3.out.below hb)
            have Q := Lib.hid q
            clear q
            have hat4 : RisesAt wr wr.heap.size A4 ms := Reads.of_own hown
            have HAT4 := Lib.hid hat4
            clear hat4
            have HB4 : Hid (Below w.heap.size w wr) := Lib.hid (HB.out.trans (hb.mono HB.out.size))
            have hml2 : (ms.length : Int) ≤ 1048576 := by have := HK.out; omega
            go_wp2_with fail
            refine Q.out.mono ?_
            rintro r w6 ⟨A6, c6, rs6, rfl, hrs6, hown6, hb6, hlen6⟩
            have e6 : rs6 = ms := by rw [HMS.out]; exact rises_floor HO3.out m0 HRS.out hrs6
            subst e6
            have q := rsame_any A6 A4 c6 c4 rs6 w6 (Reads.of_own hown6) ((HAT4.out.below hb6).more hb6.size) hml2
            have Q2 := Lib.hid q
            have HB6 : Hid (Below w.heap.size w w6) := Lib.hid (HB4.out.trans (hb6.mono HB4.out.size))
            clear q hown6 hrs6 Q
            go_wp2_with fail
            refine Q2.out.mono ?_
            rintro r w7 ⟨rfl, hb7⟩
            go_wp2_with fail
            refine (awake_any _).mono ?_
            rintro r w8 ⟨rfl, hb8⟩
            go_wp2
            go_ret
            exact ⟨rfl, (HB6.out.trans (hb7.mono HB6.out.size)).trans (hb8.mono (by have := HB6.out.size; have := hb7.size; omega))⟩
end Go.Proofs.Ytbfjknpljkmgjaa
