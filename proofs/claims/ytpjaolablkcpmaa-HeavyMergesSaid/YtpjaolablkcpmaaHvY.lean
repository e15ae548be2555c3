/- The walk of HeavyBounds. -/
import Derived.Test.YtpjaolablkcpmaaHvW
import Derived.Test.YtpjaolablkcpmaaHvX
namespace Go.Proofs.Ytpjaolablkcpmaa
open Go.ChangeShapes Go.WideShapes Go.ChangeAt Go.RowKit Go.Shelf Go.Lib Go.Sort Go.Proofs
set_option linter.unusedVariables false
set_option linter.unusedSimpArgs false

theorem newH_room {m : Int} (h1 : 1 ≤ m) (h2 : m ≤ 1000) : (newH m).room = m := by show min (max m 1) 4096 = m; omega
theorem tr_all {m : Int} {l : List CntV} (h : (l.length : Int) ≤ 1000) : Tr (addAll (newH m) l) (truthV l) := by
  have := (Tr.new m).all (newH_inv m) l (by show (0 : Int) + l.length ≤ _; omega)
  intro k
  have hk := this k
  simp only [Int.zero_add] at hk
  exact hk

set_option maxRecDepth 20000 in
set_option maxHeartbeats 4000000 in
theorem bounds_walk (m : Int) (A : Option Addr) (c : Nat) (l : List CntV) (key : ByteArray) (least : Int) (w : World) (hl : CntsAt w w.heap.size A l) (hlen : (l.length : Int) ≤ 9223372036854775807) (hcn : A = none → c = 0) :
    Calls Try.prog 5 #[.int .i64 m, .slice A l.length c, .string key, .int .i64 least] w fun e w' => e = .returned (.bool true) ∧ Below w.heap.size w w' := by
  have HL := Lib.hid hl
  clear hl
  by_cases g : bigB l 60 = true ∨ 100 < (key.size : Int) ∨ m < 1 ∨ 60 < m
  · by_cases g1 : bigB l 60 = true
    · go_enter Try.func5, Try.ntmps5
      go_wp2_with fail
      refine (lives14_any _).mono ?_
      rintro e w1 ⟨rfl, hb1⟩
      go_wp2_with fail
      refine (big14_any A c l 60 _ ((HL.out.below hb1).more hb1.size) hlen (by omega)).mono ?_
      rintro e w2 ⟨rfl, hb2⟩
      rw [g1]
      go_wp2
      go_ret
      exact ⟨rfl, hb1.trans (hb2.mono hb1.size)⟩
    · have g1' : bigB l 60 = false := by simpa using g1
      by_cases g2 : 100 < (key.size : Int)
      · go_enter Try.func5, Try.ntmps5
        go_wp2_with fail
        refine (lives14_any _).mono ?_
        rintro e w1 ⟨rfl, hb1⟩
        go_wp2_with fail
        refine (big14_any A c l 60 _ ((HL.out.below hb1).more hb1.size) hlen (by omega)).mono ?_
        rintro e w2 ⟨rfl, hb2⟩
        rw [g1']
        go_wp2
        go_ret
        exact ⟨rfl, hb1.trans (hb2.mono hb1.size)⟩
      · by_cases g3 : m < 1
        · go_enter Try.func5, Try.ntmps5
          go_wp2_with fail
          refine (lives14_any _).mono ?_
          rintro e w1 ⟨rfl, hb1⟩
          go_wp2_with fail
          refine (big14_any A c l 60 _ ((HL.out.below hb1).more hb1.size) hlen (by omega)).mono ?_
          rintro e w2 ⟨rfl, hb2⟩
          rw [g1']
          go_wp2
          go_ret
          exact ⟨rfl, hb1.trans (hb2.mono hb1.size)⟩
        · have g4 : 60 < m := by
            rcases g with g | g | g | g
            · exact absurd g g1
            · exact absurd g g2
            · exact absurd g g3
            · exact g
          go_enter Try.func5, Try.ntmps5
          go_wp2_with fail
          refine (lives14_any _).mono ?_
          rintro e w1 ⟨rfl, hb1⟩
          go_wp2_with fail
          refine (big14_any A c l 60 _ ((HL.out.below hb1).more hb1.size) hlen (by omega)).mono ?_
          rintro e w2 ⟨rfl, hb2⟩
          rw [g1']
          go_wp2
          go_ret
          exact ⟨rfl, hb1.trans (hb2.mono hb1.size)⟩
  · have g1' : bigB l 60 = false := by simpa using fun h => g (.inl h)
    have g2 : ¬ 100 < (key.size : Int) := fun h => g (.inr (.inl h))
    have g3 : ¬ m < 1 := fun h => g (.inr (.inr (.inl h)))
    have g4 : ¬ 60 < m := fun h => g (.inr (.inr (.inr h)))
    have hno := Lib.hid (bigB_no g1')
    have HCN := Lib.hid hcn
    clear g hcn
    go_enter Try.func5, Try.ntmps5
    go_wp2_with fail
    refine (lives14_any _).mono ?_
    rintro e w1 ⟨rfl, hb1⟩
    go_wp2_with fail
    refine (big14_any A c l 60 _ ((HL.out.below hb1).more hb1.size) hlen (by omega)).mono ?_
    rintro e w2 ⟨rfl, hb2⟩
    have hB2 : Below w.heap.size w w2 := hb1.trans (hb2.mono hb1.size)
    clear hb1 hb2
    rw [g1']
    go_wp2_with fail
    refine (grown14_any m A c l _ ((HL.out.below hB2).more hB2.size) (by have := hno.out.1; omega) hno.out.2).mono ?_
    rintro e w3 ⟨hb, xb, F, G, rfl, hH, hX, hap, hF, hG, hb3⟩
    have HH := Lib.hid hH
    have hB3 : Below w.heap.size w w3 := hB2.trans (hb3.mono hB2.size)
    have HTR : Hid (Tr (addAll (newH m) l) (truthV l)) := Lib.hid (tr_all (by have := hno.out.1; omega))
    have HRM : Hid ((addAll (newH m) l).room = m) := Lib.hid (by rw [addAll_room, newH_room (by omega) (by omega)])
    clear hH hX hap hF hG hb3 hB2
    generalize addAll (newH m) l = st at *
    go_wp2_with fail
    refine (bounds14_any hb F st m A w.heap.size c l key _ HH.out (HL.out.below hB3) hB3.size (by have := hno.out.1; omega) HCN.out hno.out.2 (by omega) HRM.out (by omega) (by omega) HTR.out).mono ?_
    rintro e w4 ⟨rfl, hb4⟩
    have HH4 : Hid (HvO w4 hb F st) := Lib.hid (HH.out.below hb4)
    have hB4 : Below w.heap.size w w4 := hB3.trans (hb4.mono hB3.size)
    clear hb4 hB3 HH
    go_wp2_with fail
    refine (hsure_o HH4.out least).mono ?_
    rintro e w5 ⟨A5, c5, ks, rfl, hks, hown5, hb5⟩
    have HH5 : Hid (HvO w5 hb F st) := Lib.hid (HH4.out.below hb5)
    have hB5 : Below w.heap.size w w5 := hB4.trans (hb5.mono hB4.size)
    have hst5 : StrsAt w5 w5.heap.size A5 ks := StrsAt.of_own hown5 (fun k hk => by
      obtain ⟨p, hp, e, _⟩ := (hks.2 k).1 hk
      have := HH5.out.inv.ks p hp
      rw [e] at this
      unfold maxLen
      omega)
    have hkl : (ks.length : Int) ≤ 9223372036854775807 := by
      have h1 : ks.length ≤ st.S.length := by
        have hp : ks.Perm (sureL st.S least) := (List.perm_ext_iff_of_nodup (strs_nodup hks.1) (sureL_nodup HH5.out.inv.nd least)).2 (fun k => by rw [hks.2, mem_sureL])
        rw [hp.length_eq]
        unfold sureL
        rw [List.length_map]
        exact List.length_filter_le _ _
      have := HH5.out.inv.len
      have := HH5.out.inv.r2
      omega
    have hlw : ∀ k ∈ ks, least ≤ lowV st.S k := fun k hk => by
      obtain ⟨p, hp, e, hn⟩ := (hks.2 k).1 hk
      rw [← e, lowV_mem HH5.out.inv.nd hp]
      exact hn
    have HST5 := Lib.hid hst5
    have HLW := Lib.hid hlw
    clear hst5 hlw hks hown5 hb5 hB4 HH4
    go_wp2_with fail
    go_loopg [13] ks.length (fun rest i wr => ∃ k : Nat, i = .int .i64 k ∧ Hid (k + rest = ks.length) ∧ Below w5.heap.size w5 wr)
    case atStart => exact ⟨0, rfl, Lib.hid (by simp), Below.refl _ _⟩
    case round =>
      obtain ⟨k, rfl, HK, hbr⟩ := hrel
      by_cases hk : (k : Int) < (ks.length : Int)
      · have hkk : k < ks.length := by omega
        have hB6 : Below w.heap.size w wr := hB5.trans (hbr.mono hB5.size)
        have hz6 := hbr.size
        obtain ⟨b, o, rfl, hbl, d1, hsz⟩ := (HST5.out.below hbr).one hkk
        have hlk := HLW.out _ (List.getElem_mem hkk)
        generalize ks[k] = y at *
        have htr := HTR.out y
        go_wp2_with fail
        refine (truth_any A w.heap.size c l y _ (HL.out.below hB6) hB6.size (by have := hno.out.1; omega)).mono ?_
        rintro e w7 ⟨rfl, hb7⟩
        have HH7 : Hid (HvO w7 hb F st) := Lib.hid (HH5.out.below (hbr.trans (hb7.mono hz6)))
        have hB7 : Below w5.heap.size w5 w7 := hbr.trans (hb7.mono hz6)
        have d1' := (hb7.cell (p := ⟨b, o + k, none⟩) (by show b < _; omega)).trans d1
        have hq := hlow_o HH7.out y (by show y.size ≤ maxLen; unfold maxLen; omega)
        have HQ := Lib.hid hq
        clear hq d1 hb7 hbr
        generalize truthV l y = tv at *
        generalize lowV st.S y = lv at *
        have hn1 : ¬ tv < least := by omega
        have hn2 : ¬ lv < least := by omega
        go_wp2_with fail
        refine HQ.out.mono ?_
        rintro e w8 ⟨rfl, rfl⟩
        go_wp2
        go_roundg (gk - 1)
        case measure => have := HK.out; omega
        case rel => exact ⟨k + 1, by go_num, Lib.hid (by have := HK.out; omega), hB7⟩
      · go_wp2
        go_ret
        exact ⟨rfl, hB5.trans (hbr.mono hB5.size)⟩
end Go.Proofs.Ytpjaolablkcpmaa
