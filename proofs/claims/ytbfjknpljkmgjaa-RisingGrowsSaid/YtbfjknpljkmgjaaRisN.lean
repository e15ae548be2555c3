/- The walk of the statement RisingGrows. -/
import Derived.Test.YtbfjknpljkmgjaaRisL
import Derived.Test.YtbfjknpljkmgjaaRisM
import Derived.Test.YtbfjknpljkmgjaaNam
namespace Go.Proofs.Ytbfjknpljkmgjaa
open Go.ChangeShapes Go.WideShapes Go.ChangeAt Go.RowKit Go.Shelf Go.Lib Go.Sort Go.Proofs
set_option linter.unusedVariables false
set_option linter.unusedSimpArgs false

theorem anyB_snoc {α : Type} (l : List α) (p : α → Bool) {k : Nat} (hk : k < l.length) : (l.take (k + 1)).any p = ((l.take k).any p || p l[k]) := by
  rw [List.take_succ_eq_append_getElem hk, List.any_append]
  simp
def eqRise (a b : RiseV) : Bool := a.key.toList == b.key.toList && (a.new == b.new && a.old == b.old)
theorem eqRise_self (a : RiseV) : eqRise a a = true := by simp [eqRise]

set_option maxRecDepth 20000 in
set_option maxHeartbeats 2000000 in
theorem grows_walk (width : Int) (A : Option Addr) (c : Nat) (l : List AddD) (times now : Int) (key : ByteArray) (n : Int) (w : World) (hl : AddsAt w w.heap.size A l) (hlen : (l.length : Int) ≤ 9223372036854775807)
    (hw0 : 0 ≤ width) (hw1 : width ≤ 255) (ht0 : 0 ≤ times) (ht1 : times ≤ 255) (hn0 : 0 ≤ now) (hn1 : now ≤ 65535) (hk : key.size ≤ maxLen) (hm0 : 0 ≤ n) (hm1 : n ≤ 255) :
    Calls Try.prog 8 #[.int .u8 width, .slice A l.length c, .int .u8 times, .int .u16 now, .string key, .int .u8 n] w fun e w' => e = .returned (.bool true) ∧ Below w.heap.size w w' := by
  have t1 : width.tmod 20 = width % 20 := Int.tmod_eq_emod_of_nonneg hw0
  have t2 : times.tmod 4 = times % 4 := Int.tmod_eq_emod_of_nonneg ht0
  have x1 : 1 ≤ 1 + width % 20 ∧ 1 + width % 20 ≤ 20 := by omega
  have x2 : 1 ≤ 1 + times % 4 ∧ 1 + times % 4 ≤ 4 := by omega
  have x3 : 1 ≤ (1 + width % 20) * (1 + times % 4) ∧ (1 + width % 20) * (1 + times % 4) ≤ 80 := by
    have h1 := Int.mul_le_mul x1.1 x2.1 (by omega) (by omega)
    have h2 := Int.mul_le_mul x1.2 x2.2 (by omega) (by omega)
    omega
  have hT : ∃ T : Int, 1 + times % 4 = T := ⟨_, rfl⟩
  have tn : now.tmod (1 + width % 20) = now % (1 + width % 20) := Int.tmod_eq_emod_of_nonneg hn0
  have hbd := begB_bd x1.1 hn0
  have hwr : IntKind.i64.wrap (now - now % (1 + width % 20)) = begB (1 + width % 20) now := IntWalk.i64_in _ (by unfold begB at hbd; omega)
  have hzw : ¬ 1 + width % 20 = 0 := by omega
  by_cases g1 : longB l = true
  · go_enter Try.func8, Try.ntmps8
    go_wp2_with fail
    refine (long_any A c l _ hl hlen).mono ?_
    rintro r w1 ⟨rfl, hb1⟩
    go_wp2_with fail
    refine (awake_any _).mono ?_
    rintro r w2 ⟨rfl, hb2⟩
    go_wp2
    go_ret
    exact ⟨rfl, hb1.trans (hb2.mono hb1.size)⟩
  · have g1' : longB l = false := by simpa using g1
    have hno := Lib.hid (longB_no g1').1
    clear g1
    by_cases g2 : nameB key = true
    · have hks : 1 ≤ (key.size : Int) ∧ (key.size : Int) ≤ 24 := by
        unfold nameB at g2
        simp only [Bool.and_eq_true, decide_eq_true_eq] at g2
        exact g2.1
      by_cases g3 : begB (1 + width % 20) now < 1
      · go_enter Try.func8, Try.ntmps8
        go_wp2_with fail
        refine (long_any A c l _ hl hlen).mono ?_
        rintro r w1 ⟨rfl, hb1⟩
        go_wp2_with fail
        refine (name_any key _ hk).mono ?_
        rintro r w1' ⟨rfl, rfl⟩
        go_wp2_with fail
        refine (awake_any _).mono ?_
        rintro r w2 ⟨rfl, hb2⟩
        go_wp2
        go_ret
        exact ⟨rfl, hb1.trans (hb2.mono hb1.size)⟩
      · go_enter Try.func8, Try.ntmps8
        go_wp2_with fail
        refine (long_any A c l _ hl hlen).mono ?_
        rintro r w1 ⟨rfl, hb1⟩
        go_wp2_with fail
        refine (name_any key _ hk).mono ?_
        rintro r w1' ⟨rfl, rfl⟩
        go_wp2_with fail
        obtain ⟨T, hT⟩ := hT
        rw [hT] at x2 x3 ⊢
        clear hT t2
        generalize 1 + width % 20 = wd at *
        generalize hsp : wd * T = span at *
        have hwo : widthOf wd = wd := by unfold widthOf; omega
        have hq := fill_any wd A c l w1 ((hl.below hb1).more hb1.size) (by have := hno.out; omega)
        rw [hwo] at hq
        have HQ := Lib.hid hq
        clear hq hwo
        refine HQ.out.mono ?_
        rintro r w2 ⟨pb, F, rfl, hO, hF, hb2⟩
        have HO := Lib.hid hO
        have HF := Lib.hid hF
        clear hO hF HQ
        go_wp2_with fail
        refine (rof_any pb F wd (l.filter rightB) span now 0 w2 HO.out).mono ?_
        rintro r w3 ⟨A3, c3, was, rfl, hrs, hown, hb3, hlen3⟩
        have hhl : ((l.filter rightB).length : Int) ≤ 60 := by
          have h1 := List.length_filter_le rightB l
          have := hno.out
          omega
        have hrl : (was.length : Int) ≤ 60 := by omega
        have hz2 := hb1.size
        have hz3 := hb2.size
        have HB : Hid (Below w.heap.size w w3) := Lib.hid ((hb1.trans (hb2.mono hb1.size)).trans (hb3.mono (by omega)))
        have hO3 := HO.out.below hb3
        have hFr : ∀ j, F j → w.heap.size ≤ j ∧ (Value.slice A3 was.length c3).ownBlock ≠ some j := fun j hj => ⟨by have := HF.out j hj; omega, fun e => by have := (hown.lt j e).1; have := HO.out.lt j hj; omega⟩
        have HOW := own_base hown (show w.heap.size ≤ w2.heap.size by omega)
        have hsm : span % wd = 0 := by rw [← hsp]; exact Int.mul_emod_right wd T
        have HBB : ofB wd span now = true := by
          unfold ofB
          rw [decide_eq_true (by omega : 1 ≤ span), decide_eq_true (by omega : span ≤ 1099511627776), decide_eq_true hsm, decide_eq_true (by omega : 0 ≤ now), decide_eq_true (by omega : now ≤ 1099511627776)]
          rfl
        have hpl : ∀ rs, RisesOf wd (l.filter rightB ++ [⟨key, begB wd now - 1, 1 + n⟩]) span now 0 rs → (∀ r ∈ rs, r.key ≠ key → r ∈ was) ∧ (∀ r ∈ rs, r.key = key → r.new = oldNew was key + (1 + n)) ∧ ∃ r ∈ rs, r.key = key := by
          intro rs h
          rw [← hsp] at h hrs HBB
          exact grows_plain x1.1 x2.1 (by omega) HBB (fun k => (hO3.tot_bd k _ _).1) hrs h
        have hold : 0 ≤ oldNew was key ∧ oldNew was key ≤ 1099511627776 := by
          by_cases hx : ∃ r ∈ was, r.key = key
          · obtain ⟨r, hr, hrk⟩ := hx
            have e : oldNew was key = r.new := by
              refine oldNew_some (fun x hx hxk => ?_) ⟨r, hr, hrk⟩
              unfold RisesOf at hrs
              rw [if_pos HBB] at hrs
              rw [congrArg RiseV.new ((hrs.2 x).1 hx).1, congrArg RiseV.new ((hrs.2 r).1 hr).1, hxk, hrk]
            have h1 := ((RisesOf.facts hO3 hrs).2 r hr).1
            rw [e]
            exact ⟨by have := h1.1; omega, h1.2.1⟩
          · rw [oldNew_none (fun r hr e => hx ⟨r, hr, e⟩)]
            omega
        have HPL := Lib.hid hpl
        have HOLD := Lib.hid hold
        have hq := padd_any pb F wd (l.filter rightB) key (begB wd now - 1) (1 + n) w3 hO3
        have hab : addB key (begB wd now - 1) (1 + n) (l.filter rightB).length = true := by
          unfold addB
          simp only [Bool.and_eq_true, decide_eq_true_eq]
          refine ⟨⟨⟨⟨⟨⟨by omega, by omega⟩, by omega⟩, by omega⟩, by omega⟩, by omega⟩, by omega⟩
        rw [hab] at hq
        have HQ := Lib.hid hq
        have HOW := Lib.hid HOW
        have HFr := Lib.hid hFr
        clear hown hrs hlen3 hb1 hb2 hb3 HO HF hO3 hFr hq hab HBB hpl hold tn hwr hsm hsp
        generalize begB wd now = bg at *
        go_wp2_with fail
        refine HQ.out.mono ?_
        rintro r w4 ⟨rfl, F4, hO4, hK4, hF4⟩
        rw [if_pos rfl] at hO4
        have hOW4 := hK4.own HOW.out (fun j e hf => (HFr.out j hf).2 e)
        have hb4 : Below w.heap.size w w4 := HB.out.trans (hK4.toBelow HB.out.size (fun j hj => (HFr.out j hj).1))
        have HO4 := Lib.hid hO4
        clear hO4 hK4 hF4 HOW HFr HQ HB
        go_wp2_with fail
        refine (rof_any pb F4 wd _ span now 0 w4 HO4.out).mono ?_
        rintro r w5 ⟨A5, c5, rs, rfl, hrs, hown, hb5, hlen5⟩
        have hrl5 : (rs.length : Int) ≤ 61 := by rw [List.length_append] at hlen5; simp at hlen5; omega
        obtain ⟨p1, p2, p3⟩ := HPL.out rs hrs
        have hwas : RisesAt w5 w5.heap.size A3 was := ((Reads.of_own hOW4).below hb5).more hb5.size
        have hrs5 : RisesAt w5 w5.heap.size A5 rs := Reads.of_own hown
        have HB5 : Hid (Below w.heap.size w w5) := Lib.hid (hb4.trans (hb5.mono hb4.size))
        have HW := Lib.hid hwas
        have HR := Lib.hid hrs5
        have P1 := Lib.hid p1
        have P2 := Lib.hid p2
        have P3 := Lib.hid p3
        clear hwas hrs5 hown hrs hlen5 hb5 hb4 hOW4 HO4 HPL p1 p2 p3
        go_wp2_with fail
        go_loopg [19, 83] was.length (fun rest o i wr => ∃ (k : Nat), i = .int .i64 k ∧ Hid (k + rest = was.length) ∧ o = .int .i64 (oldNew (was.take k) key) ∧ Below w5.heap.size w5 wr)
        case atStart => exact ⟨0, rfl, Lib.hid (by simp), rfl, Below.refl _ _⟩
        case round =>
          obtain ⟨k, rfl, HK, rfl, hb⟩ := hrel
          have hz := hb.size
          by_cases hkk : (k : Int) < (was.length : Int)
          · have hkl : k < was.length := by omega
            obtain ⟨b, o, rfl, hbl, c1, c2, c3⟩ := (HW.out.below hb).one hkl
            have hsn := oldNew_snoc (was.take k) key was[k]
            rw [← List.take_succ_eq_append_getElem hkl] at hsn
            generalize was[k] = y at *
            have c3' : wr.cell? ⟨b, o + k * 3 + 2, none⟩ = some (.int .i64 y.old) := c3
            by_cases hy : y.key = key
            · rw [if_pos hy] at hsn
              have HS := Lib.hid hsn
              have he : (y.key.toList == key.toList) = true := by rw [hy]; simp
              clear hsn
              go_wp2
              go_roundg (gk - 1)
              case measure => have := HK.out; omega
              case rel => exact ⟨k + 1, by go_num, Lib.hid (by have := HK.out; omega), by rw [HS.out], hb.alloc hz _⟩
            · rw [if_neg hy] at hsn
              have HS := Lib.hid hsn
              have he : (y.key.toList == key.toList) = false := by rw [beq_eq_false_iff_ne]; exact fun e => hy (toList_inj e)
              clear hsn
              go_wp2
              go_roundg (gk - 1)
              case measure => have := HK.out; omega
              case rel => exact ⟨k + 1, by go_num, Lib.hid (by have := HK.out; omega), by rw [HS.out], hb.alloc hz _⟩
          · have hold : was.take k = was := List.take_of_length_le (by have := HK.out; omega)
            rw [hold]
            have hO1 := HOLD.out
            have HB6 : Hid (Below w.heap.size w wr) := Lib.hid (HB5.out.trans (hb.mono HB5.out.size))
            have HW6 : Hid (RisesAt wr wr.heap.size A3 was) := Lib.hid ((HW.out.below hb).more hz)
            have HR6 : Hid (RisesAt wr wr.heap.size A5 rs) := Lib.hid ((HR.out.below hb).more hz)
            generalize oldNew was key = od at *
            clear hb hz HK hold HW HR HB5 HOLD
            go_wp2_with fail
            clear hkk
            generalize wr = w6 at *
            go_loopg [22, 96] rs.length (fun rest f i wr => ∃ (k : Nat), i = .int .i64 k ∧ Hid (k + rest = rs.length) ∧ f = .bool ((rs.take k).any (fun r => decide (r.key = key))) ∧ Below w6.heap.size w6 wr)
            case atStart => exact ⟨0, rfl, Lib.hid (by simp), rfl, Below.refl _ _⟩
            case round =>
              obtain ⟨k, rfl, HK, rfl, hb⟩ := hrel
              have hz := hb.size
              by_cases hkk : (k : Int) < (rs.length : Int)
              · have hkl : k < rs.length := by omega
                obtain ⟨b, o, rfl, hbl, c1, c2, c3⟩ := (HR6.out.below hb).one hkl
                have hsn := anyB_snoc rs (fun r => decide (r.key = key)) hkl
                have hp1 := P1.out _ (List.getElem_mem hkl)
                have hp2 := P2.out _ (List.getElem_mem hkl)
                generalize rs[k] = y at *
                have c3' : wr.cell? ⟨b, o + k * 3 + 2, none⟩ = some (.int .i64 y.old) := c3
                have HP1 := Lib.hid hp1
                have HP2 := Lib.hid hp2
                have HSN := Lib.hid hsn
                generalize (rs.take k).any (fun r => decide (r.key = key)) = fd at *
                clear hp1 hp2 hsn
                go_wp2_with fail
                clear c1 c2 c3 c3'
                generalize hW1 : wr.alloc (Obj.cells #[Value.string y.key, Value.int .i64 y.new, Value.int .i64 y.old] 34) = W1 at *
                have f0 : W1.cell? ⟨wr.heap.size, 0, none⟩ = some (.string y.key) := by rw [← hW1]; simp
                have f1 : W1.cell? ⟨wr.heap.size, 1, none⟩ = some (.int .i64 y.new) := by rw [← hW1]; simp
                have f2 : W1.cell? ⟨wr.heap.size, 2, none⟩ = some (.int .i64 y.old) := by rw [← hW1]; simp
                have hzz : wr.heap.size < W1.heap.size := by rw [← hW1]; simp
                have HB7 : Hid (Below w6.heap.size w6 W1) := Lib.hid (by rw [← hW1]; exact hb.alloc hz _)
                clear hW1 hb
                generalize wr.heap.size = bx at *
                generalize gk = g6 at *
                go_loopg [25, 102] was.length (fun rest s j wx => ∃ (m : Nat), j = .int .i64 m ∧ Hid (m + rest = was.length) ∧ s = .bool ((was.take m).any (fun x => eqRise x y)) ∧ Below W1.heap.size W1 wx)
                case atStart => exact ⟨0, rfl, Lib.hid (by simp), rfl, Below.refl _ _⟩
                case round =>
                  obtain ⟨m, rfl, HM, rfl, hb⟩ := hrel
                  have hz7 := hb.size
                  have e0 := (hb.cell (p := ⟨bx, 0, none⟩) hzz).trans f0
                  have e1 := (hb.cell (p := ⟨bx, 1, none⟩) hzz).trans f1
                  have e2 := (hb.cell (p := ⟨bx, 2, none⟩) hzz).trans f2
                  by_cases hmm : (m : Int) < (was.length : Int)
                  · have hml : m < was.length := by omega
                    obtain ⟨b', o', rfl, hbl', d1, d2, d3⟩ := (HW6.out.below ((HB7.out.trans (hb.mono HB7.out.size)))).one hml
                    have hsn := anyB_snoc was (fun x => eqRise x y) hml
                    generalize was[m] = x at *
                    have d3' : wr.cell? ⟨b', o' + m * 3 + 2, none⟩ = some (.int .i64 x.old) := d3
                    have HSN := Lib.hid hsn
                    have e0' := (Below.cell ((Below.refl wr.heap.size wr).alloc (Nat.le_refl _) (Obj.cells #[Value.string x.key, Value.int .i64 x.new, Value.int .i64 x.old] 34)) (p := ⟨bx, 0, none⟩) (by show bx < _; omega)).trans e0
                    have e1' := (Below.cell ((Below.refl wr.heap.size wr).alloc (Nat.le_refl _) (Obj.cells #[Value.string x.key, Value.int .i64 x.new, Value.int .i64 x.old] 34)) (p := ⟨bx, 1, none⟩) (by show bx < _; omega)).trans e1
                    have e2' := (Below.cell ((Below.refl wr.heap.size wr).alloc (Nat.le_refl _) (Obj.cells #[Value.string x.key, Value.int .i64 x.new, Value.int .i64 x.old] 34)) (p := ⟨bx, 2, none⟩) (by show bx < _; omega)).trans e2
                    have hbx : bx < wr.heap.size := by omega
                    generalize (was.take m).any (fun x => eqRise x y) = sm at *
                    clear hsn
                    cases sm with
                    | true =>
                      go_wp2
                      go_roundg (gk - 1)
                      case measure => have := HM.out; omega
                      case rel => exact ⟨m + 1, by go_num, Lib.hid (by have := HM.out; omega), by rw [HSN.out]; rfl, hb.alloc hz7 _⟩
                    | false =>
                      have q := eql_rise x.key y.key x.new x.old y.new y.old
                      have HSE : Hid (eqRise x y = (x.key.toList == y.key.toList && (x.new == y.new && x.old == y.old))) := Lib.hid rfl
                      generalize (x.key.toList == y.key.toList && (x.new == y.new && x.old == y.old)) = ev at *
                      go_wp2
                      go_roundg (gk - 1)
                      case measure => have := HM.out; omega
                      case rel => exact ⟨m + 1, by go_num, Lib.hid (by have := HM.out; omega), by rw [HSN.out, HSE.out]; rfl, hb.alloc hz7 _⟩
                  · have hall : was.take m = was := List.take_of_length_le (by have := HM.out; omega)
                    rw [hall]
                    have HB8 : Hid (Below w6.heap.size w6 wr) := Lib.hid (HB7.out.trans (hb.mono HB7.out.size))
                    by_cases hy : y.key = key
                    · have he : (y.key.toList == key.toList) = true := by rw [hy]; simp
                      have hv : (y.new == od + 1 + n) = true := by have := HP2.out hy; rw [this]; simp; omega
                      have HF : Hid (true = (rs.take (k + 1)).any (fun r => decide (r.key = key))) := Lib.hid (by rw [HSN.out, decide_eq_true hy, Bool.or_true])
                      generalize was.any (fun x => eqRise x y) = sm at *
                      go_wp2
                      go_roundg (g6 - 1)
                      case measure => have := HK.out; omega
                      case rel => exact ⟨k + 1, by go_num, Lib.hid (by have := HK.out; omega), by rw [← HF.out], HB8.out⟩
                    · have he : (y.key.toList == key.toList) = false := by rw [beq_eq_false_iff_ne]; exact fun e => hy (toList_inj e)
                      have hv : was.any (fun x => eqRise x y) = true := List.any_eq_true.2 ⟨y, HP1.out hy, eqRise_self y⟩
                      have HF : Hid (fd = (rs.take (k + 1)).any (fun r => decide (r.key = key))) := Lib.hid (by rw [HSN.out, decide_eq_false hy, Bool.or_false])
                      rw [hv]
                      go_wp2
                      go_roundg (g6 - 1)
                      case measure => have := HK.out; omega
                      case rel => exact ⟨k + 1, by go_num, Lib.hid (by have := HK.out; omega), by rw [← HF.out], HB8.out⟩
              · have hall : rs.take k = rs := List.take_of_length_le (by have := HK.out; omega)
                have hf : rs.any (fun r => decide (r.key = key)) = true := by
                  obtain ⟨r, hr, e⟩ := P3.out
                  exact List.any_eq_true.2 ⟨r, hr, decide_eq_true e⟩
                rw [hall, hf]
                go_wp2_with fail
                refine (awake_any _).mono ?_
                rintro r w8 ⟨rfl, hb8⟩
                go_wp2
                go_ret
                exact ⟨rfl, (HB6.out.trans (hb.mono HB6.out.size)).trans (hb8.mono (by have := HB6.out.size; omega))⟩
    · have g2' : nameB key = false := by simpa using g2
      go_enter Try.func8, Try.ntmps8
      go_wp2_with fail
      refine (long_any A c l _ hl hlen).mono ?_
      rintro r w1 ⟨rfl, hb1⟩
      go_wp2_with fail
      refine (name_any key _ hk).mono ?_
      rintro r w1' ⟨rfl, rfl⟩
      rw [g2']
      go_wp2_with fail
      refine (awake_any _).mono ?_
      rintro r w2 ⟨rfl, hb2⟩
      go_wp2
      go_ret
      exact ⟨rfl, hb1.trans (hb2.mono hb1.size)⟩
end Go.Proofs.Ytbfjknpljkmgjaa
