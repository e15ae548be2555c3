/- law11's even: a counter and the reference's tell the same. -/
import Derived.Test.YtgahopkbgefjdaaRdD
import Derived.Test.YtgahopkbgefjdaaRdF
import Derived.Test.YtgahopkbgefjdaaTxts
import Derived.Laws.StructEq
import Derived.ChangeKeysEq
namespace Go.Proofs.Ytgahopkbgefjdaa
open Go.ChangeShapes Go.WideShapes Go.ChangeAt Go.RowKit Go.Shelf Go.Lib Go.Sort Go.Proofs
set_option linter.unusedVariables false
set_option linter.unusedSimpArgs false

theorem neq_cnt (k l : ByteArray) (a c : Int) (w : World) : (binOp .neq 77 (.agg #[.string k, .int .i64 a]) (.agg #[.string l, .int .i64 c])).run Try.prog w = .ok (.bool (!(k.toList == l.toList && a == c))) w := by
  have hS : Try.prog.underlying 77 = some (.struct (Try.prog.fieldsOf 77)) := by kernel_rfl
  have hp : Try.prog.stoodInHeld 77 = false := by kernel_rfl
  have p0 := fun (v : Value) (xs : Array Value) (h : xs[0]? = some v) => run_part_plain (P := Try.prog) (w := w) (e := 9) (by kernel_rfl) h
  have p1 := fun (v : Value) (xs : Array Value) (h : xs[1]? = some v) => run_part_plain (P := Try.prog) (w := w) (e := 2) (by kernel_rfl) h
  have i := fun (d : Nat) (a b : Int) => run_equalIn_int (P := Try.prog) w d 2 .i64 .i64 a b Try.underlying2
  have j := fun (d : Nat) (a b : ByteArray) => run_equalIn_string (P := Try.prog) w d 9 a b Try.underlying9
  rw [run_neq_struct, run_equalIn_agg w 9999 _ _ _ hS hp]
  simp only [Program.fieldsOf, Try.underlying77, Op.eqFields]
  cases h1 : k.toList == l.toList <;> cases h2 : a == c <;> simp [Op.eqFields, p0, p1, i, j, h1, h2, Result.andThen]

set_option maxRecDepth 20000 in
set_option maxHeartbeats 2000000 in
theorem csame_any (A A' : Option Addr) (c c' : Nat) (rs : List CntV) (w : World) (h : CntsAt w w.heap.size A rs) (h' : CntsAt w w.heap.size A' rs) (hl : (rs.length : Int) ≤ 1048576) :
    Calls Try.prog 32 #[.slice A rs.length c, .slice A' rs.length c'] w fun e w' => e = .returned (.bool true) ∧ Below w.heap.size w w' := by
  have hne : ((rs.length : Int) != (rs.length : Int)) = false := by simp
  go_enter Try.func32, Try.ntmps32
  go_wp2_with fail
  go_loopg [5] rs.length (fun rest i wr => ∃ k : Nat, i = .int .i64 k ∧ Hid (k + rest = rs.length) ∧ Below w.heap.size w wr)
  case atStart => exact ⟨0, rfl, Lib.hid (by simp), Below.refl _ _⟩
  case round =>
    obtain ⟨k, rfl, HK, hb⟩ := hrel
    by_cases hk : (k : Int) < (rs.length : Int)
    · have hkl : k < rs.length := by omega
      obtain ⟨b, o, rfl, hbl, c1, c2⟩ := (h.below hb).one hkl
      obtain ⟨b', o', rfl, hbl', d1, d2⟩ := (h'.below hb).one hkl
      generalize rs[k] = y at *
      have q := neq_cnt y.key y.key y.n y.n
      have e : (!(y.key.toList == y.key.toList && y.n == y.n)) = false := by simp
      rw [e] at q
      clear e
      go_wp2_with fail
      go_quiet (fail)
      go_wp2
      go_roundg (gk - 1)
      case measure => have := HK.out; omega
      case rel => exact ⟨k + 1, by go_num, Lib.hid (by have := HK.out; omega), below_drewN hb _⟩
    · go_wp2
      go_ret
      exact ⟨rfl, hb⟩

theorem csame2_any (A A' : Option Addr) (c c' n m : Nat) (rs : List CntV) (w : World) (hn : n = rs.length) (hm : m = rs.length) (h : CntsAt w w.heap.size A rs) (h' : CntsAt w w.heap.size A' rs) (hl : (rs.length : Int) ≤ 1048576) :
    Calls Try.prog 32 #[.slice A n c, .slice A' m c'] w fun e w' => e = .returned (.bool true) ∧ Below w.heap.size w w' := by
  subst hn hm
  exact csame_any A A' c c' rs w h h' hl

theorem KeysD.as {hf now : Int} {hist L : List AddD} (hE : ∀ k, cntV hf hist k now = cntV hf L k now) {ks : List ByteArray} (h : KeysD hf hist now ks) : KeysD hf L now ks := ⟨h.1, fun k => by rw [h.2, hE]⟩
theorem TopD.as {hf now n : Int} {hist L : List AddD} (hE : ∀ k, cntV hf hist k now = cntV hf L k now) {ts : List CntV} (h : TopD hf hist now n ts) : TopD hf L now n ts := by
  obtain ⟨cs, h1, rfl⟩ := h
  exact ⟨cs, ⟨h1.1, fun r => by rw [h1.2, hE]⟩, rfl⟩
theorem keysD_ok {hf now : Int} {L : List AddD} (hok : ∀ a ∈ L, addOk a = true) {ks : List ByteArray} (h : KeysD hf L now ks) : ∀ s ∈ ks, s.size ≤ maxLen := fun s hs => by
  have hp := (h.2 s).1 hs
  unfold cntV at hp
  split at hp
  · omega
  · obtain ⟨a, ha, e, _⟩ := histSum_pos hp
    have := addOk_iff.1 (hok a ha)
    rw [e] at this
    unfold maxLen
    omega

set_option maxRecDepth 20000 in
set_option maxHeartbeats 4000000 in
theorem even11_any (cb mb : Nat) (F G : Nat → Prop) (hf cnt cnt' : Int) (hist L : List AddD) (key : ByteArray) (now n : Int) (w : World) (hD : DecObj w cb F hf cnt hist) (hM : RcO w mb G hf cnt' L) (hE : ∀ k, cntV hf hist k now = cntV hf L k now)
    (hok : ∀ a ∈ L, addOk a = true) (hl : (L.length : Int) ≤ 1000) (hlh : (hist.length : Int) ≤ 1000) (hh : hf ≤ 1099511627776) (hk : strOk key) (n1 : now ≤ 9223372036854775807) (n2 : n ≤ 9223372036854775807) :
    Calls Try.prog 20 #[.pointer (some ⟨cb, 0, none⟩), .pointer (some ⟨mb, 0, none⟩), .string key, .int .i64 now, .int .i64 n] w fun e w' => e = .returned (.bool true) ∧ Below w.heap.size w w' := by
  have HD := Lib.hid hD
  have HM := Lib.hid hM
  have HE := Lib.hid hE
  have HOK := Lib.hid hok
  have HK := Lib.hid hk
  have HKO := Lib.hid (fun ks (h : KeysD hf L now ks) => keysD_ok hok h)
  clear hD hM hE hok hk
  go_enter Try.func20, Try.ntmps20
  go_wp2_with fail
  refine (dat_any cb F hf cnt hist key now _ HD.out HK.out n1).mono ?_
  rintro e w1 ⟨rfl, hb1⟩
  rw [HE.out]
  have HB1 := Lib.hid hb1
  clear hb1
  go_wp2_with fail
  refine (rat11_any mb G hf cnt' L key now _ (HM.out.below HB1.out) HOK.out hl hh n1).mono ?_
  rintro e w2 ⟨rfl, hb2⟩
  have HB2 : Hid (Below w.heap.size w w2) := Lib.hid (HB1.out.trans (hb2.mono HB1.out.size))
  clear hb2 HB1
  generalize cntV hf L key now = cv at *
  go_wp2_with fail
  refine (dkeys_any cb F hf cnt hist now _ (HD.out.below HB2.out) (by omega) n1).mono ?_
  rintro e w3 ⟨A3, c3, ks, rfl, hks, hown3, hb3⟩
  have hkl := hks.as HE.out
  have HKL := Lib.hid hkl
  have hs3 : StrsAt w3 w3.heap.size A3 ks := StrsAt.of_own hown3 (HKO.out _ hkl)
  have HS3 := Lib.hid hs3
  have HB3 : Hid (Below w.heap.size w w3) := Lib.hid (HB2.out.trans (hb3.mono HB2.out.size))
  clear hks hkl hown3 hs3 hb3 HB2
  go_wp2_with fail
  refine (rkeys11_any mb G hf cnt' L now _ (HM.out.below HB3.out) HOK.out hl hh n1).mono ?_
  rintro e w4 ⟨g4, c4, ms, rfl, hms, hown4, hb4, hml⟩
  obtain rfl : ks = ms := HKL.out.uniq hms
  have hs4 : StrsAt w4 w4.heap.size (some ⟨g4, 0, none⟩) ks := StrsAt.of_own hown4 (HKO.out _ hms)
  have HS4 := Lib.hid hs4
  have HS3' : Hid (StrsAt w4 w4.heap.size A3 ks) := Lib.hid ((HS3.out.below hb4).more hb4.size)
  have HB4 : Hid (Below w.heap.size w w4) := Lib.hid (HB3.out.trans (hb4.mono HB3.out.size))
  clear hms hown4 hs4 hb4 HB3 HS3
  go_wp2_with fail
  refine (texts_any A3 (some ⟨g4, 0, none⟩) _ _ c3 c4 ks ks _ HS3'.out HS4.out (Nat.le_refl _) (Nat.le_refl _) (by omega)).mono ?_
  rintro e w5 ⟨rfl, hg5⟩
  rw [decide_eq_true (rfl : ks = ks)]
  have HB5 : Hid (Below w.heap.size w w5) := Lib.hid (HB4.out.trans (hg5.below.mono HB4.out.size))
  clear hg5 HB4 HS3' HS4
  go_wp2_with fail
  refine (dtop_any cb F hf cnt hist now n _ (HD.out.below HB5.out) (by omega) n1 n2).mono ?_
  rintro e w6 ⟨A6, c6, ts, rfl, hts, hown6, hb6⟩
  have HTS := Lib.hid (hts.as HE.out)
  have hat6 : CntsAt w6 w6.heap.size A6 ts := Reads.of_own hown6
  have HAT6 := Lib.hid hat6
  have HB6 : Hid (Below w.heap.size w w6) := Lib.hid (HB5.out.trans (hb6.mono HB5.out.size))
  clear hts hown6 hat6 hb6 HB5
  go_wp2_with fail
  refine (rtop11_any mb G hf cnt' L now n _ (HM.out.below HB6.out) HOK.out hl hh n1).mono ?_
  rintro e w7 ⟨g7, c7, us, rfl, hus, hat7, hb7⟩
  obtain rfl : ts = us := HTS.out.uniq hus
  have htl : (ts.length : Int) ≤ 1048576 := by
    obtain ⟨cs, hc, rfl⟩ := hus
    have h1 := hc.len (S := L.map (fun a => (a.key, 0))) (fun k hk => by
      unfold cntV at hk
      split at hk
      · omega
      · obtain ⟨a, ha, e, _⟩ := histSum_pos hk
        exact List.mem_map.2 ⟨(a.key, 0), List.mem_map.2 ⟨a, ha, rfl⟩, e⟩)
    rw [List.length_map] at h1
    rw [List.length_take]
    omega
  have HAT7 := Lib.hid hat7
  have HAT6' : Hid (CntsAt w7 w7.heap.size A6 ts) := Lib.hid ((HAT6.out.below hb7).more hb7.size)
  have HB7 : Hid (Below w.heap.size w w7) := Lib.hid (HB6.out.trans (hb7.mono HB6.out.size))
  clear hus hat7 hb7 HB6 HAT6
  go_wp2_with fail
  refine (csame2_any A6 (some ⟨g7, 0, none⟩) c6 c7 _ _ ts _ rfl rfl HAT6'.out HAT7.out htl).mono ?_
  rintro e w8 ⟨rfl, hb8⟩
  have HB8 : Hid (Below w.heap.size w w8) := Lib.hid (HB7.out.trans (hb8.mono HB7.out.size))
  clear hb8
  go_wp2
  go_ret
  exact ⟨rfl, HB8.out⟩
end Go.Proofs.Ytgahopkbgefjdaa
