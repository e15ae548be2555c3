/- law11's grown: both counters behind deeds. -/
import Derived.Test.YtgahopkbgefjdaaDecE
import Derived.Test.YtgahopkbgefjdaaDecH
import Derived.Test.YtgahopkbgefjdaaRdD
import Derived.Test.YtgahopkbgefjdaaRdF
import Derived.Test.YtgahopkbgefjdaaTxts
import Derived.Laws.StructEq
import Derived.ChangeKeysEq
namespace Go.Proofs.Ytgahopkbgefjdaa
open Go.ChangeShapes Go.WideShapes Go.ChangeAt Go.RowKit Go.Shelf Go.Lib Go.Sort Go.Proofs
set_option linter.unusedVariables false
set_option linter.unusedSimpArgs false

theorem neq_cnt (k l : ByteArray) (a c : Int) (w : World) : (binOp .neq 77 (.agg #[.string k, .int .i64 a]) (.agg #[.string l, .int .i64 c])).run Try.prog w = .ok (.bool (!(k.toList == l.toList && a == c))) w := by
  have hS : Try.prog.underlying 77 = some (.struct (Try.prog.fieldsOf 77)) := by kernel_rfl
  have hp : Try.prog.stoodInHeld 77 = false := by kernel_rfl
  have p0 := fun (v : Value) (xs : Array Value) (h : xs[0]? = some v) => run_part_plain (P := Try.prog) (w := w) (e := 9) (by kernel_rfl) h
  have p1 := fun (v : Value) (xs : Array Value) (h : xs[1]? = some v) => run_part_plain (P := Try.prog) (w := w) (e := 2) (by kernel_rfl) h
  have i := fun (d : Nat) (a b : Int) => run_equalIn_int (P := Try.prog) w d 2 .i64 .i64 a b Try.underlying2
  have j := fun (d : Nat) (a b : ByteArray) => run_equalIn_string (P := Try.prog) w d 9 a b Try.underlying9
  rw [run_neq_struct, run_equalIn_agg w 9999 _ _ _ hS hp]
  simp only [Program.fieldsOf, Try.underlying77, Op.eqFields]
  cases h1 : k.toList == l.toList <;> cases h2 : a == c <;> simp [Op.eqFields, p0, p1, i, j, h1, h2, Result.andThen]

set_option maxRecDepth 20000 in
set_option maxHeartbeats 2000000 in
theorem csame_any (A A' : Option Addr) (c c' : Nat) (rs : List CntV) (w : World) (h : CntsAt w w.heap.size A rs) (h' : CntsAt w w.heap.size A' rs) (hl : (rs.length : Int) ≤ 1048576) :
    Calls Try.prog 32 #[.slice A rs.length c, .slice A' rs.length c'] w fun e w' => e = .returned (.bool true) ∧ Below w.heap.size w w' := by
  have hne : ((rs.length : Int) != (rs.length : Int)) = false := by simp
  go_enter Try.func32, Try.ntmps32
  go_wp2_with fail
  go_loopg [5] rs.length (fun rest i wr => ∃ k : Nat, i = .int .i64 k ∧ Hid (k + rest = rs.length) ∧ Below w.heap.size w wr)
  case atStart => exact ⟨0, rfl, Lib.hid (by simp), Below.refl _ _⟩
  case round =>
    obtain ⟨k, rfl, HK, hb⟩ := hrel
    by_cases hk : (k : Int) < (rs.length : Int)
    · have hkl : k < rs.length := by omega
      obtain ⟨b, o, rfl, hbl, c1, c2⟩ := (h.below hb).one hkl
      obtain ⟨b', o', rfl, hbl', d1, d2⟩ := (h'.below hb).one hkl
      generalize rs[k] = y at *
      have q := neq_cnt y.key y.key y.n y.n
      have e : (!(y.key.toList == y.key.toList && y.n == y.n)) = false := by simp
      rw [e] at q
      clear e
      go_wp2_with fail
      go_quiet (fail)
      go_wp2
      go_roundg (gk - 1)
      case measure => have := HK.out; omega
      case rel => exact ⟨k + 1, by go_num, Lib.hid (by have := HK.out; omega), below_drewN hb _⟩
    · go_wp2
      go_ret
      exact ⟨rfl, hb⟩

theorem csame2_any (A A' : Option Addr) (c c' n m : Nat) (rs : List CntV) (w : World) (hn : n = rs.length) (hm : m = rs.length) (h : CntsAt w w.heap.size A rs) (h' : CntsAt w w.heap.size A' rs) (hl : (rs.length : Int) ≤ 1048576) :
    Calls Try.prog 32 #[.slice A n c, .slice A' m c'] w fun e w' => e = .returned (.bool true) ∧ Below w.heap.size w w' := by
  subst hn hm
  exact csame_any A A' c c' rs w h h' hl

theorem KeysD.as {hf now : Int} {hist L : List AddD} (hE : ∀ k, cntV hf hist k now = cntV hf L k now) {ks : List ByteArray} (h : KeysD hf hist now ks) : KeysD hf L now ks := ⟨h.1, fun k => by rw [h.2, hE]⟩
theorem TopD.as {hf now n : Int} {hist L : List AddD} (hE : ∀ k, cntV hf hist k now = cntV hf L k now) {ts : List CntV} (h : TopD hf hist now n ts) : TopD hf L now n ts := by
  obtain ⟨cs, h1, rfl⟩ := h
  exact ⟨cs, ⟨h1.1, fun r => by rw [h1.2, hE]⟩, rfl⟩
theorem keysD_ok {hf now : Int} {L : List AddD} (hok : ∀ a ∈ L, addOk a = true) {ks : List ByteArray} (h : KeysD hf L now ks) : ∀ s ∈ ks, s.size ≤ maxLen := fun s hs => by
  have hp := (h.2 s).1 hs
  unfold cntV at hp
  split at hp
  · omega
  · obtain ⟨a, ha, e, _⟩ := histSum_pos hp
    have := addOk_iff.1 (hok a ha)
    rw [e] at this
    unfold maxLen
    omega

set_option maxRecDepth 20000 in
set_option maxHeartbeats 4000000 in
theorem even11_any (cb mb : Nat) (F G : Nat → Prop) (hf cnt cnt' : Int) (hist L : List AddD) (key : ByteArray) (now n : Int) (w : World) (hD : DecObj w cb F hf cnt hist) (hM : RcO w mb G hf cnt' L) (hE : ∀ k, cntV hf hist k now = cntV hf L k now)
    (hok : ∀ a ∈ L, addOk a = true) (hl : (L.length : Int) ≤ 1000) (hlh : (hist.length : Int) ≤ 1000) (hh : hf ≤ 1099511627776) (hk : strOk key) (n1 : now ≤ 9223372036854775807) (n2 : n ≤ 9223372036854775807) :
    Calls Try.prog 20 #[.pointer (some ⟨cb, 0, none⟩), .pointer (some ⟨mb, 0, none⟩), .string key, .int .i64 now, .int .i64 n] w fun e w' => e = .returned (.bool true) ∧ Below w.heap.size w w' := by
  have HD := Lib.hid hD
  have HM := Lib.hid hM
  have HE := Lib.hid hE
  have HOK := Lib.hid hok
  have HK := Lib.hid hk
  have HKO := Lib.hid (fun ks (h : KeysD hf L now ks) => keysD_ok hok h)
  clear hD hM hE hok hk
  go_enter Try.func20, Try.ntmps20
  go_wp2_with fail
  refine (dat_any cb F hf cnt hist key now _ HD.out HK.out n1).mono ?_
  rintro e w1 ⟨rfl, hb1⟩
  rw [HE.out]
  have HB1 := Lib.hid hb1
  clear hb1
  go_wp2_with fail
  refine (rat11_any mb G hf cnt' L key now _ (HM.out.below HB1.out) HOK.out hl hh n1).mono ?_
  rintro e w2 ⟨rfl, hb2⟩
  have HB2 : Hid (Below w.heap.size w w2) := Lib.hid (HB1.out.trans (hb2.mono HB1.out.size))
  clear hb2 HB1
  generalize cntV hf L key now = cv at *
  go_wp2_with fail
  refine (dkeys_any cb F hf cnt hist now _ (HD.out.below HB2.out) (by omega) n1).mono ?_
  rintro e w3 ⟨A3, c3, ks, rfl, hks, hown3, hb3⟩
  have hkl := hks.as HE.out
  have HKL := Lib.hid hkl
  have hs3 : StrsAt w3 w3.heap.size A3 ks := StrsAt.of_own hown3 (HKO.out _ hkl)
  have HS3 := Lib.hid hs3
  have HB3 : Hid (Below w.heap.size w w3) := Lib.hid (HB2.out.trans (hb3.mono HB2.out.size))
  clear hks hkl hown3 hs3 hb3 HB2
  go_wp2_with fail
  refine (rkeys11_any mb G hf cnt' L now _ (HM.out.below HB3.out) HOK.out hl hh n1).mono ?_
  rintro e w4 ⟨g4, c4, ms, rfl, hms, hown4, hb4, hml⟩
  obtain rfl : ks = ms := HKL.out.uniq hms
  have hs4 : StrsAt w4 w4.heap.size (some ⟨g4, 0, none⟩) ks := StrsAt.of_own hown4 (HKO.out _ hms)
  have HS4 := Lib.hid hs4
  have HS3' : Hid (StrsAt w4 w4.heap.size A3 ks) := Lib.hid ((HS3.out.below hb4).more hb4.size)
  have HB4 : Hid (Below w.heap.size w w4) := Lib.hid (HB3.out.trans (hb4.mono HB3.out.size))
  clear hms hown4 hs4 hb4 HB3 HS3
  go_wp2_with fail
  refine (texts_any A3 (some ⟨g4, 0, none⟩) _ _ c3 c4 ks ks _ HS3'.out HS4.out (Nat.le_refl _) (Nat.le_refl _) (by omega)).mono ?_
  rintro e w5 ⟨rfl, hg5⟩
  rw [decide_eq_true (rfl : ks = ks)]
  have HB5 : Hid (Below w.heap.size w w5) := Lib.hid (HB4.out.trans (hg5.below.mono HB4.out.size))
  clear hg5 HB4 HS3' HS4
  go_wp2_with fail
  refine (dtop_any cb F hf cnt hist now n _ (HD.out.below HB5.out) (by omega) n1 n2).mono ?_
  rintro e w6 ⟨A6, c6, ts, rfl, hts, hown6, hb6⟩
  have HTS := Lib.hid (hts.as HE.out)
  have hat6 : CntsAt w6 w6.heap.size A6 ts := Reads.of_own hown6
  have HAT6 := Lib.hid hat6
  have HB6 : Hid (Below w.heap.size w w6) := Lib.hid (HB5.out.trans (hb6.mono HB5.out.size))
  clear hts hown6 hat6 hb6 HB5
  go_wp2_with fail
  refine (rtop11_any mb G hf cnt' L now n _ (HM.out.below HB6.out) HOK.out hl hh n1).mono ?_
  rintro e w7 ⟨g7, c7, us, rfl, hus, hat7, hb7⟩
  obtain rfl : ts = us := HTS.out.uniq hus
  have htl : (ts.length : Int) ≤ 1048576 := by
    obtain ⟨cs, hc, rfl⟩ := hus
    have h1 := hc.len (S := L.map (fun a => (a.key, 0))) (fun k hk => by
      unfold cntV at hk
      split at hk
      · omega
      · obtain ⟨a, ha, e, _⟩ := histSum_pos hk
        exact List.mem_map.2 ⟨(a.key, 0), List.mem_map.2 ⟨a, ha, rfl⟩, e⟩)
    rw [List.length_map] at h1
    rw [List.length_take]
    omega
  have HAT7 := Lib.hid hat7
  have HAT6' : Hid (CntsAt w7 w7.heap.size A6 ts) := Lib.hid ((HAT6.out.below hb7).more hb7.size)
  have HB7 : Hid (Below w.heap.size w w7) := Lib.hid (HB6.out.trans (hb7.mono HB6.out.size))
  clear hus hat7 hb7 HB6 HAT6
  go_wp2_with fail
  refine (csame2_any A6 (some ⟨g7, 0, none⟩) c6 c7 _ _ ts _ rfl rfl HAT6'.out HAT7.out htl).mono ?_
  rintro e w8 ⟨rfl, hb8⟩
  have HB8 : Hid (Below w.heap.size w w8) := Lib.hid (HB7.out.trans (hb8.mono HB7.out.size))
  clear hb8
  go_wp2
  go_ret
  exact ⟨rfl, HB8.out⟩
end Go.Proofs.Ytgahopkbgefjdaa

namespace Go.Proofs.Ytgahopkbgefjdaa
open Go.ChangeShapes Go.WideShapes Go.ChangeAt Go.RowKit Go.Shelf Go.Lib Go.Sort Go.Proofs
set_option linter.unusedVariables false
set_option linter.unusedSimpArgs false

/-- What a deed makes of what was added. -/
def deedS (hf : Int) (st : Int × List AddD) (d : DeedD) : Int × List AddD :=
  if d.kind ≤ 3 then (if addOk d.a = true then st.1 + 1 else st.1, st.2 ++ [d.a].filter addOk)
  else if d.kind = 4 then (st.1, st.2.filter (hk (d.now - 21 * hf))) else st
def deedsS (hf : Int) (l : List DeedD) : Int × List AddD := l.foldl (deedS hf) (0, [])
theorem deedsS_take (hf : Int) (l : List DeedD) {k : Nat} (hk' : k < l.length) : deedsS hf (l.take (k + 1)) = deedS hf (deedsS hf (l.take k)) l[k] := by
  unfold deedsS
  rw [List.take_succ_eq_append_getElem hk', List.foldl_append]
  rfl
/-- What holds of it. -/
def StOk (st : Int × List AddD) (n : Nat) : Prop := (∀ a ∈ st.2, addOk a = true) ∧ st.2.length ≤ n ∧ 0 ≤ st.1 ∧ st.1 ≤ n
theorem StOk.nil : StOk (0, []) 0 := ⟨by simp, by simp, by simp, by simp⟩
theorem StOk.step {hf : Int} {st : Int × List AddD} {n : Nat} (h : StOk st n) (d : DeedD) : StOk (deedS hf st d) (n + 1) := by
  obtain ⟨h1, h2, h3, h4⟩ := h
  unfold deedS
  by_cases hk1 : d.kind ≤ 3
  · rw [if_pos hk1]
    by_cases ho : addOk d.a = true
    · rw [if_pos ho, show [d.a].filter addOk = [d.a] by simp [ho]]
      refine ⟨fun a ha => ?_, by simp; omega, by simp only; omega, by simp only; omega⟩
      rcases List.mem_append.1 ha with ha | ha
      · exact h1 a ha
      · simp at ha; subst ha; exact ho
    · rw [if_neg ho, show [d.a].filter addOk = [] by simp [ho], List.append_nil]
      exact ⟨h1, by simp only; omega, h3, by simp only; omega⟩
  · rw [if_neg hk1]
    by_cases h5 : d.kind = 4
    · rw [if_pos h5]
      refine ⟨fun a ha => h1 a (List.mem_filter.1 ha).1, ?_, h3, by simp only; omega⟩
      have := List.length_filter_le (hk (d.now - 21 * hf)) st.2
      simp only
      omega
    · rw [if_neg h5]
      exact ⟨h1, by omega, h3, by omega⟩
theorem stOk_all (hf : Int) (l : List DeedD) : StOk (deedsS hf l) l.length := by
  suffices h : ∀ (l : List DeedD) (st : Int × List AddD) (n : Nat), StOk st n → StOk (l.foldl (deedS hf) st) (n + l.length) by
    have := h l (0, []) 0 StOk.nil
    rw [Nat.zero_add] at this
    exact this
  intro l
  induction l with
  | nil => intro st n h; exact h
  | cons d l ih =>
    intro st n h
    rw [List.foldl_cons, List.length_cons, show n + (l.length + 1) = n + 1 + l.length by omega]
    exact ih _ _ (h.step d)

/-- Both, on footprints apart. -/
def Both (w : World) (B : Nat) (cb mb : Nat) (hf : Int) (st : Int × List AddD) : Prop :=
  ∃ F G, DecObj w cb F hf st.1 st.2 ∧ RcO w mb G hf st.1 st.2 ∧ Apart F G ∧ (∀ k, F k → B ≤ k) ∧ (∀ k, G k → B ≤ k)
theorem Both.below {w w' : World} {B cb mb : Nat} {hf : Int} {st : Int × List AddD} (h : Both w B cb mb hf st) (hb : Below w.heap.size w w') : Both w' B cb mb hf st := by
  obtain ⟨F, G, h1, h2, h3⟩ := h
  exact ⟨F, G, h1.below hb, h2.below hb, h3⟩

/-- What an add to both leaves. -/
theorem both_add {w w5 w6 : World} {B cb mb : Nat} {hf : Int} {cnt : Int} {L : List AddD} {a : AddD} {F F5 G G6 : Nat → Prop} (hB : B ≤ w.heap.size) (hF : ∀ k, F k → B ≤ k) (hG : ∀ k, G k → B ≤ k) (hap : Apart F G) (hM : RcO w mb G hf cnt L)
    (hD5 : DecObj w5 cb F5 hf (if addOk a = true then cnt + 1 else cnt) (L ++ [a].filter addOk)) (hu5 : Upd F w F5 w5) (hM6 : RcO w6 mb G6 hf (if addOk a = true then cnt + 1 else cnt) (L ++ [a].filter addOk)) (hk6 : Keeps (fun k => k = mb) w5 w6) (hg6 : ∀ k, G6 k → G k ∨ w5.heap.size ≤ k) :
    Both w6 B cb mb hf (if addOk a = true then cnt + 1 else cnt, L ++ [a].filter addOk) ∧ Below B w w6 := by
  obtain ⟨hM5, hap5⟩ := (RcO.own mb hf cnt L).frame hu5 hM hap
  have hmb : G mb := by obtain ⟨A, c, h, rfl⟩ := hM; exact .inl rfl
  have hu6 : Upd G w5 G6 w6 := ⟨hk6.mono (fun k _ e => by subst e; exact hmb), hg6⟩
  obtain ⟨hD6, hap6⟩ := (DecObj.own cb hf _ _).frame hu6 hD5 hap5.symm
  have hF5 := hu5.base hB hF
  have hG6 := hu6.base (Nat.le_trans hB hu5.keeps.size) hG
  exact ⟨⟨F5, G6, hD6, hM6, hap6.symm, hF5, hG6⟩, (hu5.keeps.toBelow hB hF).trans (hu6.keeps.toBelow (Nat.le_trans hB hu5.keeps.size) hG)⟩
theorem both_trim {w w5 w6 : World} {B cb mb : Nat} {hf : Int} {cnt : Int} {L L' : List AddD} {F F5 G G6 : Nat → Prop} (hB : B ≤ w.heap.size) (hF : ∀ k, F k → B ≤ k) (hG : ∀ k, G k → B ≤ k) (hap : Apart F G) (hM : RcO w mb G hf cnt L)
    (hD5 : DecObj w5 cb F5 hf cnt L') (hu5 : Upd F w F5 w5) (hM6 : RcO w6 mb G6 hf cnt L') (hk6 : Keeps (fun k => k = mb) w5 w6) (hg6 : ∀ k, G6 k → G k ∨ w5.heap.size ≤ k) :
    Both w6 B cb mb hf (cnt, L') ∧ Below B w w6 := by
  obtain ⟨hM5, hap5⟩ := (RcO.own mb hf cnt L).frame hu5 hM hap
  have hmb : G mb := by obtain ⟨A, c, h, rfl⟩ := hM; exact .inl rfl
  have hu6 : Upd G w5 G6 w6 := ⟨hk6.mono (fun k _ e => by subst e; exact hmb), hg6⟩
  obtain ⟨hD6, hap6⟩ := (DecObj.own cb hf _ _).frame hu6 hD5 hap5.symm
  exact ⟨⟨F5, G6, hD6, hM6, hap6.symm, hu5.base hB hF, hu6.base (Nat.le_trans hB hu5.keeps.size) hG⟩, (hu5.keeps.toBelow hB hF).trans (hu6.keeps.toBelow (Nat.le_trans hB hu5.keeps.size) hG)⟩
theorem RcO.frameU {w w5 : World} {mb : Nat} {hf cnt : Int} {L : List AddD} {F F5 G : Nat → Prop} (hM : RcO w mb G hf cnt L) (hu5 : Upd F w F5 w5) (hap : Apart F G) : RcO w5 mb G hf cnt L := ((RcO.own mb hf cnt L).frame hu5 hM hap).1

/-- The add's contract, plainly. -/
theorem dadd2_any (cb : Nat) (F : Nat → Prop) (hf cnt : Int) (hist : List AddD) (a : AddD) (w : World) (h : DecObj w cb F hf cnt hist) (hc : cnt < 1048576) :
    Calls Try.prog 14 #[.pointer (some ⟨cb, 0, none⟩), .string a.key, .int .i64 a.at_, .int .i64 a.n] w fun e w' => e = .returned (.bool (addOk a)) ∧ ∃ F', DecObj w' cb F' hf (if addOk a = true then cnt + 1 else cnt) (hist ++ [a].filter addOk) ∧ Upd F w F' w' := by
  refine (dadd_any cb F hf cnt hist a.key a.at_ a.n w h).mono ?_
  rintro e w' ⟨he, F', h1, h2, h3⟩
  rw [daddB_ok hc] at he h1
  refine ⟨he, F', ?_, h2, h3⟩
  by_cases hb : addOk a = true
  · have hb2 : addOk ⟨a.key, a.at_, a.n⟩ = true := hb
    rw [hb2, if_pos rfl, if_pos rfl] at h1
    rw [if_pos hb, show [a].filter addOk = [a] by simp [hb]]
    exact h1
  · have hb' : addOk a = false := by simpa using hb
    have hb2 : addOk ⟨a.key, a.at_, a.n⟩ = false := hb'
    rw [hb2, if_neg (by simp), if_neg (by simp)] at h1
    rw [hb', if_neg (by simp), show [a].filter addOk = [] by simp [hb'], List.append_nil]
    exact h1

/-- What grown leaves. -/
def Grown11 (w : World) (half : Int) (l : List DeedD) (e : Ending) (w' : World) : Prop :=
  ∃ cb mb, e = .returned (.tuple #[.pointer (some ⟨cb, 0, none⟩), .pointer (some ⟨mb, 0, none⟩), .bool true]) ∧ Both w' w.heap.size cb mb (halfOf half) (deedsS (halfOf half) l) ∧ Below w.heap.size w w'

set_option maxRecDepth 20000 in
set_option maxHeartbeats 8000000 in
theorem grown11_any (half : Int) (A : Option Addr) (c : Nat) (l : List DeedD) (w : World) (hl : DeedsAt w w.heap.size A l) (hlen : (l.length : Int) ≤ 1000) (hks : ∀ d ∈ l, (d.a.key.size : Int) ≤ 100) (hds : ∀ d ∈ l, DeedOk d) :
    Calls Try.prog 21 #[.int .i64 half, .slice A l.length c] w (Grown11 w half l) := by
  have HL := Lib.hid hl
  have HKS := Lib.hid hks
  have HDS := Lib.hid hds
  clear hl hks hds
  have hh1 : 1 ≤ halfOf half := by unfold halfOf; omega
  have hh2 : halfOf half ≤ 1099511627776 := by unfold halfOf; omega
  go_enter Try.func21, Try.ntmps21
  go_wp2_with fail
  refine (dnew_any half _).mono ?_
  rintro e w1 ⟨cb, F, rfl, hO, hF, hb1⟩
  go_wp2_with fail
  refine (rhalf_any half _).mono ?_
  rintro e w1' ⟨rfl, rfl⟩
  generalize hhf : halfOf half = hf at *
  have HHF := Lib.hid hhf
  clear hhf
  have hz1 := hb1.size
  have hb2 : Below w.heap.size w (w1.alloc (Obj.cells #[.int .i64 hf, .slice none 0 0, .int .i64 0] 39)) := hb1.alloc hz1 _
  have hbo : Both (w1.alloc (Obj.cells #[.int .i64 hf, .slice none 0 0, .int .i64 0] 39)) w.heap.size cb w1.heap.size hf (0, []) := by
    refine ⟨F, _, hO.below ((Below.refl _ _).alloc (Nat.le_refl _) _), ⟨none, 0, ⟨heap_alloc_new w1 _, Reads.none_, fun _ => rfl, (fun ⟨o, sp, e⟩ => by cases e), (fun k ⟨o, sp, e⟩ => by cases e)⟩, rfl⟩, ?_, hF, ?_⟩
    · rintro k hf (rfl | ⟨o, sp, e⟩)
      · exact absurd ((DecObj.own cb _ _ _).lt hO _ hf) (Nat.lt_irrefl _)
      · cases e
    · rintro k (rfl | ⟨o, sp, e⟩)
      · exact hz1
      · cases e
  have HBO := Lib.hid hbo
  have HB2 := Lib.hid hb2
  clear hbo hb2 hO hF hb1
  go_wp2_with fail
  generalize w1.alloc (Obj.cells #[.int .i64 hf, .slice none 0 0, .int .i64 0] 39) = W2 at *
  generalize w1.heap.size = mb at *
  go_loopg [9] l.length (fun rest i wr => ∃ (k : Nat), i = .int .i64 k ∧ Hid (k + rest = l.length) ∧ Hid (Both wr w.heap.size cb mb hf (deedsS hf (l.take k))) ∧ Hid (Below w.heap.size w wr))
  case atStart => exact ⟨0, rfl, Lib.hid (by simp), Lib.hid (by rw [List.take_zero]; exact HBO.out), HB2⟩
  case round =>
    clear HBO HB2
    obtain ⟨k, rfl, HK, HO, HB⟩ := hrel
    by_cases hk' : (k : Int) < (l.length : Int)
    · have hkl : k < l.length := by omega
      obtain ⟨b, o, rfl, hbl, e0, e1, e2, e3, e4⟩ := (HL.out.below HB.out).one hkl
      have HKT := Lib.hid (deedsS_take hf l hkl)
      have hso := stOk_all hf (l.take k)
      have hkk : (l.take k).length ≤ l.length := List.length_take_le' _ _
      have hsz := HKS.out _ (List.getElem_mem hkl)
      have hdk := HDS.out _ (List.getElem_mem hkl)
      generalize l[k] = d at *
      generalize deedsS hf (l.take k) = st at *
      obtain ⟨kind, a, now⟩ := d
      obtain ⟨hd1, hd2, hd3, hd4, hd5⟩ := hdk
      simp only at hd1 hd2 hd3 hd4 hd5 hsz e0 e1 e2 e3 e4
      obtain ⟨cnt, L⟩ := st
      have hso1 := hso.1
      have hso2 : (L.length : Int) ≤ 1000 := by have := hso.2.1; simp only at this; omega
      have hso3 : 0 ≤ cnt ∧ cnt < 1048576 := by have := hso.2.2; simp only at this; omega
      have HS1 := Lib.hid hso1
      clear hso hso1 hkk
      have hnow : now ≤ 9223372036854775807 := hd5.2
      have hkd : kind = 0 ∨ kind = 1 ∨ kind = 2 ∨ kind = 3 ∨ kind = 4 ∨ 4 < kind := by omega
      obtain ⟨F, G, hD, hM, hap, hF, hG⟩ := HO.out
      obtain ⟨Wa, hWa⟩ : ∃ Wa, Wa = wr.alloc (.cells #[.string a.key, .int .i64 a.at_, .int .i64 a.n] 30) := ⟨_, rfl⟩
      have hba : Below wr.heap.size wr Wa := by rw [hWa]; exact (Below.refl _ _).alloc (Nat.le_refl _) _
      have e0a : (wr.alloc (.cells #[.string a.key, .int .i64 a.at_, .int .i64 a.n] 30)).cell? ⟨b, o + k * 5, none⟩ = some (.int .u8 kind) := by rw [← hWa]; exact (hba.cell (p := ⟨b, o + k * 5, none⟩) (Nat.lt_of_lt_of_le hbl HB.out.size)).trans e0
      have b0 : Wa.cell? ⟨wr.heap.size, 0, none⟩ = some (.string a.key) := by rw [hWa]; simp
      have b1 : Wa.cell? ⟨wr.heap.size, 1, none⟩ = some (.int .i64 a.at_) := by rw [hWa]; simp
      have b2 : Wa.cell? ⟨wr.heap.size, 2, none⟩ = some (.int .i64 a.n) := by rw [hWa]; simp
      have hab : wr.heap.size < Wa.drew.heap.size := by rw [hWa]; simp
      have hbd : Below wr.heap.size wr Wa.drew := hba.drew
      have HD : Hid (DecObj Wa.drew cb F hf cnt L) := Lib.hid (hD.below hbd)
      have HM : Hid (RcO Wa.drew mb G hf cnt L) := Lib.hid (hM.below hbd)
      have HNF : Hid (¬ F wr.heap.size) := Lib.hid (fun h => absurd ((DecObj.own cb hf cnt L).lt hD _ h) (Nat.lt_irrefl _))
      have hgm : G mb := by obtain ⟨A, c, h, rfl⟩ := hM; exact .inl rfl
      have HNM : Hid (¬ wr.heap.size = mb) := Lib.hid (fun h => absurd ((RcO.own mb hf cnt L).lt hM _ hgm) (by omega))
      have HGM : Hid (w.heap.size ≤ mb) := Lib.hid (hG mb hgm)
      have HAP := Lib.hid hap
      have HF := Lib.hid hF
      have HG := Lib.hid hG
      have HZD : Hid (w.heap.size ≤ Wa.drew.heap.size) := Lib.hid (Nat.le_trans HB.out.size hbd.size)
      have HBD : Hid (Below w.heap.size w Wa.drew) := Lib.hid (HB.out.trans (hbd.mono HB.out.size))
      have HBD2 := Lib.hid hbd
      have HBA := Lib.hid hba
      clear hD hM hap hF hG hgm hba hbd
      rcases hkd with hkd | hkd | hkd | hkd | hkd | hkd
      · subst hkd
        clear hd1
        have hds : deedS hf (cnt, L) ⟨0, a, now⟩ = (if addOk a = true then cnt + 1 else cnt, L ++ [a].filter addOk) := by simp [deedS]
        have HDS2 := Lib.hid hds
        clear hds
        go_wp2_with fail
        rw [← hWa]
        clear hWa
        have HQ : Wa.drew.cell? ⟨wr.heap.size, 0, none⟩ = some (.string a.key) ∧ Wa.drew.cell? ⟨wr.heap.size, 1, none⟩ = some (.int .i64 a.at_) ∧ Wa.drew.cell? ⟨wr.heap.size, 2, none⟩ = some (.int .i64 a.n) := ⟨b0, b1, b2⟩
        clear b0 b1 b2
        refine heldStart 11 (S := fun W => W.cell? ⟨wr.heap.size, 0, none⟩ = some (.string a.key) ∧ W.cell? ⟨wr.heap.size, 1, none⟩ = some (.int .i64 a.at_) ∧ W.cell? ⟨wr.heap.size, 2, none⟩ = some (.int .i64 a.n)) (by kernel_rfl) ?_ (fun hHeld => ?_)
        · exact HQ
        refine heldTake 0 (v := ?_) (by simp only [List.getElem?_toArray, List.getElem?_cons_succ, List.getElem?_cons_zero]; rfl) (by kernel_rfl) (by intro _ _ _ h; exact h) (by rfl) (by assumption) ?_ ?_
        rotate_left
        · intro W hSw; (try dsimp only at hSw); go_simp; try with_reducible rfl
        simp only [Act.put, List.setIfInBounds_toArray, List.set_cons_zero, List.set_cons_succ]
        refine heldTake 1 (v := ?_) (by simp only [List.getElem?_toArray, List.getElem?_cons_succ, List.getElem?_cons_zero]; rfl) (by kernel_rfl) (by intro _ _ _ h; exact h) (by rfl) (by assumption) ?_ ?_
        rotate_left
        · intro W hSw; (try dsimp only at hSw); go_simp; try with_reducible rfl
        simp only [Act.put, List.setIfInBounds_toArray, List.set_cons_zero, List.set_cons_succ]
        refine heldTake 2 (v := ?_) (by simp only [List.getElem?_toArray, List.getElem?_cons_succ, List.getElem?_cons_zero]; rfl) (by kernel_rfl) (by intro _ _ _ h; exact h) (by rfl) (by assumption) ?_ ?_
        rotate_left
        · intro W hSw; (try dsimp only at hSw); go_simp; try with_reducible rfl
        simp only [Act.put, List.setIfInBounds_toArray, List.set_cons_zero, List.set_cons_succ]
        refine heldTake 3 (v := ?_) (by simp only [List.getElem?_toArray, List.getElem?_cons_succ, List.getElem?_cons_zero]; rfl) (by kernel_rfl) (by intro _ _ _ h; exact h) (by rfl) (by assumption) ?_ ?_
        rotate_left
        · intro W hSw; (try dsimp only at hSw); go_simp; try with_reducible rfl
        simp only [Act.put, List.setIfInBounds_toArray, List.set_cons_zero, List.set_cons_succ]
        refine heldTake 4 (v := ?_) (by simp only [List.getElem?_toArray, List.getElem?_cons_succ, List.getElem?_cons_zero]; rfl) (by kernel_rfl) (by intro _ _ _ h; exact h) (by rfl) (by assumption) ?_ ?_
        rotate_left
        · intro W hSw; (try dsimp only at hSw); go_simp; try with_reducible rfl
        simp only [Act.put, List.setIfInBounds_toArray, List.set_cons_zero, List.set_cons_succ]
        refine heldTake 5 (v := ?_) (by simp only [List.getElem?_toArray, List.getElem?_cons_succ, List.getElem?_cons_zero]; rfl) (by kernel_rfl) (by intro _ _ _ h; exact h) (by rfl) (by assumption) ?_ ?_
        rotate_left
        · intro W hSw; (try dsimp only at hSw); go_simp; try with_reducible rfl
        simp only [Act.put, List.setIfInBounds_toArray, List.set_cons_zero, List.set_cons_succ]
        refine heldTake 6 (v := ?_) (by simp only [List.getElem?_toArray, List.getElem?_cons_succ, List.getElem?_cons_zero]; rfl) (by kernel_rfl) (by intro _ _ _ h; exact h) (by rfl) (by assumption) ?_ ?_
        rotate_left
        · intro W hSw; (try dsimp only at hSw); go_simp; try with_reducible rfl
        simp only [Act.put, List.setIfInBounds_toArray, List.set_cons_zero, List.set_cons_succ]
        refine heldTake 8 (v := ?_) (by simp only [List.getElem?_toArray, List.getElem?_cons_succ, List.getElem?_cons_zero]; rfl) (by kernel_rfl) (by intro _ _ _ h; exact h) (by rfl) (by assumption) ?_ ?_
        rotate_left
        · intro W hSw; (try dsimp only at hSw); go_simp; try with_reducible rfl
        simp only [Act.put, List.setIfInBounds_toArray, List.set_cons_zero, List.set_cons_succ]
        refine heldTake 9 (v := ?_) (by simp only [List.getElem?_toArray, List.getElem?_cons_succ, List.getElem?_cons_zero]; rfl) (by kernel_rfl) (by intro _ _ _ h; exact h) (by rfl) (by assumption) ?_ ?_
        rotate_left
        · intro W hSw; (try dsimp only at hSw); go_simp; try with_reducible rfl
        simp only [Act.put, List.setIfInBounds_toArray, List.set_cons_zero, List.set_cons_succ]
        refine heldCall 7 (by simp only [List.getElem?_toArray, List.getElem?_cons_succ, List.getElem?_cons_zero]; rfl) (by kernel_rfl) (fun K hK => ?_)
        go_simp
        refine (dadd2_any cb F hf cnt L a _ HD.out (by omega)).mono ?_
        rintro r w5 ⟨rfl, F5, hD5, hu5⟩
        have HQ5 : w5.cell? ⟨wr.heap.size, 0, none⟩ = some (.string a.key) ∧ w5.cell? ⟨wr.heap.size, 1, none⟩ = some (.int .i64 a.at_) ∧ w5.cell? ⟨wr.heap.size, 2, none⟩ = some (.int .i64 a.n) := ⟨(hu5.keeps.cell (p := ⟨wr.heap.size, 0, none⟩) hab HNF.out).trans HQ.1, (hu5.keeps.cell (p := ⟨wr.heap.size, 1, none⟩) hab HNF.out).trans HQ.2.1, (hu5.keeps.cell (p := ⟨wr.heap.size, 2, none⟩) hab HNF.out).trans HQ.2.2⟩
        clear HQ
        have HQ := HQ5
        clear HQ5
        have hab5 : wr.heap.size < w5.heap.size := Nat.lt_of_lt_of_le hab hu5.keeps.size
        have HM5 := Lib.hid (HM.out.frameU hu5 HAP.out)
        have HD5 := Lib.hid hD5
        have HU5 := Lib.hid hu5
        clear hD5 hu5
        go_wp2_with fail
        refine hK.out _ _ ?_ (fun hHeld => ?_)
        · exact HQ
        clear hK K
        (try simp only [Act.put, List.setIfInBounds_toArray, List.set_cons_zero, List.set_cons_succ])
        refine heldCall 10 (by simp only [List.getElem?_toArray, List.getElem?_cons_succ, List.getElem?_cons_zero]; rfl) (by kernel_rfl) (fun K hK => ?_)
        go_simp
        refine (rput11_any mb G hf cnt L a _ HM5.out (by omega) (by omega) (by omega) (by omega)).mono ?_
        rintro r w6 ⟨rfl, G6, hM6, hk6, hg6⟩
        have HQ5 : w6.cell? ⟨wr.heap.size, 0, none⟩ = some (.string a.key) ∧ w6.cell? ⟨wr.heap.size, 1, none⟩ = some (.int .i64 a.at_) ∧ w6.cell? ⟨wr.heap.size, 2, none⟩ = some (.int .i64 a.n) := ⟨(hk6.cell (p := ⟨wr.heap.size, 0, none⟩) hab5 HNM.out).trans HQ.1, (hk6.cell (p := ⟨wr.heap.size, 1, none⟩) hab5 HNM.out).trans HQ.2.1, (hk6.cell (p := ⟨wr.heap.size, 2, none⟩) hab5 HNM.out).trans HQ.2.2⟩
        clear HQ
        have HQ := HQ5
        clear HQ5
        have hfin := both_add (B := w.heap.size) HZD.out HF.out HG.out HAP.out HM.out HD5.out HU5.out hM6 hk6 hg6
        have HFN := Lib.hid hfin
        clear hfin hM6 hk6 hg6
        generalize addOk a = bb at *
        go_wp2_with fail
        refine hK.out _ _ ?_ (fun hHeld => ?_)
        · exact HQ
        clear hK K
        (try simp only [Act.put, List.setIfInBounds_toArray, List.set_cons_zero, List.set_cons_succ])
        refine heldTake 11 (v := ?_) (by simp only [List.getElem?_toArray, List.getElem?_cons_succ, List.getElem?_cons_zero]; rfl) (by kernel_rfl) (by intro _ _ _ h; exact h) (by rfl) (by assumption) ?_ ?_
        rotate_left
        · intro W hSw; (try dsimp only at hSw); go_simp; try with_reducible rfl
        simp only [Act.put, List.setIfInBounds_toArray, List.set_cons_zero, List.set_cons_succ]
        refine heldDone (by kernel_rfl) ?_ _
        have HB6 : Hid (Below w.heap.size w w6) := Lib.hid (HBD.out.trans HFN.out.2)
        have HO6 : Hid (Both w6 w.heap.size cb mb hf (deedsS hf (l.take (k + 1)))) := Lib.hid (by rw [HKT.out, HDS2.out]; exact HFN.out.1)
        clear HFN HQ HKT HDS2 HM5 HD5 HU5
        go_wp2
        go_roundg (gk - 1)
        case measure => have := HK.out; omega
        case rel => exact ⟨k + 1, by go_num, Lib.hid (by have := HK.out; omega), HO6, HB6⟩
      · subst hkd
        clear hd1
        have hds : deedS hf (cnt, L) ⟨1, a, now⟩ = (if addOk a = true then cnt + 1 else cnt, L ++ [a].filter addOk) := by simp [deedS]
        have HDS2 := Lib.hid hds
        clear hds
        go_wp2_with fail
        rw [← hWa]
        clear hWa
        have HQ : Wa.drew.cell? ⟨wr.heap.size, 0, none⟩ = some (.string a.key) ∧ Wa.drew.cell? ⟨wr.heap.size, 1, none⟩ = some (.int .i64 a.at_) ∧ Wa.drew.cell? ⟨wr.heap.size, 2, none⟩ = some (.int .i64 a.n) := ⟨b0, b1, b2⟩
        clear b0 b1 b2
        refine heldStart 11 (S := fun W => W.cell? ⟨wr.heap.size, 0, none⟩ = some (.string a.key) ∧ W.cell? ⟨wr.heap.size, 1, none⟩ = some (.int .i64 a.at_) ∧ W.cell? ⟨wr.heap.size, 2, none⟩ = some (.int .i64 a.n)) (by kernel_rfl) ?_ (fun hHeld => ?_)
        · exact HQ
        refine heldTake 0 (v := ?_) (by simp only [List.getElem?_toArray, List.getElem?_cons_succ, List.getElem?_cons_zero]; rfl) (by kernel_rfl) (by intro _ _ _ h; exact h) (by rfl) (by assumption) ?_ ?_
        rotate_left
        · intro W hSw; (try dsimp only at hSw); go_simp; try with_reducible rfl
        simp only [Act.put, List.setIfInBounds_toArray, List.set_cons_zero, List.set_cons_succ]
        refine heldTake 1 (v := ?_) (by simp only [List.getElem?_toArray, List.getElem?_cons_succ, List.getElem?_cons_zero]; rfl) (by kernel_rfl) (by intro _ _ _ h; exact h) (by rfl) (by assumption) ?_ ?_
        rotate_left
        · intro W hSw; (try dsimp only at hSw); go_simp; try with_reducible rfl
        simp only [Act.put, List.setIfInBounds_toArray, List.set_cons_zero, List.set_cons_succ]
        refine heldTake 2 (v := ?_) (by simp only [List.getElem?_toArray, List.getElem?_cons_succ, List.getElem?_cons_zero]; rfl) (by kernel_rfl) (by intro _ _ _ h; exact h) (by rfl) (by assumption) ?_ ?_
        rotate_left
        · intro W hSw; (try dsimp only at hSw); go_simp; try with_reducible rfl
        simp only [Act.put, List.setIfInBounds_toArray, List.set_cons_zero, List.set_cons_succ]
        refine heldTake 3 (v := ?_) (by simp only [List.getElem?_toArray, List.getElem?_cons_succ, List.getElem?_cons_zero]; rfl) (by kernel_rfl) (by intro _ _ _ h; exact h) (by rfl) (by assumption) ?_ ?_
        rotate_left
        · intro W hSw; (try dsimp only at hSw); go_simp; try with_reducible rfl
        simp only [Act.put, List.setIfInBounds_toArray, List.set_cons_zero, List.set_cons_succ]
        refine heldTake 4 (v := ?_) (by simp only [List.getElem?_toArray, List.getElem?_cons_succ, List.getElem?_cons_zero]; rfl) (by kernel_rfl) (by intro _ _ _ h; exact h) (by rfl) (by assumption) ?_ ?_
        rotate_left
        · intro W hSw; (try dsimp only at hSw); go_simp; try with_reducible rfl
        simp only [Act.put, List.setIfInBounds_toArray, List.set_cons_zero, List.set_cons_succ]
        refine heldTake 5 (v := ?_) (by simp only [List.getElem?_toArray, List.getElem?_cons_succ, List.getElem?_cons_zero]; rfl) (by kernel_rfl) (by intro _ _ _ h; exact h) (by rfl) (by assumption) ?_ ?_
        rotate_left
        · intro W hSw; (try dsimp only at hSw); go_simp; try with_reducible rfl
        simp only [Act.put, List.setIfInBounds_toArray, List.set_cons_zero, List.set_cons_succ]
        refine heldTake 6 (v := ?_) (by simp only [List.getElem?_toArray, List.getElem?_cons_succ, List.getElem?_cons_zero]; rfl) (by kernel_rfl) (by intro _ _ _ h; exact h) (by rfl) (by assumption) ?_ ?_
        rotate_left
        · intro W hSw; (try dsimp only at hSw); go_simp; try with_reducible rfl
        simp only [Act.put, List.setIfInBounds_toArray, List.set_cons_zero, List.set_cons_succ]
        refine heldTake 8 (v := ?_) (by simp only [List.getElem?_toArray, List.getElem?_cons_succ, List.getElem?_cons_zero]; rfl) (by kernel_rfl) (by intro _ _ _ h; exact h) (by rfl) (by assumption) ?_ ?_
        rotate_left
        · intro W hSw; (try dsimp only at hSw); go_simp; try with_reducible rfl
        simp only [Act.put, List.setIfInBounds_toArray, List.set_cons_zero, List.set_cons_succ]
        refine heldTake 9 (v := ?_) (by simp only [List.getElem?_toArray, List.getElem?_cons_succ, List.getElem?_cons_zero]; rfl) (by kernel_rfl) (by intro _ _ _ h; exact h) (by rfl) (by assumption) ?_ ?_
        rotate_left
        · intro W hSw; (try dsimp only at hSw); go_simp; try with_reducible rfl
        simp only [Act.put, List.setIfInBounds_toArray, List.set_cons_zero, List.set_cons_succ]
        refine heldCall 7 (by simp only [List.getElem?_toArray, List.getElem?_cons_succ, List.getElem?_cons_zero]; rfl) (by kernel_rfl) (fun K hK => ?_)
        go_simp
        refine (dadd2_any cb F hf cnt L a _ HD.out (by omega)).mono ?_
        rintro r w5 ⟨rfl, F5, hD5, hu5⟩
        have HQ5 : w5.cell? ⟨wr.heap.size, 0, none⟩ = some (.string a.key) ∧ w5.cell? ⟨wr.heap.size, 1, none⟩ = some (.int .i64 a.at_) ∧ w5.cell? ⟨wr.heap.size, 2, none⟩ = some (.int .i64 a.n) := ⟨(hu5.keeps.cell (p := ⟨wr.heap.size, 0, none⟩) hab HNF.out).trans HQ.1, (hu5.keeps.cell (p := ⟨wr.heap.size, 1, none⟩) hab HNF.out).trans HQ.2.1, (hu5.keeps.cell (p := ⟨wr.heap.size, 2, none⟩) hab HNF.out).trans HQ.2.2⟩
        clear HQ
        have HQ := HQ5
        clear HQ5
        have hab5 : wr.heap.size < w5.heap.size := Nat.lt_of_lt_of_le hab hu5.keeps.size
        have HM5 := Lib.hid (HM.out.frameU hu5 HAP.out)
        have HD5 := Lib.hid hD5
        have HU5 := Lib.hid hu5
        clear hD5 hu5
        go_wp2_with fail
        refine hK.out _ _ ?_ (fun hHeld => ?_)
        · exact HQ
        clear hK K
        (try simp only [Act.put, List.setIfInBounds_toArray, List.set_cons_zero, List.set_cons_succ])
        refine heldCall 10 (by simp only [List.getElem?_toArray, List.getElem?_cons_succ, List.getElem?_cons_zero]; rfl) (by kernel_rfl) (fun K hK => ?_)
        go_simp
        refine (rput11_any mb G hf cnt L a _ HM5.out (by omega) (by omega) (by omega) (by omega)).mono ?_
        rintro r w6 ⟨rfl, G6, hM6, hk6, hg6⟩
        have HQ5 : w6.cell? ⟨wr.heap.size, 0, none⟩ = some (.string a.key) ∧ w6.cell? ⟨wr.heap.size, 1, none⟩ = some (.int .i64 a.at_) ∧ w6.cell? ⟨wr.heap.size, 2, none⟩ = some (.int .i64 a.n) := ⟨(hk6.cell (p := ⟨wr.heap.size, 0, none⟩) hab5 HNM.out).trans HQ.1, (hk6.cell (p := ⟨wr.heap.size, 1, none⟩) hab5 HNM.out).trans HQ.2.1, (hk6.cell (p := ⟨wr.heap.size, 2, none⟩) hab5 HNM.out).trans HQ.2.2⟩
        clear HQ
        have HQ := HQ5
        clear HQ5
        have hfin := both_add (B := w.heap.size) HZD.out HF.out HG.out HAP.out HM.out HD5.out HU5.out hM6 hk6 hg6
        have HFN := Lib.hid hfin
        clear hfin hM6 hk6 hg6
        generalize addOk a = bb at *
        go_wp2_with fail
        refine hK.out _ _ ?_ (fun hHeld => ?_)
        · exact HQ
        clear hK K
        (try simp only [Act.put, List.setIfInBounds_toArray, List.set_cons_zero, List.set_cons_succ])
        refine heldTake 11 (v := ?_) (by simp only [List.getElem?_toArray, List.getElem?_cons_succ, List.getElem?_cons_zero]; rfl) (by kernel_rfl) (by intro _ _ _ h; exact h) (by rfl) (by assumption) ?_ ?_
        rotate_left
        · intro W hSw; (try dsimp only at hSw); go_simp; try with_reducible rfl
        simp only [Act.put, List.setIfInBounds_toArray, List.set_cons_zero, List.set_cons_succ]
        refine heldDone (by kernel_rfl) ?_ _
        have HB6 : Hid (Below w.heap.size w w6) := Lib.hid (HBD.out.trans HFN.out.2)
        have HO6 : Hid (Both w6 w.heap.size cb mb hf (deedsS hf (l.take (k + 1)))) := Lib.hid (by rw [HKT.out, HDS2.out]; exact HFN.out.1)
        clear HFN HQ HKT HDS2 HM5 HD5 HU5
        go_wp2
        go_roundg (gk - 1)
        case measure => have := HK.out; omega
        case rel => exact ⟨k + 1, by go_num, Lib.hid (by have := HK.out; omega), HO6, HB6⟩
      · subst hkd
        clear hd1
        have hds : deedS hf (cnt, L) ⟨2, a, now⟩ = (if addOk a = true then cnt + 1 else cnt, L ++ [a].filter addOk) := by simp [deedS]
        have HDS2 := Lib.hid hds
        clear hds
        go_wp2_with fail
        rw [← hWa]
        clear hWa
        have HQ : Wa.drew.cell? ⟨wr.heap.size, 0, none⟩ = some (.string a.key) ∧ Wa.drew.cell? ⟨wr.heap.size, 1, none⟩ = some (.int .i64 a.at_) ∧ Wa.drew.cell? ⟨wr.heap.size, 2, none⟩ = some (.int .i64 a.n) := ⟨b0, b1, b2⟩
        clear b0 b1 b2
        refine heldStart 11 (S := fun W => W.cell? ⟨wr.heap.size, 0, none⟩ = some (.string a.key) ∧ W.cell? ⟨wr.heap.size, 1, none⟩ = some (.int .i64 a.at_) ∧ W.cell? ⟨wr.heap.size, 2, none⟩ = some (.int .i64 a.n)) (by kernel_rfl) ?_ (fun hHeld => ?_)
        · exact HQ
        refine heldTake 0 (v := ?_) (by simp only [List.getElem?_toArray, List.getElem?_cons_succ, List.getElem?_cons_zero]; rfl) (by kernel_rfl) (by intro _ _ _ h; exact h) (by rfl) (by assumption) ?_ ?_
        rotate_left
        · intro W hSw; (try dsimp only at hSw); go_simp; try with_reducible rfl
        simp only [Act.put, List.setIfInBounds_toArray, List.set_cons_zero, List.set_cons_succ]
        refine heldTake 1 (v := ?_) (by simp only [List.getElem?_toArray, List.getElem?_cons_succ, List.getElem?_cons_zero]; rfl) (by kernel_rfl) (by intro _ _ _ h; exact h) (by rfl) (by assumption) ?_ ?_
        rotate_left
        · intro W hSw; (try dsimp only at hSw); go_simp; try with_reducible rfl
        simp only [Act.put, List.setIfInBounds_toArray, List.set_cons_zero, List.set_cons_succ]
        refine heldTake 2 (v := ?_) (by simp only [List.getElem?_toArray, List.getElem?_cons_succ, List.getElem?_cons_zero]; rfl) (by kernel_rfl) (by intro _ _ _ h; exact h) (by rfl) (by assumption) ?_ ?_
        rotate_left
        · intro W hSw; (try dsimp only at hSw); go_simp; try with_reducible rfl
        simp only [Act.put, List.setIfInBounds_toArray, List.set_cons_zero, List.set_cons_succ]
        refine heldTake 3 (v := ?_) (by simp only [List.getElem?_toArray, List.getElem?_cons_succ, List.getElem?_cons_zero]; rfl) (by kernel_rfl) (by intro _ _ _ h; exact h) (by rfl) (by assumption) ?_ ?_
        rotate_left
        · intro W hSw; (try dsimp only at hSw); go_simp; try with_reducible rfl
        simp only [Act.put, List.setIfInBounds_toArray, List.set_cons_zero, List.set_cons_succ]
        refine heldTake 4 (v := ?_) (by simp only [List.getElem?_toArray, List.getElem?_cons_succ, List.getElem?_cons_zero]; rfl) (by kernel_rfl) (by intro _ _ _ h; exact h) (by rfl) (by assumption) ?_ ?_
        rotate_left
        · intro W hSw; (try dsimp only at hSw); go_simp; try with_reducible rfl
        simp only [Act.put, List.setIfInBounds_toArray, List.set_cons_zero, List.set_cons_succ]
        refine heldTake 5 (v := ?_) (by simp only [List.getElem?_toArray, List.getElem?_cons_succ, List.getElem?_cons_zero]; rfl) (by kernel_rfl) (by intro _ _ _ h; exact h) (by rfl) (by assumption) ?_ ?_
        rotate_left
        · intro W hSw; (try dsimp only at hSw); go_simp; try with_reducible rfl
        simp only [Act.put, List.setIfInBounds_toArray, List.set_cons_zero, List.set_cons_succ]
        refine heldTake 6 (v := ?_) (by simp only [List.getElem?_toArray, List.getElem?_cons_succ, List.getElem?_cons_zero]; rfl) (by kernel_rfl) (by intro _ _ _ h; exact h) (by rfl) (by assumption) ?_ ?_
        rotate_left
        · intro W hSw; (try dsimp only at hSw); go_simp; try with_reducible rfl
        simp only [Act.put, List.setIfInBounds_toArray, List.set_cons_zero, List.set_cons_succ]
        refine heldTake 8 (v := ?_) (by simp only [List.getElem?_toArray, List.getElem?_cons_succ, List.getElem?_cons_zero]; rfl) (by kernel_rfl) (by intro _ _ _ h; exact h) (by rfl) (by assumption) ?_ ?_
        rotate_left
        · intro W hSw; (try dsimp only at hSw); go_simp; try with_reducible rfl
        simp only [Act.put, List.setIfInBounds_toArray, List.set_cons_zero, List.set_cons_succ]
        refine heldTake 9 (v := ?_) (by simp only [List.getElem?_toArray, List.getElem?_cons_succ, List.getElem?_cons_zero]; rfl) (by kernel_rfl) (by intro _ _ _ h; exact h) (by rfl) (by assumption) ?_ ?_
        rotate_left
        · intro W hSw; (try dsimp only at hSw); go_simp; try with_reducible rfl
        simp only [Act.put, List.setIfInBounds_toArray, List.set_cons_zero, List.set_cons_succ]
        refine heldCall 7 (by simp only [List.getElem?_toArray, List.getElem?_cons_succ, List.getElem?_cons_zero]; rfl) (by kernel_rfl) (fun K hK => ?_)
        go_simp
        refine (dadd2_any cb F hf cnt L a _ HD.out (by omega)).mono ?_
        rintro r w5 ⟨rfl, F5, hD5, hu5⟩
        have HQ5 : w5.cell? ⟨wr.heap.size, 0, none⟩ = some (.string a.key) ∧ w5.cell? ⟨wr.heap.size, 1, none⟩ = some (.int .i64 a.at_) ∧ w5.cell? ⟨wr.heap.size, 2, none⟩ = some (.int .i64 a.n) := ⟨(hu5.keeps.cell (p := ⟨wr.heap.size, 0, none⟩) hab HNF.out).trans HQ.1, (hu5.keeps.cell (p := ⟨wr.heap.size, 1, none⟩) hab HNF.out).trans HQ.2.1, (hu5.keeps.cell (p := ⟨wr.heap.size, 2, none⟩) hab HNF.out).trans HQ.2.2⟩
        clear HQ
        have HQ := HQ5
        clear HQ5
        have hab5 : wr.heap.size < w5.heap.size := Nat.lt_of_lt_of_le hab hu5.keeps.size
        have HM5 := Lib.hid (HM.out.frameU hu5 HAP.out)
        have HD5 := Lib.hid hD5
        have HU5 := Lib.hid hu5
        clear hD5 hu5
        go_wp2_with fail
        refine hK.out _ _ ?_ (fun hHeld => ?_)
        · exact HQ
        clear hK K
        (try simp only [Act.put, List.setIfInBounds_toArray, List.set_cons_zero, List.set_cons_succ])
        refine heldCall 10 (by simp only [List.getElem?_toArray, List.getElem?_cons_succ, List.getElem?_cons_zero]; rfl) (by kernel_rfl) (fun K hK => ?_)
        go_simp
        refine (rput11_any mb G hf cnt L a _ HM5.out (by omega) (by omega) (by omega) (by omega)).mono ?_
        rintro r w6 ⟨rfl, G6, hM6, hk6, hg6⟩
        have HQ5 : w6.cell? ⟨wr.heap.size, 0, none⟩ = some (.string a.key) ∧ w6.cell? ⟨wr.heap.size, 1, none⟩ = some (.int .i64 a.at_) ∧ w6.cell? ⟨wr.heap.size, 2, none⟩ = some (.int .i64 a.n) := ⟨(hk6.cell (p := ⟨wr.heap.size, 0, none⟩) hab5 HNM.out).trans HQ.1, (hk6.cell (p := ⟨wr.heap.size, 1, none⟩) hab5 HNM.out).trans HQ.2.1, (hk6.cell (p := ⟨wr.heap.size, 2, none⟩) hab5 HNM.out).trans HQ.2.2⟩
        clear HQ
        have HQ := HQ5
        clear HQ5
        have hfin := both_add (B := w.heap.size) HZD.out HF.out HG.out HAP.out HM.out HD5.out HU5.out hM6 hk6 hg6
        have HFN := Lib.hid hfin
        clear hfin hM6 hk6 hg6
        generalize addOk a = bb at *
        go_wp2_with fail
        refine hK.out _ _ ?_ (fun hHeld => ?_)
        · exact HQ
        clear hK K
        (try simp only [Act.put, List.setIfInBounds_toArray, List.set_cons_zero, List.set_cons_succ])
        refine heldTake 11 (v := ?_) (by simp only [List.getElem?_toArray, List.getElem?_cons_succ, List.getElem?_cons_zero]; rfl) (by kernel_rfl) (by intro _ _ _ h; exact h) (by rfl) (by assumption) ?_ ?_
        rotate_left
        · intro W hSw; (try dsimp only at hSw); go_simp; try with_reducible rfl
        simp only [Act.put, List.setIfInBounds_toArray, List.set_cons_zero, List.set_cons_succ]
        refine heldDone (by kernel_rfl) ?_ _
        have HB6 : Hid (Below w.heap.size w w6) := Lib.hid (HBD.out.trans HFN.out.2)
        have HO6 : Hid (Both w6 w.heap.size cb mb hf (deedsS hf (l.take (k + 1)))) := Lib.hid (by rw [HKT.out, HDS2.out]; exact HFN.out.1)
        clear HFN HQ HKT HDS2 HM5 HD5 HU5
        go_wp2
        go_roundg (gk - 1)
        case measure => have := HK.out; omega
        case rel => exact ⟨k + 1, by go_num, Lib.hid (by have := HK.out; omega), HO6, HB6⟩
      · subst hkd
        clear hd1
        have hds : deedS hf (cnt, L) ⟨3, a, now⟩ = (if addOk a = true then cnt + 1 else cnt, L ++ [a].filter addOk) := by simp [deedS]
        have HDS2 := Lib.hid hds
        clear hds
        go_wp2_with fail
        rw [← hWa]
        clear hWa
        have HQ : Wa.drew.cell? ⟨wr.heap.size, 0, none⟩ = some (.string a.key) ∧ Wa.drew.cell? ⟨wr.heap.size, 1, none⟩ = some (.int .i64 a.at_) ∧ Wa.drew.cell? ⟨wr.heap.size, 2, none⟩ = some (.int .i64 a.n) := ⟨b0, b1, b2⟩
        clear b0 b1 b2
        refine heldStart 11 (S := fun W => W.cell? ⟨wr.heap.size, 0, none⟩ = some (.string a.key) ∧ W.cell? ⟨wr.heap.size, 1, none⟩ = some (.int .i64 a.at_) ∧ W.cell? ⟨wr.heap.size, 2, none⟩ = some (.int .i64 a.n)) (by kernel_rfl) ?_ (fun hHeld => ?_)
        · exact HQ
        refine heldTake 0 (v := ?_) (by simp only [List.getElem?_toArray, List.getElem?_cons_succ, List.getElem?_cons_zero]; rfl) (by kernel_rfl) (by intro _ _ _ h; exact h) (by rfl) (by assumption) ?_ ?_
        rotate_left
        · intro W hSw; (try dsimp only at hSw); go_simp; try with_reducible rfl
        simp only [Act.put, List.setIfInBounds_toArray, List.set_cons_zero, List.set_cons_succ]
        refine heldTake 1 (v := ?_) (by simp only [List.getElem?_toArray, List.getElem?_cons_succ, List.getElem?_cons_zero]; rfl) (by kernel_rfl) (by intro _ _ _ h; exact h) (by rfl) (by assumption) ?_ ?_
        rotate_left
        · intro W hSw; (try dsimp only at hSw); go_simp; try with_reducible rfl
        simp only [Act.put, List.setIfInBounds_toArray, List.set_cons_zero, List.set_cons_succ]
        refine heldTake 2 (v := ?_) (by simp only [List.getElem?_toArray, List.getElem?_cons_succ, List.getElem?_cons_zero]; rfl) (by kernel_rfl) (by intro _ _ _ h; exact h) (by rfl) (by assumption) ?_ ?_
        rotate_left
        · intro W hSw; (try dsimp only at hSw); go_simp; try with_reducible rfl
        simp only [Act.put, List.setIfInBounds_toArray, List.set_cons_zero, List.set_cons_succ]
        refine heldTake 3 (v := ?_) (by simp only [List.getElem?_toArray, List.getElem?_cons_succ, List.getElem?_cons_zero]; rfl) (by kernel_rfl) (by intro _ _ _ h; exact h) (by rfl) (by assumption) ?_ ?_
        rotate_left
        · intro W hSw; (try dsimp only at hSw); go_simp; try with_reducible rfl
        simp only [Act.put, List.setIfInBounds_toArray, List.set_cons_zero, List.set_cons_succ]
        refine heldTake 4 (v := ?_) (by simp only [List.getElem?_toArray, List.getElem?_cons_succ, List.getElem?_cons_zero]; rfl) (by kernel_rfl) (by intro _ _ _ h; exact h) (by rfl) (by assumption) ?_ ?_
        rotate_left
        · intro W hSw; (try dsimp only at hSw); go_simp; try with_reducible rfl
        simp only [Act.put, List.setIfInBounds_toArray, List.set_cons_zero, List.set_cons_succ]
        refine heldTake 5 (v := ?_) (by simp only [List.getElem?_toArray, List.getElem?_cons_succ, List.getElem?_cons_zero]; rfl) (by kernel_rfl) (by intro _ _ _ h; exact h) (by rfl) (by assumption) ?_ ?_
        rotate_left
        · intro W hSw; (try dsimp only at hSw); go_simp; try with_reducible rfl
        simp only [Act.put, List.setIfInBounds_toArray, List.set_cons_zero, List.set_cons_succ]
        refine heldTake 6 (v := ?_) (by simp only [List.getElem?_toArray, List.getElem?_cons_succ, List.getElem?_cons_zero]; rfl) (by kernel_rfl) (by intro _ _ _ h; exact h) (by rfl) (by assumption) ?_ ?_
        rotate_left
        · intro W hSw; (try dsimp only at hSw); go_simp; try with_reducible rfl
        simp only [Act.put, List.setIfInBounds_toArray, List.set_cons_zero, List.set_cons_succ]
        refine heldTake 8 (v := ?_) (by simp only [List.getElem?_toArray, List.getElem?_cons_succ, List.getElem?_cons_zero]; rfl) (by kernel_rfl) (by intro _ _ _ h; exact h) (by rfl) (by assumption) ?_ ?_
        rotate_left
        · intro W hSw; (try dsimp only at hSw); go_simp; try with_reducible rfl
        simp only [Act.put, List.setIfInBounds_toArray, List.set_cons_zero, List.set_cons_succ]
        refine heldTake 9 (v := ?_) (by simp only [List.getElem?_toArray, List.getElem?_cons_succ, List.getElem?_cons_zero]; rfl) (by kernel_rfl) (by intro _ _ _ h; exact h) (by rfl) (by assumption) ?_ ?_
        rotate_left
        · intro W hSw; (try dsimp only at hSw); go_simp; try with_reducible rfl
        simp only [Act.put, List.setIfInBounds_toArray, List.set_cons_zero, List.set_cons_succ]
        refine heldCall 7 (by simp only [List.getElem?_toArray, List.getElem?_cons_succ, List.getElem?_cons_zero]; rfl) (by kernel_rfl) (fun K hK => ?_)
        go_simp
        refine (dadd2_any cb F hf cnt L a _ HD.out (by omega)).mono ?_
        rintro r w5 ⟨rfl, F5, hD5, hu5⟩
        have HQ5 : w5.cell? ⟨wr.heap.size, 0, none⟩ = some (.string a.key) ∧ w5.cell? ⟨wr.heap.size, 1, none⟩ = some (.int .i64 a.at_) ∧ w5.cell? ⟨wr.heap.size, 2, none⟩ = some (.int .i64 a.n) := ⟨(hu5.keeps.cell (p := ⟨wr.heap.size, 0, none⟩) hab HNF.out).trans HQ.1, (hu5.keeps.cell (p := ⟨wr.heap.size, 1, none⟩) hab HNF.out).trans HQ.2.1, (hu5.keeps.cell (p := ⟨wr.heap.size, 2, none⟩) hab HNF.out).trans HQ.2.2⟩
        clear HQ
        have HQ := HQ5
        clear HQ5
        have hab5 : wr.heap.size < w5.heap.size := Nat.lt_of_lt_of_le hab hu5.keeps.size
        have HM5 := Lib.hid (HM.out.frameU hu5 HAP.out)
        have HD5 := Lib.hid hD5
        have HU5 := Lib.hid hu5
        clear hD5 hu5
        go_wp2_with fail
        refine hK.out _ _ ?_ (fun hHeld => ?_)
        · exact HQ
        clear hK K
        (try simp only [Act.put, List.setIfInBounds_toArray, List.set_cons_zero, List.set_cons_succ])
        refine heldCall 10 (by simp only [List.getElem?_toArray, List.getElem?_cons_succ, List.getElem?_cons_zero]; rfl) (by kernel_rfl) (fun K hK => ?_)
        go_simp
        refine (rput11_any mb G hf cnt L a _ HM5.out (by omega) (by omega) (by omega) (by omega)).mono ?_
        rintro r w6 ⟨rfl, G6, hM6, hk6, hg6⟩
        have HQ5 : w6.cell? ⟨wr.heap.size, 0, none⟩ = some (.string a.key) ∧ w6.cell? ⟨wr.heap.size, 1, none⟩ = some (.int .i64 a.at_) ∧ w6.cell? ⟨wr.heap.size, 2, none⟩ = some (.int .i64 a.n) := ⟨(hk6.cell (p := ⟨wr.heap.size, 0, none⟩) hab5 HNM.out).trans HQ.1, (hk6.cell (p := ⟨wr.heap.size, 1, none⟩) hab5 HNM.out).trans HQ.2.1, (hk6.cell (p := ⟨wr.heap.size, 2, none⟩) hab5 HNM.out).trans HQ.2.2⟩
        clear HQ
        have HQ := HQ5
        clear HQ5
        have hfin := both_add (B := w.heap.size) HZD.out HF.out HG.out HAP.out HM.out HD5.out HU5.out hM6 hk6 hg6
        have HFN := Lib.hid hfin
        clear hfin hM6 hk6 hg6
        generalize addOk a = bb at *
        go_wp2_with fail
        refine hK.out _ _ ?_ (fun hHeld => ?_)
        · exact HQ
        clear hK K
        (try simp only [Act.put, List.setIfInBounds_toArray, List.set_cons_zero, List.set_cons_succ])
        refine heldTake 11 (v := ?_) (by simp only [List.getElem?_toArray, List.getElem?_cons_succ, List.getElem?_cons_zero]; rfl) (by kernel_rfl) (by intro _ _ _ h; exact h) (by rfl) (by assumption) ?_ ?_
        rotate_left
        · intro W hSw; (try dsimp only at hSw); go_simp; try with_reducible rfl
        simp only [Act.put, List.setIfInBounds_toArray, List.set_cons_zero, List.set_cons_succ]
        refine heldDone (by kernel_rfl) ?_ _
        have HB6 : Hid (Below w.heap.size w w6) := Lib.hid (HBD.out.trans HFN.out.2)
        have HO6 : Hid (Both w6 w.heap.size cb mb hf (deedsS hf (l.take (k + 1)))) := Lib.hid (by rw [HKT.out, HDS2.out]; exact HFN.out.1)
        clear HFN HQ HKT HDS2 HM5 HD5 HU5
        go_wp2
        go_roundg (gk - 1)
        case measure => have := HK.out; omega
        case rel => exact ⟨k + 1, by go_num, Lib.hid (by have := HK.out; omega), HO6, HB6⟩
      · subst hkd
        clear hd1
        have hds : deedS hf (cnt, L) ⟨4, a, now⟩ = (cnt, L.filter (hk (now - 21 * hf))) := by simp [deedS]
        have HDS2 := Lib.hid hds
        clear hds
        go_wp2_with fail
        rw [← hWa]
        clear hWa b0 b1 b2
        have hbw : b < Wa.drew.heap.size := Nat.lt_of_lt_of_le hbl HZD.out
        have HQ : Wa.drew.cell? ⟨b, o + k * 5 + 4, none⟩ = some (.int .i64 now) := (HBD2.out.cell (p := ⟨b, o + k * 5 + 4, none⟩) (Nat.lt_of_lt_of_le hbl HB.out.size)).trans e4
        refine heldStart 15 (S := fun W => W.cell? ⟨b, o + k * 5 + 4, none⟩ = some (.int .i64 now)) (by kernel_rfl) ?_ (fun hHeld => ?_)
        · exact HQ
        refine heldTake 0 (v := ?_) (by simp only [List.getElem?_toArray, List.getElem?_cons_succ, List.getElem?_cons_zero]; rfl) (by kernel_rfl) (by intro _ _ _ h; exact h) (by rfl) (by assumption) ?_ ?_
        rotate_left
        · intro W hSw; (try dsimp only at hSw); go_simp; try with_reducible rfl
        simp only [Act.put, List.setIfInBounds_toArray, List.set_cons_zero, List.set_cons_succ]
        refine heldTake 1 (v := ?_) (by simp only [List.getElem?_toArray, List.getElem?_cons_succ, List.getElem?_cons_zero]; rfl) (by kernel_rfl) (by intro _ _ _ h; exact h) (by rfl) (by assumption) ?_ ?_
        rotate_left
        · intro W hSw; (try dsimp only at hSw); go_simp; try with_reducible rfl
        simp only [Act.put, List.setIfInBounds_toArray, List.set_cons_zero, List.set_cons_succ]
        refine heldTake 2 (v := ?_) (by simp only [List.getElem?_toArray, List.getElem?_cons_succ, List.getElem?_cons_zero]; rfl) (by kernel_rfl) (by intro _ _ _ h; exact h) (by rfl) (by assumption) ?_ ?_
        rotate_left
        · intro W hSw; (try dsimp only at hSw); go_simp; try with_reducible rfl
        simp only [Act.put, List.setIfInBounds_toArray, List.set_cons_zero, List.set_cons_succ]
        refine heldTake 3 (v := ?_) (by simp only [List.getElem?_toArray, List.getElem?_cons_succ, List.getElem?_cons_zero]; rfl) (by kernel_rfl) (by intro _ _ _ h; exact h) (by rfl) (by assumption) ?_ ?_
        rotate_left
        · intro W hSw; (try dsimp only at hSw); go_simp; try with_reducible rfl
        simp only [Act.put, List.setIfInBounds_toArray, List.set_cons_zero, List.set_cons_succ]
        refine heldTake 4 (v := ?_) (by simp only [List.getElem?_toArray, List.getElem?_cons_succ, List.getElem?_cons_zero]; rfl) (by kernel_rfl) (by intro _ _ _ h; exact h) (by rfl) (by assumption) ?_ ?_
        rotate_left
        · intro W hSw; (try dsimp only at hSw); go_simp; try with_reducible rfl
        simp only [Act.put, List.setIfInBounds_toArray, List.set_cons_zero, List.set_cons_succ]
        refine heldTake 5 (v := ?_) (by simp only [List.getElem?_toArray, List.getElem?_cons_succ, List.getElem?_cons_zero]; rfl) (by kernel_rfl) (by intro _ _ _ h; exact h) (by rfl) (by assumption) ?_ ?_
        rotate_left
        · intro W hSw; (try dsimp only at hSw); go_simp; try with_reducible rfl
        simp only [Act.put, List.setIfInBounds_toArray, List.set_cons_zero, List.set_cons_succ]
        refine heldTake 7 (v := ?_) (by simp only [List.getElem?_toArray, List.getElem?_cons_succ, List.getElem?_cons_zero]; rfl) (by kernel_rfl) (by intro _ _ _ h; exact h) (by rfl) (by assumption) ?_ ?_
        rotate_left
        · intro W hSw; (try dsimp only at hSw); go_simp; try with_reducible rfl
        simp only [Act.put, List.setIfInBounds_toArray, List.set_cons_zero, List.set_cons_succ]
        refine heldTake 8 (v := ?_) (by simp only [List.getElem?_toArray, List.getElem?_cons_succ, List.getElem?_cons_zero]; rfl) (by kernel_rfl) (by intro _ _ _ h; exact h) (by rfl) (by assumption) ?_ ?_
        rotate_left
        · intro W hSw; (try dsimp only at hSw); go_simp; try with_reducible rfl
        simp only [Act.put, List.setIfInBounds_toArray, List.set_cons_zero, List.set_cons_succ]
        refine heldTake 9 (v := ?_) (by simp only [List.getElem?_toArray, List.getElem?_cons_succ, List.getElem?_cons_zero]; rfl) (by kernel_rfl) (by intro _ _ _ h; exact h) (by rfl) (by assumption) ?_ ?_
        rotate_left
        · intro W hSw; (try dsimp only at hSw); go_simp; try with_reducible rfl
        simp only [Act.put, List.setIfInBounds_toArray, List.set_cons_zero, List.set_cons_succ]
        refine heldTake 10 (v := ?_) (by simp only [List.getElem?_toArray, List.getElem?_cons_succ, List.getElem?_cons_zero]; rfl) (by kernel_rfl) (by intro _ _ _ h; exact h) (by rfl) (by assumption) ?_ ?_
        rotate_left
        · intro W hSw; (try dsimp only at hSw); go_simp; try with_reducible rfl
        simp only [Act.put, List.setIfInBounds_toArray, List.set_cons_zero, List.set_cons_succ]
        refine heldTake 11 (v := ?_) (by simp only [List.getElem?_toArray, List.getElem?_cons_succ, List.getElem?_cons_zero]; rfl) (by kernel_rfl) (by intro _ _ _ h; exact h) (by rfl) (by assumption) ?_ ?_
        rotate_left
        · intro W hSw; (try dsimp only at hSw); go_simp; try with_reducible rfl
        simp only [Act.put, List.setIfInBounds_toArray, List.set_cons_zero, List.set_cons_succ]
        refine heldTake 12 (v := ?_) (by simp only [List.getElem?_toArray, List.getElem?_cons_succ, List.getElem?_cons_zero]; rfl) (by kernel_rfl) (by intro _ _ _ h; exact h) (by rfl) (by assumption) ?_ ?_
        rotate_left
        · intro W hSw; (try dsimp only at hSw); go_simp; try with_reducible rfl
        simp only [Act.put, List.setIfInBounds_toArray, List.set_cons_zero, List.set_cons_succ]
        refine heldCall 6 (by simp only [List.getElem?_toArray, List.getElem?_cons_succ, List.getElem?_cons_zero]; rfl) (by kernel_rfl) (fun K hK => ?_)
        go_simp
        refine (dtrim2_any cb F hf cnt L now _ HD.out hnow (by omega)).mono ?_
        rintro r w5 ⟨rfl, F5, hD5, hu5⟩
        have HQ5 : w5.cell? ⟨b, o + k * 5 + 4, none⟩ = some (.int .i64 now) := (hu5.keeps.cell (p := ⟨b, o + k * 5 + 4, none⟩) hbw (fun h => by have := HF.out _ h; simp at this; omega)).trans HQ
        clear HQ
        have HQ := HQ5
        clear HQ5
        have hbw5 : b < w5.heap.size := Nat.lt_of_lt_of_le hbw hu5.keeps.size
        have HM5 := Lib.hid (HM.out.frameU hu5 HAP.out)
        have HD5 := Lib.hid hD5
        have HU5 := Lib.hid hu5
        clear hD5 hu5
        go_wp2_with fail
        refine hK.out _ _ ?_ (fun hHeld => ?_)
        · exact HQ
        clear hK K
        (try simp only [Act.put, List.setIfInBounds_toArray, List.set_cons_zero, List.set_cons_succ])
        refine heldCall 13 (by simp only [List.getElem?_toArray, List.getElem?_cons_succ, List.getElem?_cons_zero]; rfl) (by kernel_rfl) (fun K hK => ?_)
        go_simp
        refine (rtrim11_any mb G hf cnt L now _ HM5.out HS1.out hso2 hh1 hh2 hnow).mono ?_
        rintro r w6 ⟨rfl, G6, hM6, hk6, hg6⟩
        have HQ5 : w6.cell? ⟨b, o + k * 5 + 4, none⟩ = some (.int .i64 now) := (hk6.cell (p := ⟨b, o + k * 5 + 4, none⟩) hbw5 (fun h => by have := HGM.out; have h' : b = mb := h; omega)).trans HQ
        clear HQ
        have HQ := HQ5
        clear HQ5
        have hfin := both_trim (B := w.heap.size) HZD.out HF.out HG.out HAP.out HM.out HD5.out HU5.out hM6 hk6 hg6
        have HFN := Lib.hid hfin
        clear hfin hM6 hk6 hg6
        go_wp2_with fail
        refine hK.out _ _ ?_ (fun hHeld => ?_)
        · exact HQ
        clear hK K
        (try simp only [Act.put, List.setIfInBounds_toArray, List.set_cons_zero, List.set_cons_succ])
        refine heldTake 14 (v := ?_) (by simp only [List.getElem?_toArray, List.getElem?_cons_succ, List.getElem?_cons_zero]; rfl) (by kernel_rfl) (by intro _ _ _ h; exact h) (by rfl) (by assumption) ?_ ?_
        rotate_left
        · intro W hSw; (try dsimp only at hSw); go_simp; try with_reducible rfl
        simp only [Act.put, List.setIfInBounds_toArray, List.set_cons_zero, List.set_cons_succ]
        refine heldDone (by kernel_rfl) ?_ _
        have HB6 : Hid (Below w.heap.size w w6) := Lib.hid (HBD.out.trans HFN.out.2)
        have HO6 : Hid (Both w6 w.heap.size cb mb hf (deedsS hf (l.take (k + 1)))) := Lib.hid (by rw [HKT.out, HDS2.out]; exact HFN.out.1)
        clear HFN HQ HKT HDS2 HM5 HD5 HU5
        generalize goneN (now - 21 * hf) [] L = gq at *
        go_wp2
        go_roundg (gk - 1)
        case measure => have := HK.out; omega
        case rel => exact ⟨k + 1, by go_num, Lib.hid (by have := HK.out; omega), HO6, HB6⟩
      · have hds : deedS hf (cnt, L) ⟨kind, a, now⟩ = (cnt, L) := by unfold deedS; rw [if_neg (by show ¬ kind ≤ 3; omega), if_neg (by show ¬ kind = 4; omega)]
        have HO6 : Hid (Both Wa w.heap.size cb mb hf (deedsS hf (l.take (k + 1)))) := Lib.hid (by rw [HKT.out, hds]; exact HO.out.below HBA.out)
        have HB6 : Hid (Below w.heap.size w Wa) := Lib.hid (HB.out.trans (HBA.out.mono HB.out.size))
        have j0 : (kind == 0) = false := by simp; omega
        have j1 : (kind == 1) = false := by simp; omega
        have j2 : (kind == 2) = false := by simp; omega
        have j3 : (kind == 3) = false := by simp; omega
        have j4 : (kind == 4) = false := by simp; omega
        clear hds HKT b0 b1 b2 HO
        go_wp2_with fail
        rw [← hWa]
        go_wp2
        go_roundg (gk - 1)
        case measure => have := HK.out; omega
        case rel => exact ⟨k + 1, by go_num, Lib.hid (by have := HK.out; omega), HO6, HB6⟩
    · have hall : l.take k = l := List.take_of_length_le (by omega)
      have hO := HO.out
      rw [hall] at hO
      have HO2 := Lib.hid hO
      clear hO hall
      go_wp2
      refine bodyPost_ret (results_tmp3 rfl _ _ _) rfl ?_
      exact ⟨cb, mb, rfl, by rw [HHF.out]; exact HO2.out, HB.out⟩
end Go.Proofs.Ytgahopkbgefjdaa
