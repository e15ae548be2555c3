/- Walk of DedupeApart. -/
import Derived.Test.YtcladmcbhnmhiaaDdO
import Derived.Laws.StructEq
import Derived.ChangeKeysEq
import Derived.Deep.DeepCutAuto
namespace Go.Proofs.Ytcladmcbhnmhiaa
open Go.ChangeShapes Go.WideShapes Go.ChangeAt Go.RowKit Go.Shelf Go.Lib Go.Sort Go.Proofs
set_option linter.unusedVariables false
set_option linter.unusedSimpArgs false

theorem eql_rg (a b c d : Int) (w : World) : (binOp .eql 42 (.agg #[.int .i64 a, .int .i64 b]) (.agg #[.int .i64 c, .int .i64 d])).run Try.prog w = .ok (.bool (a == c && b == d)) w := by
  have hS : Try.prog.underlying 42 = some (.struct (Try.prog.fieldsOf 42)) := by kernel_rfl
  have hp : Try.prog.stoodInHeld 42 = false := by kernel_rfl
  have p0 := fun (v : Value) (xs : Array Value) (h : xs[0]? = some v) => run_part_plain (P := Try.prog) (w := w) (e := 3) (by kernel_rfl) h
  have p1 := fun (v : Value) (xs : Array Value) (h : xs[1]? = some v) => run_part_plain (P := Try.prog) (w := w) (e := 3) (by kernel_rfl) h
  have i := fun (d : Nat) (a b : Int) => run_equalIn_int (P := Try.prog) w d 3 .i64 .i64 a b Try.underlying3
  rw [run_eql_struct, run_equalIn_agg w 9999 _ _ _ hS hp]
  simp only [Program.fieldsOf, Try.underlying42, Op.eqFields]
  cases h1 : a == c <;> cases h2 : b == d <;> simp [Op.eqFields, p0, p1, i, h1, h2, Result.andThen]
theorem neq_rg (a b c d : Int) (w : World) : (binOp .neq 42 (.agg #[.int .i64 a, .int .i64 b]) (.agg #[.int .i64 c, .int .i64 d])).run Try.prog w = .ok (.bool (!(a == c && b == d))) w := by
  have h := eql_rg a b c d w
  rw [run_eql_struct] at h
  rw [run_neq_struct]
  cases hq : (Op.equalIn 10000 42 (.agg #[.int .i64 a, .int .i64 b]) (.agg #[.int .i64 c, .int .i64 d])).run Try.prog w with
  | ok v w1 =>
    rw [hq] at h
    simp [Result.andThen] at h ⊢
    obtain ⟨h1, h2⟩ := h
    subst h2
    simp [h1]
  | halt x w1 =>
    rw [hq] at h
    simp [Result.andThen] at h
def ownOps (l : List OpD) (k : ByteArray) : List OpD := l.filter (fun o => decide (o.1 = k))
/-- What one source has hangs on what was put for it alone. -/
theorem apart_plain (l : List OpD) (k : ByteArray) : foldF (ownOps l k) k = foldF l k ∧ ∀ x, x ≠ k → foldF (ownOps l k) x = [] := by
  have h1 := foldF_ok l
  have h2 := foldF_ok (ownOps l k)
  constructor
  · refine (h2.ok k).unique (h1.ok k) (fun n => ?_)
    rw [h1.mem, h2.mem]
    unfold ownOps
    simp
  · intro x hx
    rcases Classical.em (foldF (ownOps l k) x = []) with q | q
    · exact q
    · obtain ⟨-, o, ho, e⟩ := h2.key q
      unfold ownOps at ho
      simp at ho
      exact absurd (e.symm.trans ho.2) hx
theorem sumK_one {F : RowsF} (hok : ∀ k, RowOk 0 (F k)) (k : ByteArray) : ∀ {ks : List ByteArray}, k ∈ ks → cntR (F k) ≤ sumK F ks
  | [], h => by cases h
  | x :: ks, h => by
    rw [sumK_cons]
    have h0 := (hok x).cnt_nn
    have h1 : 0 ≤ sumK F ks := by
      clear h
      induction ks with
      | nil => exact Int.le_refl _
      | cons y ks ih => rw [sumK_cons]; have := (hok y).cnt_nn; omega
    rcases List.mem_cons.1 h with rfl | h
    · omega
    · have := sumK_one hok k h
      omega
theorem apart_sum (l : List OpD) (k : ByteArray) {ks ks' : List ByteArray} (hk : KeysF (foldF l) ks) (hk' : KeysF (foldF (ownOps l k)) ks') : sumK (foldF (ownOps l k)) ks' ≤ sumK (foldF l) ks := by
  obtain ⟨h1, h2⟩ := apart_plain l k
  have hF := (foldF_ok l).ok
  have hall : ∀ x ∈ ks', x = k := fun x hx => by
    rcases Classical.em (x = k) with q | q
    · exact q
    · exact absurd (h2 x q) ((hk'.2 x).1 hx)
  cases ks' with
  | nil =>
    have : 0 ≤ sumK (foldF l) ks := by
      clear hk
      induction ks with
      | nil => exact Int.le_refl _
      | cons y ks ih => rw [sumK_cons]; have := (hF y).cnt_nn; omega
    exact this
  | cons x ks' =>
    have hx := hall x List.mem_cons_self
    subst hx
    have hnil : ks' = [] := by
      cases ks' with
      | nil => rfl
      | cons y ks' =>
        have := hall y (by simp)
        subst this
        have := hk'.nodup
        simp at this
    subst hnil
    rw [sumK_cons, h1]
    have hm : x ∈ ks := (hk.2 x).2 (by rw [← h1]; exact (hk'.2 x).1 List.mem_cons_self)
    have := sumK_one hF x hm
    show _ + (0 : Int) ≤ _
    omega
/-- Any rows have their keys in order. -/
theorem keys_ex {F : RowsF} {l : List OpD} (h : SetOk F l) : ∃ ks, KeysF F ks := by
  have hm : ∀ m : List OpD, ∃ ks : List ByteArray, ks.Pairwise (fun x y => sLt x y = true) ∧ ∀ k, k ∈ ks ↔ k ∈ m.map (·.1) ∧ F k ≠ [] := by
    intro m
    induction m with
    | nil => exact ⟨[], List.Pairwise.nil, by simp⟩
    | cons a m ih =>
      obtain ⟨ks, h1, h2⟩ := ih
      by_cases ha : F a.1 = [] ∨ a.1 ∈ ks
      · refine ⟨ks, h1, fun k => ?_⟩
        rw [h2, List.map_cons, List.mem_cons]
        constructor
        · rintro ⟨p, q⟩; exact ⟨.inr p, q⟩
        · rintro ⟨p | p, q⟩
          · rcases ha with ha | ha
            · exact absurd (p ▸ ha) q
            · rw [← p] at ha; exact (h2 k).1 ha
          · exact ⟨p, q⟩
      · have hna : F a.1 ≠ [] := fun e => ha (.inl e)
        have hnk : a.1 ∉ ks := fun e => ha (.inr e)
        refine ⟨(ks.filter (fun x => sLt x a.1)) ++ a.1 :: ks.filter (fun x => sLt a.1 x), ?_, fun k => ?_⟩
        · rw [List.pairwise_append, List.pairwise_cons]
          refine ⟨h1.filter _, ⟨fun x hx => by simpa using (List.mem_filter.1 hx).2, h1.filter _⟩, fun x hx y hy => ?_⟩
          have hxa : sLt x a.1 = true := by simpa using (List.mem_filter.1 hx).2
          rcases List.mem_cons.1 hy with rfl | hy
          · exact hxa
          · exact sLt_trans hxa (by simpa using (List.mem_filter.1 hy).2)
        · rw [List.mem_append, List.mem_cons, List.mem_filter, List.mem_filter, List.map_cons, List.mem_cons]
          constructor
          · rintro (⟨p, -⟩ | rfl | ⟨p, -⟩)
            · exact ⟨.inr ((h2 k).1 p).1, ((h2 k).1 p).2⟩
            · exact ⟨.inl rfl, hna⟩
            · exact ⟨.inr ((h2 k).1 p).1, ((h2 k).1 p).2⟩
          · rintro ⟨p | p, q⟩
            · exact .inr (.inl p)
            · have hk := (h2 k).2 ⟨p, q⟩
              cases e1 : sLt k a.1 with
              | true => exact .inl ⟨hk, rfl⟩
              | false =>
                cases e2 : sLt a.1 k with
                | true => exact .inr (.inr ⟨hk, rfl⟩)
                | false => exact absurd (sLt_total e1 e2 ▸ hk) hnk
  obtain ⟨ks, h1, h2⟩ := hm l
  refine ⟨ks, h1, fun k => ?_⟩
  rw [h2]
  constructor
  · rintro ⟨-, q⟩; exact q
  · intro q
    obtain ⟨-, o, ho, e⟩ := h.key q
    exact ⟨List.mem_map.2 ⟨o, ho, e⟩, q⟩
theorem opsC_snoc (l : List OpD) (o : OpD) : (l ++ [o]).flatMap opCells = l.flatMap opCells ++ opCells o := by rw [List.flatMap_append]; simp
theorem op_info : (Try.prog.info? 48).map (fun i => (i.zero, i.size, i.bytes)) = some (some (.agg #[.string ByteArray.empty, .int .i64 0]), 2, 24) := by kernel_rfl

set_option maxHeartbeats 16000000 in
set_option maxRecDepth 100000 in
theorem apart_walk (A : Option Addr) (c : Nat) (l : List OpD) (key : ByteArray) (w : World) (h : OpsAt w w.heap.size A l) (hl : (l.length : Int) ≤ 9223372036854775807) (hkz : key.size ≤ maxLen) :
    Calls Try.prog 6 #[.slice A l.length c, .string key] w fun e w' => e = .returned (.bool true) ∧ Below w.heap.size w w' := by
  have HL := Lib.hid h
  clear h
  have hkz2 : (key.size : Int) ≤ 9223372036854775807 := by unfold maxLen at hkz; omega
  go_enter Try.func6, Try.ntmps6
  go_wp2_with fail
  refine Calls.mono (long_any A c l w HL.out hl) ?_
  rintro e w1 ⟨lb, rfl, hlong, hb1⟩
  have HB1 := Lib.hid hb1
  have HLG := Lib.hid hlong
  clear hb1 hlong
  by_cases hq : lb = true ∨ (60 : Int) < (key.size : Int)
  · have hgo : Calls Try.prog 11 #[] w1 fun e w' => e = .returned (.bool true) ∧ Below w.heap.size w w' := (awake_any w1).mono (by
      rintro e w2 ⟨rfl, hb2⟩
      exact ⟨rfl, HB1.out.trans (hb2.mono HB1.out.size)⟩)
    have HGO := Lib.hid hgo
    clear hgo
    cases lb with
    | true =>
      go_wp2_with fail
      refine Calls.mono HGO.out ?_
      rintro e w2 ⟨rfl, hb2⟩
      have HB2 := Lib.hid hb2
      clear hb2
      go_wp2
      go_ret
      exact ⟨rfl, HB2.out⟩
    | false =>
      have h60 : (60 : Int) < (key.size : Int) := by rcases hq with h | h; cases h; exact h
      clear hq
      go_wp2_with fail
      refine Calls.mono HGO.out ?_
      rintro e w2 ⟨rfl, hb2⟩
      have HB2 := Lib.hid hb2
      clear hb2
      go_wp2
      go_ret
      exact ⟨rfl, HB2.out⟩
  have hlb : lb = false := by
    cases lb with
    | false => rfl
    | true => exact absurd (.inl rfl) hq
  have h60 : ¬ (60 : Int) < (key.size : Int) := fun h => hq (.inr h)
  subst hlb
  clear hq
  obtain ⟨h80, -⟩ := HLG.out rfl
  go_wp2_with fail
  refine Calls.mono (fill_any A c w.heap.size l w1 (HL.out.below HB1.out) HB1.out.size (by omega)) ?_
  rintro e w2 ⟨sb, A2, c2, xs, G, H, rfl, hO, -, -, -, hG, -, hb2⟩
  have hB2 : Below w.heap.size w w2 := HB1.out.trans (hb2.mono HB1.out.size)
  have HO := Lib.hid hO
  have HB2 := Lib.hid hB2
  clear hO hB2 hb2 hG
  go_wp2_with fail
  go_loopg [7, 30] l.length (fun rest s7 s30 wr => ∃ (i : Nat) (A3 : Option Addr) (c3 : Nat) (O : List OpD), s30 = .int .i64 i ∧ s7 = .slice A3 O.length c3 ∧ Hid (i + rest = l.length) ∧ (i : Int) ≤ 80 ∧ Hid (O = ownOps (l.take i) key) ∧ Hid (wr.ownsRow w2.heap.size 48 2 (.slice A3 O.length c3) O.length (O.flatMap opCells)) ∧ Hid (Below w2.heap.size w2 wr))
  case atStart => exact ⟨0, none, 0, [], rfl, rfl, Lib.hid (by simp), by omega, Lib.hid (by simp [ownOps]), Lib.hid (World.ownsRow_nil _ _ _ _), Lib.hid (Below.refl _ _)⟩
  case round =>
    obtain ⟨i, A3, c3, O, rfl, rfl, HI, hi0, HOE, HOW, HBR⟩ := hrel
    have hbase : w2.heap.size ≤ wr.heap.size := HBR.out.size
    have hol : O.length ≤ 80 := by
      rw [HOE.out]
      have h1 : (ownOps (l.take i) key).length ≤ (l.take i).length := List.length_filter_le _ _
      rw [List.length_take] at h1
      omega
    by_cases hi : (i : Int) < (l.length : Int)
    · have hil : i < l.length := by omega
      obtain ⟨b, o, rfl, hb, y1, y2⟩ := ((HL.out.below HB2.out).below (HBR.out.mono HB2.out.size)).one hil
      have ht := List.take_succ_eq_append_getElem hil
      have hsn : ownOps (l.take (i + 1)) key = O ++ (if l[i].1 = key then [l[i]] else []) := by
        rw [ht, HOE.out]
        unfold ownOps
        rw [List.filter_append]
        congr 1
        by_cases e : l[i].1 = key <;> simp [e]
      have HSN := Lib.hid hsn
      clear ht hsn
      generalize l[i] = x at *
      obtain ⟨nm, n⟩ := x
      simp only at y1 y2
      by_cases he : nm = key
      · subst he
        have hb3 : (nm.toList == nm.toList) = true := by rw [str_beq]; simp
        have hE : O ++ [((nm, n) : OpD)] = ownOps (l.take (i + 1)) nm := by rw [HSN.out]; simp
        have HE := Lib.hid hE
        clear hE
        go_wp2_with (at_builtin; refine wpList_append_one (wr.alloc (.cells #[.string nm, .int .i64 n] 48)) rfl _ _ _ rfl w2.heap.size 48 (.agg #[.string ByteArray.empty, .int .i64 0]) 2 24 Try.underlying22 op_info rfl (by decide) A3 O.length c3 _ rfl (HOW.out.alloc _) [.string nm, .int .i64 n] (by rw [World.size_alloc]; rfl) rfl (by intro u hu; simp at hu; rcases hu with rfl | rfl <;> rfl) (by omega) (by unfold maxLen; omega) (by rw [World.size_alloc]; omega) ?_; intro A5 c5 w5 hown5 hg5 hb5)
        have HO5 : Hid (w5.ownsRow w2.heap.size 48 2 (.slice A5 (O ++ [((nm, n) : OpD)]).length c5) (O ++ [((nm, n) : OpD)]).length ((O ++ [((nm, n) : OpD)]).flatMap opCells)) := Lib.hid (by
          rw [opsC_snoc, List.length_append]
          exact hown5)
        have HB5 : Hid (Below w2.heap.size w2 w5) := Lib.hid ((HBR.out.alloc hbase _).trans hb5)
        clear hown5 hg5 hb5
        go_roundg (gk - 1)
        case measure => have := HI.out; omega
        case rel => exact ⟨i + 1, A5, c5, O ++ [((nm, n) : OpD)], by go_num, by simp, Lib.hid (by have := HI.out; omega), by omega, HE, HO5, HB5⟩
      · have hb3 : (nm.toList == key.toList) = false := by rw [str_beq]; simpa using he
        have hE : O = ownOps (l.take (i + 1)) key := by rw [HSN.out]; simp [he]
        have HE := Lib.hid hE
        clear hE
        go_wp2_with fail
        go_roundg (gk - 1)
        case measure => have := HI.out; omega
        case rel => exact ⟨i + 1, A3, c3, O, by go_num, rfl, Lib.hid (by have := HI.out; omega), by omega, HE, Lib.hid (HOW.out.alloc _), Lib.hid (HBR.out.alloc hbase _)⟩
    · have hie : i = l.length := by have := HI.out; omega
      have hOe : O = ownOps l key := by rw [HOE.out, hie, List.take_length]
      have hops : OpsAt wr wr.heap.size A3 O := ⟨Reads.of_own HOW.out, fun a ha => HL.out.2 a (by rw [hOe] at ha; unfold ownOps at ha; exact (List.mem_filter.1 ha).1)⟩
      have HOPS := Lib.hid hops
      have HOE2 := Lib.hid hOe
      have hOr := (SetObj.own sb _).below HO.out HBR.out
      have HOR := Lib.hid hOr
      have hBr : Below w.heap.size w wr := HB2.out.trans (HBR.out.mono HB2.out.size)
      have HBr := Lib.hid hBr
      clear hops hOe hOr hBr
      go_wp2_with fail
      refine Calls.mono (fill_any A3 c3 wr.heap.size O wr HOPS.out (Nat.le_refl _) (by omega)) ?_
      rintro e w5 ⟨tb, A6, c6, xs6, G6, H6, rfl, hO6, -, -, -, -, -, hb5⟩
      have hS5 := (SetObj.own sb _).below HOR.out hb5
      rw [HOE2.out] at hO6
      obtain ⟨ks, hks⟩ := keys_ex (foldF_ok l)
      obtain ⟨ks', hks'⟩ := keys_ex (foldF_ok (ownOps l key))
      obtain ⟨hap1, -⟩ := apart_plain l key
      have hsum := apart_sum l key hks hks'
      have hF := foldF_ok l
      have hF' := foldF_ok (ownOps l key)
      have hol2 : (ownOps l key).length ≤ 80 := by rw [← HOE2.out]; exact hol
      generalize foldF (ownOps l key) = F' at *
      generalize foldF l = F at *
      have hkl := hF.keysLen hks
      have hkl' := hF'.keysLen hks'
      have hcs := fun W h => count_any sb G F W h ks hks (by omega) hF.top (fun k => by have := hF.len k; omega)
      have hct := fun W h => count_any tb G6 F' W h ks' hks' (by omega) hF'.top (fun k => by have := hF'.len k; omega)
      have hns := fun W h => next_any sb G F key W h hkz
      have hnt := fun W h => next_any tb G6 F' key W h hkz
      have hrs := fun W h => ranges_any sb G F key W h hkz (by have := hF.len key; omega)
      have hrt := fun W h => ranges_any tb G6 F' key W h hkz (by have := hF'.len key; omega)
      rw [hap1] at hnt hrt
      have HCS := Lib.hid hcs
      have HCT := Lib.hid hct
      have HNS := Lib.hid hns
      have HNT := Lib.hid hnt
      have HRS := Lib.hid hrs
      have HRT := Lib.hid hrt
      have HS5 := Lib.hid hS5
      have HT5 := Lib.hid hO6
      have HB5 := Lib.hid (HBr.out.trans (hb5.mono HBr.out.size))
      have hR80 : (F key).length ≤ 80 := by have := hF.len key; omega
      clear hcs hct hns hnt hrs hrt hS5 hO6 hb5 hks hks' hF hF' hap1 HOE2 hkl hkl' HO HOR HOE HOW HOPS
      generalize sumK F ks = S1 at *
      generalize sumK F' ks' = S2 at *
      generalize F key = R at *
      go_wp2_with fail
      refine Calls.mono (HNS.out w5 HS5.out) ?_
      rintro e w6 ⟨rfl, hb6⟩
      have HS6 := Lib.hid ((SetObj.own sb _).below HS5.out hb6)
      have HT6 := Lib.hid ((SetObj.own tb _).below HT5.out hb6)
      have HB6 := Lib.hid (HB5.out.trans (hb6.mono HB5.out.size))
      clear hb6
      go_wp2_with fail
      refine Calls.mono (HNT.out w6 HT6.out) ?_
      rintro e w7 ⟨rfl, hb7⟩
      have HS7 := Lib.hid ((SetObj.own sb _).below HS6.out hb7)
      have HT7 := Lib.hid ((SetObj.own tb _).below HT6.out hb7)
      have HB7 := Lib.hid (HB6.out.trans (hb7.mono HB6.out.size))
      have hnn : (nextR R == nextR R) = true := by simp
      clear hb7
      go_wp2_with fail
      refine Calls.mono (HCT.out w7 HT7.out) ?_
      rintro e w8 ⟨rfl, hb8⟩
      have HS8 := Lib.hid ((SetObj.own sb _).below HS7.out hb8)
      have HT8 := Lib.hid ((SetObj.own tb _).below HT7.out hb8)
      have HB8 := Lib.hid (HB7.out.trans (hb8.mono HB7.out.size))
      clear hb8
      go_wp2_with fail
      refine Calls.mono (HCS.out w8 HS8.out) ?_
      rintro e w9 ⟨rfl, hb9⟩
      have HS9 := Lib.hid ((SetObj.own sb _).below HS8.out hb9)
      have HT9 := Lib.hid ((SetObj.own tb _).below HT8.out hb9)
      have HB9 := Lib.hid (HB8.out.trans (hb9.mono HB8.out.size))
      have hng : ¬ S1 < S2 := by omega
      clear hb9
      go_wp2_with fail
      refine Calls.mono (HRS.out w9 HS9.out) ?_
      rintro e w10 ⟨Aa, ca, rfl, hra, hb10⟩
      have HRA := Lib.hid hra
      have HT10 := Lib.hid ((SetObj.own tb _).below HT9.out hb10)
      have HB10 := Lib.hid (HB9.out.trans (hb10.mono HB9.out.size))
      clear hb10 hra
      go_wp2_with fail
      refine Calls.mono (HRT.out w10 HT10.out) ?_
      rintro e w11 ⟨Ab, cb, rfl, hrb, hb11⟩
      have HRA11 := Lib.hid ((HRA.out.below hb11).more hb11.size)
      have HRB11 := Lib.hid hrb
      have HB11 := Lib.hid (HB10.out.trans (hb11.mono HB10.out.size))
      clear hb11 hrb
      have hneq := fun (x y : Int) (W : World) => neq_rg x y x y W
      go_wp2_with fail
      go_loopg [83] R.length (fun rest s83 wx => ∃ j : Nat, s83 = .int .i64 j ∧ Hid (j + rest = R.length) ∧ (j : Int) ≤ 80 ∧ Hid (Below w11.heap.size w11 wx))
      case atStart => exact ⟨0, rfl, Lib.hid (by simp), by omega, Lib.hid (Below.refl _ _)⟩
      case round =>
        obtain ⟨j, rfl, HJ, hj0, HBX⟩ := hrel
        by_cases hj : (j : Int) < (R.length : Int)
        · have hjl : j < R.length := by omega
          obtain ⟨ba, oa, rfl, hba, hca⟩ := (HRA11.out.below HBX.out).2 (by omega)
          obtain ⟨bb, ob, rfl, hbb, hcb⟩ := (HRB11.out.below HBX.out).2 (by omega)
          obtain ⟨x1, x2⟩ := rgsCells_at hjl
          have ya1 := hca _ _ x1
          have ya2 := hca _ _ x2
          have yb1 := hcb _ _ x1
          have yb2 := hcb _ _ x2
          rw [← Nat.add_assoc] at ya2 yb2
          generalize R[j].1 = f at *
          generalize R[j].2 = t at *
          have hne := hneq f t
          simp only [beq_self_eq_true, Bool.and_self, Bool.not_true] at hne
          have mixed := mixedD
          clear hca hcb x1 x2 hneq
          go_wp2_with fail
          go_region_o
          all_goals go_wp2_with fail
          all_goals go_roundg (gk - 1)
          all_goals first | (have := HJ.out; omega) | exact ⟨j + 1, by go_num, Lib.hid (by have := HJ.out; omega), by omega, Lib.hid HBX.out.drew⟩
        · have HB12 := Lib.hid (HB11.out.trans (HBX.out.mono HB11.out.size))
          go_wp2_with fail
          refine Calls.mono (awake_any wr) ?_
          rintro e v2 ⟨rfl, hv2⟩
          have HV2 := Lib.hid (HB12.out.trans (hv2.mono HB12.out.size))
          clear hv2
          go_wp2
          go_ret
          exact ⟨rfl, HV2.out⟩
end Go.Proofs.Ytcladmcbhnmhiaa
