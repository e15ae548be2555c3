/- The walk of the statement RisingMerges. -/
import Derived.Test.YtbfjknpljkmgjaaRisU
import Derived.Test.YtbfjknpljkmgjaaRisL
namespace Go.Proofs.Ytbfjknpljkmgjaa
open Go.ChangeShapes Go.WideShapes Go.ChangeAt Go.RowKit Go.Shelf Go.Lib Go.Sort Go.Proofs
set_option linter.unusedVariables false
set_option linter.unusedSimpArgs false

theorem zero_rise (w : World) : (zeroValue 34).run Try.prog w = .ok (.agg #[.string ⟨#[]⟩, .int .i64 0, .int .i64 0]) w := by kernel_rfl
theorem look_old {w : World} {mb : Nat} {M : OldM} (h : MapIs w strKf riseVf strOk mb M) {k : ByteArray} (hk : strOk k) :
    (Instr.lookup 49 (.map (some mb)) (.string k) false).run Try.prog w = .ok (.agg #[.string (oldAt M k).key, .int .i64 (oldAt M k).new, .int .i64 (oldAt M k).old]) w := by
  have := h.look strKey Try.underlying49 zero_rise hk
  have e : ((mget M k).map riseVf).getD (.agg #[.string ⟨#[]⟩, .int .i64 0, .int .i64 0]) = .agg #[.string (oldAt M k).key, .int .i64 (oldAt M k).new, .int .i64 (oldAt M k).old] := by
    unfold oldAt
    cases mget M k <;> rfl
  rw [e] at this
  exact this
theorem field_new (k : ByteArray) (a b : Int) (w : World) : (Instr.field 34 (.agg #[.string k, .int .i64 a, .int .i64 b]) 1).run Try.prog w = .ok (.int .i64 a) w := by kernel_rfl
/-- The rows that are gone through, one behind the other. -/
def rowNo (a b : List RiseV) (k : Nat) : List RiseV := if k = 0 then a else b
def rowsTo (a b : List RiseV) (k : Nat) : List RiseV := if k = 0 then [] else if k = 1 then a else a ++ b
theorem rowsTo_succ (a b : List RiseV) {k : Nat} (hk : k < 2) : rowsTo a b (k + 1) = rowsTo a b k ++ rowNo a b k := by
  match k, hk with
  | 0, _ => simp [rowsTo, rowNo]
  | 1, _ => simp [rowsTo, rowNo]
theorem RisesOf.keys {w : World} {pb : Nat} {F : Nat → Prop} {wd span now floor : Int} {hist : List AddD} {rs : List RiseV} (hO : PaneObj w pb F wd hist) (h : RisesOf wd hist span now floor rs) : ∀ r ∈ rs, strOk r.key := by
  intro r hr
  have h0 := ((RisesOf.facts hO h).2 r hr).1.1
  unfold RisesOf at h
  by_cases hB : ofB wd span now = true
  · rw [if_pos hB] at h
    have e : r.new = histTot wd hist r.key ((begB wd now - span) / wd) (begB wd now / wd) := congrArg RiseV.new ((h.2 r).1 hr).1
    have := hO.key_sz (key := r.key) (lo := (begB wd now - span) / wd) (hi := begB wd now / wd) (by omega)
    unfold strOk maxLen
    omega
  · rw [if_neg hB] at h
    subst h
    simp at hr

set_option maxRecDepth 20000 in
set_option maxHeartbeats 3000000 in
theorem merges_walk (width : Int) (A : Option Addr) (c : Nat) (l : List AddD) (A' : Option Addr) (c' : Nat) (m : List AddD) (span now : Int) (w : World) (hl : AddsAt w w.heap.size A l) (hlen : (l.length : Int) ≤ 9223372036854775807) (hm : AddsAt w w.heap.size A' m) (hmlen : (m.length : Int) ≤ 9223372036854775807) :
    Calls Try.prog 10 #[.int .i64 width, .slice A l.length c, .slice A' m.length c', .int .i64 span, .int .i64 now] w fun e w' => e = .returned (.bool true) ∧ Below w.heap.size w w' := by
  by_cases g1 : longB l = true
  · go_enter Try.func10, Try.ntmps10
    go_wp2_with fail
    refine (long_any A c l _ hl hlen).mono ?_
    rintro r w1 ⟨rfl, hb1⟩
    go_wp2_with fail
    refine (awake_any _).mono ?_
    rintro r w2 ⟨rfl, hb2⟩
    go_wp2
    go_ret
    exact ⟨rfl, hb1.trans (hb2.mono hb1.size)⟩
  · have g1' : longB l = false := by simpa using g1
    have hno := Lib.hid (longB_no g1').1
    clear g1
    by_cases g2 : longB m = true
    · go_enter Try.func10, Try.ntmps10
      go_wp2_with fail
      refine (long_any A c l _ hl hlen).mono ?_
      rintro r w1 ⟨rfl, hb1⟩
      go_wp2_with fail
      refine (long_any A' c' m _ ((hm.below hb1).more hb1.size) hmlen).mono ?_
      rintro r w1' ⟨rfl, hb1'⟩
      go_wp2_with fail
      refine (awake_any _).mono ?_
      rintro r w2 ⟨rfl, hb2⟩
      go_wp2
      go_ret
      exact ⟨rfl, (hb1.trans (hb1'.mono hb1.size)).trans (hb2.mono (by have := hb1.size; have := hb1'.size; omega))⟩
    · have g2' : longB m = false := by simpa using g2
      have hno2 := Lib.hid (longB_no g2').1
      clear g2
      go_enter Try.func10, Try.ntmps10
      go_wp2_with fail
      refine (long_any A c l _ hl hlen).mono ?_
      rintro r w1 ⟨rfl, hb1⟩
      go_wp2_with fail
      refine (long_any A' c' m _ ((hm.below hb1).more hb1.size) hmlen).mono ?_
      rintro r w2 ⟨rfl, hb2⟩
      have hB2 : Below w.heap.size w w2 := hb1.trans (hb2.mono hb1.size)
      clear hb1 hb2
      go_wp2_with fail
      refine (fill_any width A c l _ ((hl.below hB2).more hB2.size) (by have := hno.out; omega)).mono ?_
      rintro r w3 ⟨pb, F, rfl, hO, hF, hb3⟩
      have hB3 : Below w.heap.size w w3 := hB2.trans (hb3.mono hB2.size)
      have HO := Lib.hid hO
      have HF := Lib.hid hF
      clear hO hF
      go_wp2_with fail
      refine (fill_any width A' c' m _ ((hm.below hB3).more hB3.size) (by have := hno2.out; omega)).mono ?_
      rintro r w4 ⟨qb, G, rfl, hQ, hG, hb4⟩
      have hB4 : Below w.heap.size w w4 := hB3.trans (hb4.mono hB3.size)
      have hO4 := HO.out.below hb4
      have hFG : ∀ k, G k → ¬ F k := fun k hg hf => by have h1 := hG k hg; have h2 := HO.out.lt k hf; omega
      have HO4 := Lib.hid hO4
      have HQ4 := Lib.hid hQ
      have HFG := Lib.hid hFG
      have HF4 : Hid (∀ k, F k → w.heap.size ≤ k) := Lib.hid (fun k hk => by have := HF.out k hk; have := hB2.size; omega)
      have hz4 := hB4.size
      clear hO4 hQ hFG HO HF hG hb3 hb4 hB2 hB3
      generalize widthOf width = wd at *
      go_wp2_with fail
      refine (rof_any pb F wd (l.filter rightB) span now 0 w4 HO4.out).mono ?_
      rintro r w5 ⟨A5, c5, a, rfl, hra, hoa, hb5, hla⟩
      have hQ5 := HQ4.out.below hb5
      go_wp2_with fail
      refine (rof_any qb G wd (m.filter rightB) span now 0 w5 hQ5).mono ?_
      rintro r w6 ⟨A6, c6, b, rfl, hrb, hob, hb6, hlb⟩
      have hB56 : Below w4.heap.size w4 w6 := hb5.trans (hb6.mono hb5.size)
      have hB6 : Below w.heap.size w w6 := hB4.trans (hB56.mono hz4)
      have hata : RisesAt w6 w6.heap.size A5 a := ((Reads.of_own hoa).below hb6).more hb6.size
      have hatb : RisesAt w6 w6.heap.size A6 b := Reads.of_own hob
      have hal : (a.length : Int) ≤ 40 := by
        have h1 := List.length_filter_le rightB l
        have := hno.out
        omega
      have hbl : (b.length : Int) ≤ 40 := by
        have h1 := List.length_filter_le rightB m
        have := hno2.out
        omega
      have hff : ∀ r ∈ a ++ b, (0 ≤ r.new ∧ r.new ≤ 1099511627776) ∧ strOk r.key := fun r hr => by
        rcases List.mem_append.1 hr with hr | hr
        · have h1 := ((RisesOf.facts HO4.out hra).2 r hr).1
          exact ⟨⟨by have := h1.1; omega, h1.2.1⟩, RisesOf.keys HO4.out hra r hr⟩
        · have h1 := ((RisesOf.facts HQ4.out hrb).2 r hr).1
          exact ⟨⟨by have := h1.1; omega, h1.2.1⟩, RisesOf.keys HQ4.out hrb r hr⟩
      have HFF := Lib.hid hff
      have HO6 := Lib.hid (HO4.out.below hB56)
      have HQ6 := Lib.hid (HQ4.out.below hB56)
      have HRA := Lib.hid hra
      have HRB := Lib.hid hrb
      have HATA := Lib.hid hata
      have HATB := Lib.hid hatb
      have HB6 := Lib.hid hB6
      have hmm := @run_makeMap Try.prog
      have HHL : Hid ((l.filter rightB).length + (m.filter rightB).length ≤ 1048575) := Lib.hid (by
        have h1 := List.length_filter_le rightB l
        have h2 := List.length_filter_le rightB m
        have := hno.out
        have := hno2.out
        omega)
      clear hff hra hrb hata hatb hoa hob hb5 hb6 hQ5 hB56 hB6 hla hlb hB4 hz4 HO4 HQ4 hl hm hno hno2 g1' g2' hlen hmlen
      go_wp2_with fail
      have hM7 : MapIs ((w6.alloc (Obj.map #[] 0)).alloc (Obj.cells #[Value.slice A5 a.length c5, Value.slice A6 b.length c6] 28)) strKf riseVf strOk w6.heap.size [] := (MapIs.made w6 _ _ _).alloc _
      have hb7 : Below w6.heap.size w6 ((w6.alloc (Obj.map #[] 0)).alloc (Obj.cells #[Value.slice A5 a.length c5, Value.slice A6 b.length c6] 28)) := ((Below.refl _ _).alloc (Nat.le_refl _) _).alloc (by simp) _
      have hblk := heap_two w6 (Obj.map #[] 0) (Obj.cells #[Value.slice A5 a.length c5, Value.slice A6 b.length c6] 28)
      have hz7 : w6.heap.size + 2 ≤ ((w6.alloc (Obj.map #[] 0)).alloc (Obj.cells #[Value.slice A5 a.length c5, Value.slice A6 b.length c6] 28)).heap.size := by simp
      have hLt : ∀ k, F k → k < w6.heap.size := HO6.out.lt
      have hLg : ∀ k, G k → k < w6.heap.size := HQ6.out.lt
      generalize (w6.alloc (Obj.map #[] 0)).alloc (Obj.cells #[Value.slice A5 a.length c5, Value.slice A6 b.length c6] 28) = W7 at *
      have hO7 := HO6.out.below hb7
      have hQ7 := HQ6.out.below hb7
      have ha7 : RisesAt W7 w6.heap.size A5 a := HATA.out.below hb7
      have hb7' : RisesAt W7 w6.heap.size A6 b := HATB.out.below hb7
      have HB7 : Hid (Below w.heap.size w W7) := Lib.hid (HB6.out.trans (hb7.mono HB6.out.size))
      have hz6 := HB6.out.size
      have hrows : ∀ k, k < 2 → ∃ (Ax : Option Addr) (cx : Nat), W7.cell? ⟨w6.heap.size + 1, k, none⟩ = some (.slice Ax (rowNo a b k).length cx) ∧ RisesAt W7 w6.heap.size Ax (rowNo a b k) ∧ ((rowNo a b k).length : Int) ≤ 40 ∧ ∀ r ∈ rowNo a b k, (0 ≤ r.new ∧ r.new ≤ 1099511627776) ∧ strOk r.key := by
        intro k hk
        match k, hk with
        | 0, _ => exact ⟨A5, c5, by simp [World.cell?, hblk, rowNo], ha7, hal, fun r hr => HFF.out r (List.mem_append.2 (.inl hr))⟩
        | 1, _ => exact ⟨A6, c6, by simp [World.cell?, hblk, rowNo], hb7', hbl, fun r hr => HFF.out r (List.mem_append.2 (.inr hr))⟩
      have hsums : ∀ (k n : Nat) (key : ByteArray), k < 2 → 0 ≤ keySum (rowsTo a b k ++ (rowNo a b k).take n) key ∧ keySum (rowsTo a b k ++ (rowNo a b k).take n) key ≤ 87960930222080 := by
        intro k n key hk
        have h1 := keySum_bd (l := rowsTo a b k ++ (rowNo a b k).take n) (fun r hr => by
          have hx : r ∈ a ++ b := by
            match k, hk with
            | 0, _ =>
              simp [rowsTo, rowNo] at hr
              exact List.mem_append.2 (.inl (List.mem_of_mem_take hr))
            | 1, _ =>
              simp [rowsTo, rowNo] at hr
              rcases hr with hr | hr
              · exact List.mem_append.2 (.inl hr)
              · exact List.mem_append.2 (.inr (List.mem_of_mem_take hr))
          exact (HFF.out r hx).1) key
        have h2 : ((rowsTo a b k ++ (rowNo a b k).take n).length : Int) ≤ 80 := by
          match k, hk with
          | 0, _ => simp [rowsTo, rowNo]; omega
          | 1, _ => simp [rowsTo, rowNo]; omega
        omega
      have HROWS := Lib.hid hrows
      have HSUMS := Lib.hid hsums
      have HM7 := Lib.hid hM7
      have HO7 := Lib.hid hO7
      have HQ7 := Lib.hid hQ7
      have HLt := Lib.hid hLt
      have HLg := Lib.hid hLg
      generalize hmb : w6.heap.size = mb at *
      clear hmb hM7 hb7 hblk hO7 hQ7 ha7 hb7' hrows hsums hLt hLg HATA HATB HO6 HQ6 hmm
      go_loopg [56] 2 (fun rest i wr => ∃ (k : Nat), i = .int .i64 k ∧ Hid (k + rest = 2) ∧ Hid (MapIs wr strKf riseVf strOk mb (foldM (rowsTo a b k))) ∧ Keeps (fun k => k = mb) W7 wr)
      case atStart => exact ⟨0, rfl, Lib.hid rfl, HM7, Keeps.refl _ _⟩
      case round =>
        obtain ⟨k, rfl, HK, HMk, hkp⟩ := hrel
        by_cases hk : (k : Int) < 2
        · have hk2 : k < 2 := by omega
          obtain ⟨Ax, cx, hcell, hatx, hxl, hxf⟩ := HROWS.out k hk2
          have hcellr := (hkp.cell (p := ⟨mb + 1, k, none⟩) (by show mb + 1 < _; omega) (by show ¬ mb + 1 = mb; omega)).trans hcell
          have hsx := fun n key => HSUMS.out k n key hk2
          have hrs := rowsTo_succ a b hk2
          have HRS := Lib.hid hrs
          have HSX := Lib.hid hsx
          have HXF := Lib.hid hxf
          have HATX := Lib.hid hatx
          clear hcell hatx hsx hrs hxf
          generalize rowNo a b k = xs at *
          generalize rowsTo a b k = ys at *
          go_wp2_with fail
          generalize wr = w8 at *
          generalize gk = g8 at *
          go_loopg [62] xs.length (fun rest j wx => ∃ (n : Nat), j = .int .i64 n ∧ Hid (n + rest = xs.length) ∧ Hid (MapIs wx strKf riseVf strOk mb (foldM (ys ++ xs.take n))) ∧ Keeps (fun k => k = mb) W7 wx)
          case atStart => exact ⟨0, rfl, Lib.hid (by simp), by simpa using HMk, hkp⟩
          case round =>
            clear HMk hkp hcellr
            obtain ⟨n, rfl, HN, HM, hkp⟩ := hrel
            have hbx : Below mb W7 wr := hkp.toBelow (by omega) (fun k e => by omega)
            by_cases hn : (n : Int) < (xs.length : Int)
            · have hnl : n < xs.length := by omega
              obtain ⟨bb, o, rfl, hbb, e1, e2, e3⟩ := (HATX.out.below hbx).one hnl
              have hyf := HXF.out _ (List.getElem_mem hnl)
              have hsn : foldM (ys ++ xs.take (n + 1)) = addM (foldM (ys ++ xs.take n)) xs[n] := by rw [List.take_succ_eq_append_getElem hnl, ← List.append_assoc, foldM_snoc]
              have hnew := foldM_new (ys ++ xs.take n) xs[n].key
              have hbd := HSX.out n xs[n].key
              rw [← hnew] at hbd
              generalize xs[n] = y at *
              have e3' : wr.cell? ⟨bb, o + n * 3 + 2, none⟩ = some (.int .i64 y.old) := e3
              have hl := look_old (HM.out.alloc (Obj.cells #[Value.string y.key, Value.int .i64 y.new, Value.int .i64 y.old] 34)) hyf.2
              obtain ⟨W10, hrun, hM10, hK10, hz10⟩ := ((HM.out.alloc (Obj.cells #[Value.string y.key, Value.int .i64 y.new, Value.int .i64 y.old] 34)).alloc (Obj.cells #[Value.string (oldAt (foldM (ys ++ xs.take n)) y.key).key, Value.int .i64 (oldAt (foldM (ys ++ xs.take n)) y.key).new, Value.int .i64 (oldAt (foldM (ys ++ xs.take n)) y.key).old] 34)).put strKey Try.underlying49 hyf.2 (⟨y.key, (oldAt (foldM (ys ++ xs.take n)) y.key).new + y.new, 0⟩ : RiseV)
              have hadd : mput (foldM (ys ++ xs.take n)) y.key ⟨y.key, (oldAt (foldM (ys ++ xs.take n)) y.key).new + y.new, 0⟩ = addM (foldM (ys ++ xs.take n)) y := rfl
              rw [hadd, ← hsn] at hM10
              have HM10 := Lib.hid hM10
              have HK10 : Hid (Keeps (fun k => k = mb) W7 W10) := Lib.hid (((hkp.alloc _).alloc _).trans hK10 (fun _ _ e => e))
              have hyb := hyf.1
              clear hM10 hK10 hz10 hadd hsn hnew hyf
              generalize oldAt (foldM (ys ++ xs.take n)) y.key = x at *
              have hrun' : (Instr.mapUpdate 49 (.map (some mb)) (.string y.key) (.agg #[.string y.key, .int .i64 (x.new + y.new), .int .i64 0])).run Try.prog ((wr.alloc (Obj.cells #[Value.string y.key, Value.int .i64 y.new, Value.int .i64 y.old] 34)).alloc (Obj.cells #[Value.string x.key, Value.int .i64 x.new, Value.int .i64 x.old] 34)) = .ok () W10 := hrun
              clear hrun
              go_wp2
              go_roundg (gk - 1)
              case measure => have := HN.out; omega
              case rel => exact ⟨n + 1, by go_num, Lib.hid (by have := HN.out; omega), HM10, HK10.out⟩
            · have hall : xs.take n = xs := List.take_of_length_le (by omega)
              have hM := HM.out
              rw [hall, ← HRS.out] at hM
              have HM' := Lib.hid hM
              clear hM hall
              go_wp2
              go_roundg (g8 - 1)
              case measure => have := HK.out; omega
              case rel => exact ⟨k + 1, by go_num, Lib.hid (by have := HK.out; omega), HM', hkp⟩
        · have hk2 : k = 2 := by have := HK.out; omega
          subst hk2
          have hO8 := HO7.out.keep hkp (fun k hf e => by have := HLt.out k hf; omega)
          have hQ8 := HQ7.out.keep hkp (fun k hf e => by have := HLg.out k hf; omega)
          have hq := pmerge_any pb qb F G wd (l.filter rightB) (m.filter rightB) wr hO8 hQ8 HFG.out (by have := HHL.out; omega)
          have HQM := Lib.hid hq
          have HB8 : Hid (Below w.heap.size w wr) := Lib.hid (HB7.out.trans (hkp.toBelow HB7.out.size (fun k e => by omega)))
          have hMap : MapIs wr strKf riseVf strOk mb (foldM (a ++ b)) := HMk.out
          have HMap := Lib.hid hMap
          have HOa := Lib.hid hO8
          have HOb := Lib.hid hQ8
          clear hO8 hQ8 hq hMap HMk hkp HO7 HQ7 HB7
          go_wp2_with fail
          refine HQM.out.mono ?_
          rintro r w9 ⟨rfl, F9, hO9, hK9, hF9⟩
          have hMap9 := HMap.out.keep hK9 (fun hf => by have := HLt.out mb hf; omega)
          have HB9 : Hid (Below w.heap.size w w9) := Lib.hid (HB8.out.trans (hK9.toBelow HB8.out.size (fun k hf => HF4.out k hf)))
          have HO9 := Lib.hid hO9
          have HMap9 := Lib.hid hMap9
          clear hO9 hMap9 hK9 hF9 HQM HMap HB8
          go_wp2_with fail
          refine (rof_any pb F9 wd _ span now 0 w9 HO9.out).mono ?_
          rintro r w10 ⟨A10, c10, all, rfl, hrall, hown, hb10, hlall⟩
          obtain ⟨p1, p2⟩ := merges_plain HOa.out HOb.out HO9.out HRA.out HRB.out hrall
          have hM10 := HMap9.out.below hb10 HMap9.out.lt
          have hat10 : RisesAt w10 w10.heap.size A10 all := Reads.of_own hown
          have hkeys := RisesOf.keys HO9.out hrall
          have HKEYS := Lib.hid hkeys
          have P1 := Lib.hid p1
          have P2 := Lib.hid p2
          have HM10 := Lib.hid hM10
          have HAT10 := Lib.hid hat10
          have HB10 : Hid (Below w.heap.size w w10) := Lib.hid (HB9.out.trans (hb10.mono HB9.out.size))
          have hall : (all.length : Int) ≤ 1048575 := by
            rw [List.length_append] at hlall
            have := HHL.out
            omega
          have hmbl := HMap9.out.lt
          have hz10 := hb10.size
          clear p1 p2 hM10 hat10 hown hrall hb10 hlall hkeys HMap9 HB9 HO9
          generalize foldM (a ++ b) = MM at *
          go_wp2_with fail
          go_loopg [93] all.length (fun rest j wx => ∃ (n : Nat), j = .int .i64 n ∧ Hid (n + rest = all.length) ∧ Below w10.heap.size w10 wx)
          case atStart => exact ⟨0, rfl, Lib.hid (by simp), Below.refl _ _⟩
          case round =>
            obtain ⟨n, rfl, HN, hbn⟩ := hrel
            have hzn := hbn.size
            have hMn := HM10.out.below hbn (by omega)
            by_cases hn : (n : Int) < (all.length : Int)
            · have hnl : n < all.length := by omega
              obtain ⟨bb, o, rfl, hbb, e1, e2, e3⟩ := (HAT10.out.below hbn).one hnl
              have hpy := P1.out _ (List.getElem_mem hnl)
              have hky := HKEYS.out _ (List.getElem_mem hnl)
              generalize all[n] = y at *
              have e3' : wr.cell? ⟨bb, o + n * 3 + 2, none⟩ = some (.int .i64 y.old) := e3
              have hl := look_old (hMn.alloc (Obj.cells #[Value.string y.key, Value.int .i64 y.new, Value.int .i64 y.old] 34)) hky
              rw [hpy] at hl
              generalize (oldAt MM y.key).key = xk at *
              generalize (oldAt MM y.key).old = xo at *
              have hne : (y.new != y.new) = false := by simp
              have hfl := field_new xk y.new xo
              clear hpy hMn
              go_wp2
              go_roundg (gk - 1)
              case measure => have := HN.out; omega
              case rel => exact ⟨n + 1, by go_num, Lib.hid (by have := HN.out; omega), hbn.alloc hzn _⟩
            · have hll := fun ty => hMn.len (P := Try.prog) Try.underlying49 (ty := ty)
              rw [← P2.out] at hll
              have HB11 : Hid (Below w.heap.size w wr) := Lib.hid (HB10.out.trans (hbn.mono HB10.out.size))
              have hee : ((all.length : Int) == (all.length : Int)) = true := by simp
              clear hMn
              go_wp2_with fail
              refine (awake_any _).mono ?_
              rintro r w8 ⟨rfl, hb8⟩
              go_wp2
              go_ret
              exact ⟨rfl, HB11.out.trans (hb8.mono HB11.out.size)⟩
end Go.Proofs.Ytbfjknpljkmgjaa
