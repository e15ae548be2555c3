/- The walk of DecayTrims. -/
import Derived.Test.YtgahopkbgefjdaaRdH
namespace Go.Proofs.Ytgahopkbgefjdaa
open Go.ChangeShapes Go.WideShapes Go.ChangeAt Go.RowKit Go.Shelf Go.Lib Go.Sort Go.Proofs
set_option linter.unusedVariables false
set_option linter.unusedSimpArgs false

structure TrV where
  cnt : Int
  hist : List AddD
  L : List AddD
  top : Int
def trimV (hf : Int) (st : TrV) (d : DeedD) : TrV :=
  if d.kind = 4 then ⟨st.cnt, st.hist.filter (hk (d.now - 21 * hf)), st.L, if st.top < d.now then d.now else st.top⟩
  else ⟨if addOk d.a = true then st.cnt + 1 else st.cnt, st.hist ++ [d.a].filter addOk, st.L ++ [d.a].filter addOk, st.top⟩
def trimsV (hf : Int) (l : List DeedD) : TrV := l.foldl (trimV hf) ⟨0, [], [], 0⟩
theorem trimsV_take (hf : Int) (l : List DeedD) {k : Nat} (hk' : k < l.length) : trimsV hf (l.take (k + 1)) = trimV hf (trimsV hf (l.take k)) l[k] := by
  unfold trimsV
  rw [List.take_succ_eq_append_getElem hk', List.foldl_append]
  rfl
structure TrOk (hf : Int) (st : TrV) (n : Nat) : Prop where
  oh : ∀ a ∈ st.hist, addOk a = true
  ol : ∀ a ∈ st.L, addOk a = true
  lh : st.hist.length ≤ n
  ll : st.L.length ≤ n
  c0 : 0 ≤ st.cnt
  c1 : st.cnt ≤ n
  t0 : 0 ≤ st.top
  eq : ∀ now k, st.top ≤ now → cntV hf st.hist k now = cntV hf st.L k now
theorem TrOk.nil (hf : Int) : TrOk hf ⟨0, [], [], 0⟩ 0 := ⟨by simp, by simp, by simp, by simp, by simp, by simp, by simp, fun _ _ _ => rfl⟩
theorem cntV_append (hf : Int) (l m : List AddD) (k : ByteArray) (now : Int) : cntV hf (l ++ m) k now = cntV hf l k now + cntV hf m k now := by
  unfold cntV
  split
  · rfl
  · exact histSum_append _ _ _ _
theorem wtV_old {hf now at_ T : Int} (h1 : 1 ≤ hf) (hT : T ≤ now) (h : at_ ≤ T - 21 * hf) : wtV (now - at_) hf = 0 := by
  unfold wtV
  rw [if_neg (by omega)]
  have hm : max hf 1 = hf := by omega
  rw [hm, if_pos]
  have : 21 ≤ (now - at_) / hf := (Int.le_ediv_iff_mul_le (by omega)).2 (by omega)
  omega
theorem cntV_trim {hf now T : Int} (h1 : 1 ≤ hf) (hT : T ≤ now) (k : ByteArray) (l : List AddD) : cntV hf (l.filter (hk (T - 21 * hf))) k now = cntV hf l k now := by
  unfold cntV
  split
  · rfl
  · rw [histSum_filter]
    have : ∀ l : List AddD, histSum (fun a => if T - 21 * hf < a then wtV (now - a) hf else 0) k l = histSum (fun a => wtV (now - a) hf) k l := by
      intro l
      induction l with
      | nil => rfl
      | cons a l ih =>
        rw [histSum_cons, histSum_cons, ih]
        congr 1
        unfold histN
        by_cases hlt : T - 21 * hf < a.at_
        · simp [hlt]
        · simp [hlt, wtV_old h1 hT (show a.at_ ≤ T - 21 * hf by omega)]
    exact this l
theorem TrOk.step {hf : Int} (hh : 1 ≤ hf) {st : TrV} {n : Nat} (h : TrOk hf st n) (d : DeedD) : TrOk hf (trimV hf st d) (n + 1) := by
  have h1 := h.lh
  have h2 := h.ll
  have h3 := h.c0
  have h4 := h.c1
  have h5 := h.t0
  unfold trimV
  by_cases hk4 : d.kind = 4
  · rw [if_pos hk4]
    refine ⟨fun a ha => h.oh a (List.mem_filter.1 ha).1, h.ol, ?_, by simp only; omega, h3, by simp only; omega, ?_, fun now k hn => ?_⟩
    · have := List.length_filter_le (hk (d.now - 21 * hf)) st.hist
      simp only
      omega
    · simp only
      split <;> omega
    · simp only at hn ⊢
      have h6 : d.now ≤ now ∧ st.top ≤ now := by split at hn <;> omega
      rw [cntV_trim hh h6.1, h.eq now k h6.2]
  · rw [if_neg hk4]
    have hlen : ([d.a].filter addOk).length ≤ 1 := List.length_filter_le _ _
    refine ⟨fun a ha => ?_, fun a ha => ?_, by simp only [List.length_append]; omega, by simp only [List.length_append]; omega, by simp only; split <;> omega, by simp only; split <;> omega, h5, fun now k hn => ?_⟩
    · rcases List.mem_append.1 ha with ha | ha
      · exact h.oh a ha
      · exact (List.mem_filter.1 ha).2
    · rcases List.mem_append.1 ha with ha | ha
      · exact h.ol a ha
      · exact (List.mem_filter.1 ha).2
    · simp only at hn ⊢
      rw [cntV_append, cntV_append, h.eq now k hn]
theorem trOk_all {hf : Int} (hh : 1 ≤ hf) (l : List DeedD) : TrOk hf (trimsV hf l) l.length := by
  suffices h : ∀ (l : List DeedD) (st : TrV) (n : Nat), TrOk hf st n → TrOk hf (l.foldl (trimV hf) st) (n + l.length) by
    have := h l ⟨0, [], [], 0⟩ 0 (TrOk.nil hf)
    rw [Nat.zero_add] at this
    exact this
  intro l
  induction l with
  | nil => intro st n h; exact h
  | cons d l ih =>
    intro st n h
    rw [List.foldl_cons, List.length_cons, show n + (l.length + 1) = n + 1 + l.length by omega]
    exact ih _ _ (h.step hh d)

/-- Both, of unlike histories. -/
def BothT (w : World) (B : Nat) (cb mb : Nat) (hf cnt : Int) (hist L : List AddD) : Prop :=
  ∃ F G, DecObj w cb F hf cnt hist ∧ RcO w mb G hf cnt L ∧ Apart F G ∧ (∀ k, F k → B ≤ k) ∧ (∀ k, G k → B ≤ k)
theorem BothT.below {w w' : World} {B cb mb : Nat} {hf cnt : Int} {hist L : List AddD} (h : BothT w B cb mb hf cnt hist L) (hb : Below w.heap.size w w') : BothT w' B cb mb hf cnt hist L := by
  obtain ⟨F, G, h1, h2, h3⟩ := h
  exact ⟨F, G, h1.below hb, h2.below hb, h3⟩
theorem bothT_upd {w w5 w6 : World} {B cb mb : Nat} {hf : Int} {cnt cnt' : Int} {L hist' L' : List AddD} {F F5 G G6 : Nat → Prop} (hB : B ≤ w.heap.size) (hF : ∀ k, F k → B ≤ k) (hG : ∀ k, G k → B ≤ k) (hap : Apart F G) (hM : RcO w mb G hf cnt L)
    (hD5 : DecObj w5 cb F5 hf cnt' hist') (hu5 : Upd F w F5 w5) (hM6 : RcO w6 mb G6 hf cnt' L') (hk6 : Keeps (fun k => k = mb) w5 w6) (hg6 : ∀ k, G6 k → G k ∨ w5.heap.size ≤ k) :
    BothT w6 B cb mb hf cnt' hist' L' ∧ Below B w w6 := by
  obtain ⟨hM5, hap5⟩ := (RcO.own mb hf cnt L).frame hu5 hM hap
  have hmb : G mb := by obtain ⟨A, c, h, rfl⟩ := hM; exact .inl rfl
  have hu6 : Upd G w5 G6 w6 := ⟨hk6.mono (fun k _ e => by subst e; exact hmb), hg6⟩
  obtain ⟨hD6, hap6⟩ := (DecObj.own cb hf _ _).frame hu6 hD5 hap5.symm
  exact ⟨⟨F5, G6, hD6, hM6, hap6.symm, hu5.base hB hF, hu6.base (Nat.le_trans hB hu5.keeps.size) hG⟩, (hu5.keeps.toBelow hB hF).trans (hu6.keeps.toBelow (Nat.le_trans hB hu5.keeps.size) hG)⟩
/-- The counter alone has changed. -/
theorem bothT_trim {w w5 : World} {B cb mb : Nat} {hf : Int} {cnt : Int} {hist' L : List AddD} {F F5 G : Nat → Prop} (hB : B ≤ w.heap.size) (hF : ∀ k, F k → B ≤ k) (hG : ∀ k, G k → B ≤ k) (hap : Apart F G) (hM : RcO w mb G hf cnt L)
    (hD5 : DecObj w5 cb F5 hf cnt hist') (hu5 : Upd F w F5 w5) : BothT w5 B cb mb hf cnt hist' L ∧ Below B w w5 := by
  obtain ⟨hM5, hap5⟩ := (RcO.own mb hf cnt L).frame hu5 hM hap
  exact ⟨⟨F5, G, hD5, hM5, hap5, hu5.base hB hF, hG⟩, hu5.keeps.toBelow hB hF⟩

set_option maxRecDepth 20000 in
set_option maxHeartbeats 8000000 in
theorem trims11_walk (half : Int) (A : Option Addr) (c : Nat) (l : List DeedD) (key : ByteArray) (now : Int) (w : World) (hA : DeedsAt w w.heap.size A l) (hN : (l.length : Int) ≤ 9223372036854775807) (hds : ∀ d ∈ l, DeedOk d) (hk : key.size ≤ maxLen) (hnow : I64 now) :
    Calls Try.prog 7 #[.int .i64 half, .slice A l.length c, .string key, .int .i64 now] w fun e w' => e = .returned (.bool true) ∧ Below w.heap.size w w' := by
  have HL := Lib.hid hA
  have HDS := Lib.hid hds
  obtain ⟨hn0, hn1⟩ := hnow
  clear hA hds
  by_cases g0 : heavyB l 30 = true
  · have G := Lib.hid g0
    clear g0
    go_enter Try.func7, Try.ntmps7
    go_wp2_with fail
    refine (lives_any _).mono ?_
    rintro e w1 ⟨rfl, hb⟩
    go_wp2_with fail
    refine (heavy_any A c l 30 _ ((HL.out.below hb).more hb.size) hN).mono ?_
    rintro e w2 ⟨rfl, rfl⟩
    rw [G.out]
    go_wp2
    go_ret
    exact ⟨rfl, hb⟩
  · have g0' : heavyB l 30 = false := by simpa using g0
    have G := Lib.hid g0'
    clear g0 g0'
    by_cases g1 : 100 < (key.size : Int)
    · go_enter Try.func7, Try.ntmps7
      go_wp2_with fail
      refine (lives_any _).mono ?_
      rintro e w1 ⟨rfl, hb⟩
      go_wp2_with fail
      refine (heavy_any A c l 30 _ ((HL.out.below hb).more hb.size) hN).mono ?_
      rintro e w2 ⟨rfl, rfl⟩
      rw [G.out]
      go_wp2
      go_ret
      exact ⟨rfl, hb⟩
    · have hL := (heavyB_no G.out).1
      have HKS := Lib.hid (heavyB_no G.out).2
      have HKY : Hid (strOk key) := Lib.hid hk
      have hh1 : 1 ≤ halfOf half := by unfold halfOf; omega
      have hh2 : halfOf half ≤ 1099511627776 := by unfold halfOf; omega
      clear hk
      go_enter Try.func7, Try.ntmps7
      go_wp2_with fail
      refine (lives_any _).mono ?_
      rintro e w0 ⟨rfl, hb⟩
      go_wp2_with fail
      refine (heavy_any A c l 30 _ ((HL.out.below hb).more hb.size) hN).mono ?_
      rintro e w0' ⟨rfl, rfl⟩
      rw [G.out]
      go_wp2_with fail
      refine (dnew_any half _).mono ?_
      rintro e w1 ⟨cb, F, rfl, hO, hF, hb1⟩
      go_wp2_with fail
      refine (rhalf_any half _).mono ?_
      rintro e w1' ⟨rfl, rfl⟩
      generalize halfOf half = hf at *
      have hb01 : Below w.heap.size w w1 := hb.trans (hb1.mono hb.size)
      have hF2 : ∀ k, F k → w.heap.size ≤ k := fun k h => Nat.le_trans hb.size (hF k h)
      have hz1 := hb01.size
      have hb2 : Below w.heap.size w (w1.alloc (Obj.cells #[.int .i64 hf, .slice none 0 0, .int .i64 0] 39)) := hb01.alloc hz1 _
      have hbo : BothT (w1.alloc (Obj.cells #[.int .i64 hf, .slice none 0 0, .int .i64 0] 39)) w.heap.size cb w1.heap.size hf 0 [] [] := by
        refine ⟨F, _, hO.below ((Below.refl _ _).alloc (Nat.le_refl _) _), ⟨none, 0, ⟨heap_alloc_new w1 _, Reads.none_, fun _ => rfl, (fun ⟨o, sp, e⟩ => by cases e), (fun k ⟨o, sp, e⟩ => by cases e)⟩, rfl⟩, ?_, hF2, ?_⟩
        · rintro k hf (rfl | ⟨o, sp, e⟩)
          · exact absurd ((DecObj.own cb _ _ _).lt hO _ hf) (Nat.lt_irrefl _)
          · cases e
        · rintro k (rfl | ⟨o, sp, e⟩)
          · exact hz1
          · cases e
      have HBO := Lib.hid hbo
      have HB2 := Lib.hid hb2
      clear hbo hb2 hO hF hF2 hb1 hb hb01
      go_wp2_with fail
      generalize w1.alloc (Obj.cells #[.int .i64 hf, .slice none 0 0, .int .i64 0] 39) = W2 at *
      generalize w1.heap.size = mb at *
      go_loopg [11, 12] l.length (fun rest t i wr => ∃ (k : Nat), i = .int .i64 k ∧ Hid (k + rest = l.length) ∧ t = .int .i64 (trimsV hf (l.take k)).top ∧ Hid (BothT wr w.heap.size cb mb hf (trimsV hf (l.take k)).cnt (trimsV hf (l.take k)).hist (trimsV hf (l.take k)).L) ∧ Hid (Below w.heap.size w wr))
      case atStart => exact ⟨0, rfl, Lib.hid (by simp), rfl, Lib.hid (by rw [List.take_zero]; exact HBO.out), HB2⟩
      case round =>
        clear HBO HB2
        obtain ⟨k, rfl, HK, rfl, HO, HB⟩ := hrel
        by_cases hk' : (k : Int) < (l.length : Int)
        · have hkl : k < l.length := by omega
          obtain ⟨b, o, rfl, hbl, e0, e1, e2, e3, e4⟩ := (HL.out.below HB.out).one hkl
          have HKT := Lib.hid (trimsV_take hf l hkl)
          have hso := trOk_all hh1 (l.take k)
          have hkk : (l.take k).length ≤ l.length := List.length_take_le' _ _
          have hsz := HKS.out _ (List.getElem_mem hkl)
          have hdk := HDS.out _ (List.getElem_mem hkl)
          generalize l[k] = d at *
          generalize trimsV hf (l.take k) = st at *
          obtain ⟨kind, a, nw⟩ := d
          obtain ⟨hd1, hd2, hd3, hd4, hd5⟩ := hdk
          simp only at hd1 hd2 hd3 hd4 hd5 hsz e0 e1 e2 e3 e4
          obtain ⟨cnt, hist, L, top⟩ := st
          have hl1 : (L.length : Int) ≤ 1000 := by have := hso.ll; simp only at this; omega
          have hl2 : (hist.length : Int) ≤ 1000 := by have := hso.lh; simp only at this; omega
          have hl3 : 0 ≤ cnt ∧ cnt < 1048576 := by have := hso.c0; have := hso.c1; simp only at *; omega
          clear hso hkk
          have hnow : nw ≤ 9223372036854775807 := hd5.2
          obtain ⟨F, G, hD, hM, hap, hF, hG⟩ := HO.out
          obtain ⟨Wa, hWa⟩ : ∃ Wa, Wa = wr.alloc (.cells #[.string a.key, .int .i64 a.at_, .int .i64 a.n] 30) := ⟨_, rfl⟩
          have hba : Below wr.heap.size wr Wa := by rw [hWa]; exact (Below.refl _ _).alloc (Nat.le_refl _) _
          have e0a : (wr.alloc (.cells #[.string a.key, .int .i64 a.at_, .int .i64 a.n] 30)).cell? ⟨b, o + k * 5, none⟩ = some (.int .u8 kind) := by rw [← hWa]; exact (hba.cell (p := ⟨b, o + k * 5, none⟩) (Nat.lt_of_lt_of_le hbl HB.out.size)).trans e0
          have b0 : Wa.cell? ⟨wr.heap.size, 0, none⟩ = some (.string a.key) := by rw [hWa]; simp
          have b1 : Wa.cell? ⟨wr.heap.size, 1, none⟩ = some (.int .i64 a.at_) := by rw [hWa]; simp
          have b2 : Wa.cell? ⟨wr.heap.size, 2, none⟩ = some (.int .i64 a.n) := by rw [hWa]; simp
          have hab : wr.heap.size < Wa.drew.heap.size := by rw [hWa]; simp
          have hbd : Below wr.heap.size wr Wa.drew := hba.drew
          have HD : Hid (DecObj Wa.drew cb F hf cnt hist) := Lib.hid (hD.below hbd)
          have HM : Hid (RcO Wa.drew mb G hf cnt L) := Lib.hid (hM.below hbd)
          have HDA : Hid (DecObj Wa cb F hf cnt hist) := Lib.hid (hD.below hba)
          have HMA : Hid (RcO Wa mb G hf cnt L) := Lib.hid (hM.below hba)
          have HNF : Hid (¬ F wr.heap.size) := Lib.hid (fun h => absurd ((DecObj.own cb hf cnt hist).lt hD _ h) (Nat.lt_irrefl _))
          have hgm : G mb := by obtain ⟨A, c, h, rfl⟩ := hM; exact .inl rfl
          have HNM : Hid (¬ wr.heap.size = mb) := Lib.hid (fun h => absurd ((RcO.own mb hf cnt L).lt hM _ hgm) (by omega))
          have HGM : Hid (w.heap.size ≤ mb) := Lib.hid (hG mb hgm)
          have HAP := Lib.hid hap
          have HF := Lib.hid hF
          have HG := Lib.hid hG
          have HZD : Hid (w.heap.size ≤ Wa.drew.heap.size) := Lib.hid (Nat.le_trans HB.out.size hbd.size)
          have HBD : Hid (Below w.heap.size w Wa.drew) := Lib.hid (HB.out.trans (hbd.mono HB.out.size))
          have HBD2 := Lib.hid hbd
          have HBA := Lib.hid hba
          clear hD hM hap hF hG hgm hba hbd
          by_cases hkd : kind = 4
          · subst hkd
            clear hd1
            have hds : trimV hf ⟨cnt, hist, L, top⟩ ⟨4, a, nw⟩ = ⟨cnt, hist.filter (hk (nw - 21 * hf)), L, if top < nw then nw else top⟩ := rfl
            have HDS2 := Lib.hid hds
            clear hds
            have hDa : DecObj Wa cb F hf cnt hist := HDA.out
            have hMa : RcO Wa mb G hf cnt L := HMA.out
            have HZA : Hid (w.heap.size ≤ Wa.heap.size) := Lib.hid (Nat.le_trans HB.out.size HBA.out.size)
            have hbw : b < Wa.heap.size := Nat.lt_of_lt_of_le hbl HZA.out
            have hq : Wa.cell? ⟨b, o + k * 5 + 4, none⟩ = some (.int .i64 nw) := (HBA.out.cell (p := ⟨b, o + k * 5 + 4, none⟩) (Nat.lt_of_lt_of_le hbl HB.out.size)).trans e4
            have hq' : (wr.alloc (.cells #[.string a.key, .int .i64 a.at_, .int .i64 a.n] 30)).cell? ⟨b, o + k * 5 + 4, none⟩ = some (.int .i64 nw) := by rw [← hWa]; exact hq
            go_wp2_with fail
            rw [← hWa]
            clear hWa b0 b1 b2 hq' e0a
            refine (dtrim2_any cb F hf cnt hist nw _ hDa hnow (by omega)).mono ?_
            rintro e w5 ⟨rfl, F5, hD5, hu5⟩
            have hq5 : w5.cell? ⟨b, o + k * 5 + 4, none⟩ = some (.int .i64 nw) := (hu5.keeps.cell (p := ⟨b, o + k * 5 + 4, none⟩) hbw (fun h => by have := HF.out _ h; simp at this; omega)).trans hq
            have hbw5 : b < w5.heap.size := Nat.lt_of_lt_of_le hbw hu5.keeps.size
            obtain ⟨hbt, hbl5⟩ := bothT_trim (B := w.heap.size) HZA.out HF.out HG.out HAP.out hMa hD5 hu5
            have hF5 := hu5.base HZA.out HF.out
            have HB5 : Hid (Below w.heap.size w w5) := Lib.hid (HB.out.trans ((HBA.out.mono HB.out.size).trans hbl5))
            have hap5 := (RcO.own mb hf cnt L).frame hu5 hMa HAP.out
            have hg0 : goneN (nw - 21 * hf) [] (hist.filter (hk (nw - 21 * hf))) = 0 := goneN_none (fun a ha => by have := (List.mem_filter.1 ha).2; unfold hk at this; simpa using this)
            have hff : (hist.filter (hk (nw - 21 * hf))).filter (hk (nw - 21 * hf)) = hist.filter (hk (nw - 21 * hf)) := by rw [List.filter_filter]; simp
            have q2 := dtrim2_any cb F5 hf cnt (hist.filter (hk (nw - 21 * hf))) nw w5 hD5 hnow (by have := List.length_filter_le (hk (nw - 21 * hf)) hist; omega)
            have Q2 := Lib.hid q2
            have HG0 := Lib.hid hg0
            have HFF := Lib.hid hff
            have HAP5 := Lib.hid hap5
            have HF5 := Lib.hid hF5
            clear q2 hg0 hff hap5 hF5 hbt hbl5 hD5 hu5 hDa hMa hq
            generalize goneN (nw - 21 * hf) [] hist = gq at *
            by_cases htp : top < nw
            · have HTP : Hid ((trimsV hf (l.take (k + 1))).top = nw) := Lib.hid (by rw [HKT.out, HDS2.out]; simp only; rw [if_pos htp])
              go_wp2_with fail
              refine Q2.out.mono ?_
              rintro e w6 ⟨rfl, F6, hD6, hu6⟩
              rw [HG0.out]
              rw [HFF.out] at hD6
              obtain ⟨hbt, hbl6⟩ := bothT_trim (B := w.heap.size) HB5.out.size HF5.out HG.out HAP5.out.2 HAP5.out.1 hD6 hu6
              have HO6 : Hid (BothT w6 w.heap.size cb mb hf (trimsV hf (l.take (k + 1))).cnt (trimsV hf (l.take (k + 1))).hist (trimsV hf (l.take (k + 1))).L) := Lib.hid (by rw [HKT.out, HDS2.out]; exact hbt)
              have HB6 : Hid (Below w.heap.size w w6) := Lib.hid (HB5.out.trans hbl6)
              clear hbt hbl6 hD6 hu6 Q2 HG0 HFF HKT HDS2
              go_wp2
              go_roundg (gk - 1)
              case measure => have := HK.out; omega
              case rel => exact ⟨k + 1, by go_num, Lib.hid (by have := HK.out; omega), by rw [HTP.out], HO6, HB6⟩
            · have HTP : Hid ((trimsV hf (l.take (k + 1))).top = top) := Lib.hid (by rw [HKT.out, HDS2.out]; simp only; rw [if_neg htp])
              go_wp2_with fail
              refine Q2.out.mono ?_
              rintro e w6 ⟨rfl, F6, hD6, hu6⟩
              rw [HG0.out]
              rw [HFF.out] at hD6
              obtain ⟨hbt, hbl6⟩ := bothT_trim (B := w.heap.size) HB5.out.size HF5.out HG.out HAP5.out.2 HAP5.out.1 hD6 hu6
              have HO6 : Hid (BothT w6 w.heap.size cb mb hf (trimsV hf (l.take (k + 1))).cnt (trimsV hf (l.take (k + 1))).hist (trimsV hf (l.take (k + 1))).L) := Lib.hid (by rw [HKT.out, HDS2.out]; exact hbt)
              have HB6 : Hid (Below w.heap.size w w6) := Lib.hid (HB5.out.trans hbl6)
              clear hbt hbl6 hD6 hu6 Q2 HG0 HFF HKT HDS2
              go_wp2
              go_roundg (gk - 1)
              case measure => have := HK.out; omega
              case rel => exact ⟨k + 1, by go_num, Lib.hid (by have := HK.out; omega), by rw [HTP.out], HO6, HB6⟩
          · have j4 : (kind == 4) = false := by simpa using hkd
            have hds : trimV hf ⟨cnt, hist, L, top⟩ ⟨kind, a, nw⟩ = ⟨if addOk a = true then cnt + 1 else cnt, hist ++ [a].filter addOk, L ++ [a].filter addOk, top⟩ := by unfold trimV; rw [if_neg (show ¬ kind = 4 from hkd)]
            have HDS2 := Lib.hid hds
            clear hds
            go_wp2_with fail
            rw [← hWa]
            clear hWa
            have HQ : Wa.drew.cell? ⟨wr.heap.size, 0, none⟩ = some (.string a.key) ∧ Wa.drew.cell? ⟨wr.heap.size, 1, none⟩ = some (.int .i64 a.at_) ∧ Wa.drew.cell? ⟨wr.heap.size, 2, none⟩ = some (.int .i64 a.n) := ⟨b0, b1, b2⟩
            clear b0 b1 b2
            refine heldStart 11 (S := fun W => W.cell? ⟨wr.heap.size, 0, none⟩ = some (.string a.key) ∧ W.cell? ⟨wr.heap.size, 1, none⟩ = some (.int .i64 a.at_) ∧ W.cell? ⟨wr.heap.size, 2, none⟩ = some (.int .i64 a.n)) (by kernel_rfl) ?_ (fun hHeld => ?_)
            · exact HQ
            refine heldTake 0 (v := ?_) (by simp only [List.getElem?_toArray, List.getElem?_cons_succ, List.getElem?_cons_zero]; rfl) (by kernel_rfl) (by intro _ _ _ h; exact h) (by rfl) (by assumption) ?_ ?_
            rotate_left
            · intro W hSw; (try dsimp only at hSw); go_simp; try with_reducible rfl
            simp only [Act.put, List.setIfInBounds_toArray, List.set_cons_zero, List.set_cons_succ]
            refine heldTake 1 (v := ?_) (by simp only [List.getElem?_toArray, List.getElem?_cons_succ, List.getElem?_cons_zero]; rfl) (by kernel_rfl) (by intro _ _ _ h; exact h) (by rfl) (by assumption) ?_ ?_
            rotate_left
            · intro W hSw; (try dsimp only at hSw); go_simp; try with_reducible rfl
            simp only [Act.put, List.setIfInBounds_toArray, List.set_cons_zero, List.set_cons_succ]
            refine heldTake 2 (v := ?_) (by simp only [List.getElem?_toArray, List.getElem?_cons_succ, List.getElem?_cons_zero]; rfl) (by kernel_rfl) (by intro _ _ _ h; exact h) (by rfl) (by assumption) ?_ ?_
            rotate_left
            · intro W hSw; (try dsimp only at hSw); go_simp; try with_reducible rfl
            simp only [Act.put, List.setIfInBounds_toArray, List.set_cons_zero, List.set_cons_succ]
            refine heldTake 3 (v := ?_) (by simp only [List.getElem?_toArray, List.getElem?_cons_succ, List.getElem?_cons_zero]; rfl) (by kernel_rfl) (by intro _ _ _ h; exact h) (by rfl) (by assumption) ?_ ?_
            rotate_left
            · intro W hSw; (try dsimp only at hSw); go_simp; try with_reducible rfl
            simp only [Act.put, List.setIfInBounds_toArray, List.set_cons_zero, List.set_cons_succ]
            refine heldTake 4 (v := ?_) (by simp only [List.getElem?_toArray, List.getElem?_cons_succ, List.getElem?_cons_zero]; rfl) (by kernel_rfl) (by intro _ _ _ h; exact h) (by rfl) (by assumption) ?_ ?_
            rotate_left
            · intro W hSw; (try dsimp only at hSw); go_simp; try with_reducible rfl
            simp only [Act.put, List.setIfInBounds_toArray, List.set_cons_zero, List.set_cons_succ]
            refine heldTake 5 (v := ?_) (by simp only [List.getElem?_toArray, List.getElem?_cons_succ, List.getElem?_cons_zero]; rfl) (by kernel_rfl) (by intro _ _ _ h; exact h) (by rfl) (by assumption) ?_ ?_
            rotate_left
            · intro W hSw; (try dsimp only at hSw); go_simp; try with_reducible rfl
            simp only [Act.put, List.setIfInBounds_toArray, List.set_cons_zero, List.set_cons_succ]
            refine heldTake 6 (v := ?_) (by simp only [List.getElem?_toArray, List.getElem?_cons_succ, List.getElem?_cons_zero]; rfl) (by kernel_rfl) (by intro _ _ _ h; exact h) (by rfl) (by assumption) ?_ ?_
            rotate_left
            · intro W hSw; (try dsimp only at hSw); go_simp; try with_reducible rfl
            simp only [Act.put, List.setIfInBounds_toArray, List.set_cons_zero, List.set_cons_succ]
            refine heldTake 8 (v := ?_) (by simp only [List.getElem?_toArray, List.getElem?_cons_succ, List.getElem?_cons_zero]; rfl) (by kernel_rfl) (by intro _ _ _ h; exact h) (by rfl) (by assumption) ?_ ?_
            rotate_left
            · intro W hSw; (try dsimp only at hSw); go_simp; try with_reducible rfl
            simp only [Act.put, List.setIfInBounds_toArray, List.set_cons_zero, List.set_cons_succ]
            refine heldTake 9 (v := ?_) (by simp only [List.getElem?_toArray, List.getElem?_cons_succ, List.getElem?_cons_zero]; rfl) (by kernel_rfl) (by intro _ _ _ h; exact h) (by rfl) (by assumption) ?_ ?_
            rotate_left
            · intro W hSw; (try dsimp only at hSw); go_simp; try with_reducible rfl
            simp only [Act.put, List.setIfInBounds_toArray, List.set_cons_zero, List.set_cons_succ]
            refine heldCall 7 (by simp only [List.getElem?_toArray, List.getElem?_cons_succ, List.getElem?_cons_zero]; rfl) (by kernel_rfl) (fun K hK => ?_)
            go_simp
            refine (dadd2_any cb F hf cnt hist a _ HD.out (by omega)).mono ?_
            rintro r w5 ⟨rfl, F5, hD5, hu5⟩
            have HQ5 : w5.cell? ⟨wr.heap.size, 0, none⟩ = some (.string a.key) ∧ w5.cell? ⟨wr.heap.size, 1, none⟩ = some (.int .i64 a.at_) ∧ w5.cell? ⟨wr.heap.size, 2, none⟩ = some (.int .i64 a.n) := ⟨(hu5.keeps.cell (p := ⟨wr.heap.size, 0, none⟩) hab HNF.out).trans HQ.1, (hu5.keeps.cell (p := ⟨wr.heap.size, 1, none⟩) hab HNF.out).trans HQ.2.1, (hu5.keeps.cell (p := ⟨wr.heap.size, 2, none⟩) hab HNF.out).trans HQ.2.2⟩
            clear HQ
            have HQ := HQ5
            clear HQ5
            have hab5 : wr.heap.size < w5.heap.size := Nat.lt_of_lt_of_le hab hu5.keeps.size
            have HM5 := Lib.hid (HM.out.frameU hu5 HAP.out)
            have HD5 := Lib.hid hD5
            have HU5 := Lib.hid hu5
            clear hD5 hu5
            go_wp2_with fail
            refine hK.out _ _ ?_ (fun hHeld => ?_)
            · exact HQ
            clear hK K
            (try simp only [Act.put, List.setIfInBounds_toArray, List.set_cons_zero, List.set_cons_succ])
            refine heldCall 10 (by simp only [List.getElem?_toArray, List.getElem?_cons_succ, List.getElem?_cons_zero]; rfl) (by kernel_rfl) (fun K hK => ?_)
            go_simp
            refine (rput11_any mb G hf cnt L a _ HM5.out (by omega) (by omega) (by omega) (by omega)).mono ?_
            rintro r w6 ⟨rfl, G6, hM6, hk6, hg6⟩
            have HQ5 : w6.cell? ⟨wr.heap.size, 0, none⟩ = some (.string a.key) ∧ w6.cell? ⟨wr.heap.size, 1, none⟩ = some (.int .i64 a.at_) ∧ w6.cell? ⟨wr.heap.size, 2, none⟩ = some (.int .i64 a.n) := ⟨(hk6.cell (p := ⟨wr.heap.size, 0, none⟩) hab5 HNM.out).trans HQ.1, (hk6.cell (p := ⟨wr.heap.size, 1, none⟩) hab5 HNM.out).trans HQ.2.1, (hk6.cell (p := ⟨wr.heap.size, 2, none⟩) hab5 HNM.out).trans HQ.2.2⟩
            clear HQ
            have HQ := HQ5
            clear HQ5
            have hfin := bothT_upd (B := w.heap.size) HZD.out HF.out HG.out HAP.out HM.out HD5.out HU5.out hM6 hk6 hg6
            have HFN := Lib.hid hfin
            clear hfin hM6 hk6 hg6
            generalize addOk a = bb at *
            go_wp2_with fail
            refine hK.out _ _ ?_ (fun hHeld => ?_)
            · exact HQ
            clear hK K
            (try simp only [Act.put, List.setIfInBounds_toArray, List.set_cons_zero, List.set_cons_succ])
            refine heldTake 11 (v := ?_) (by simp only [List.getElem?_toArray, List.getElem?_cons_succ, List.getElem?_cons_zero]; rfl) (by kernel_rfl) (by intro _ _ _ h; exact h) (by rfl) (by assumption) ?_ ?_
            rotate_left
            · intro W hSw; (try dsimp only at hSw); go_simp; try with_reducible rfl
            simp only [Act.put, List.setIfInBounds_toArray, List.set_cons_zero, List.set_cons_succ]
            refine heldDone (by kernel_rfl) ?_ _
            have HB6 : Hid (Below w.heap.size w w6) := Lib.hid (HBD.out.trans HFN.out.2)
            have HO6 : Hid (BothT w6 w.heap.size cb mb hf (trimsV hf (l.take (k + 1))).cnt (trimsV hf (l.take (k + 1))).hist (trimsV hf (l.take (k + 1))).L) := Lib.hid (by rw [HKT.out, HDS2.out]; exact HFN.out.1)
            have HTP : Hid ((trimsV hf (l.take (k + 1))).top = top) := Lib.hid (by rw [HKT.out, HDS2.out])
            clear HFN HQ HKT HDS2 HM5 HD5 HU5
            go_wp2
            go_roundg (gk - 1)
            case measure => have := HK.out; omega
            case rel => exact ⟨k + 1, by go_num, Lib.hid (by have := HK.out; omega), by rw [HTP.out], HO6, HB6⟩
        · have hall : l.take k = l := List.take_of_length_le (by omega)
          have hO := HO.out
          rw [hall] at hO
          have hso := trOk_all hh1 l
          rw [hall]
          generalize trimsV hf l = st at *
          have HO2 := Lib.hid hO
          have HSO := Lib.hid hso
          have hl1 : (st.L.length : Int) ≤ 1000 := by have := hso.ll; omega
          have hl2 : (st.hist.length : Int) ≤ 1000 := by have := hso.lh; omega
          clear hO hall hso HO
          by_cases ht : now < st.top
          · have ht' : decide (now < st.top) = true := by simpa using ht
            go_wp2
            go_ret
            exact ⟨rfl, HB.out⟩
          · have ht' : decide (now < st.top) = false := by simpa using ht
            obtain ⟨F, Gf, hD, hM, -, -, -⟩ := HO2.out
            have q := even11_any cb mb F Gf hf st.cnt st.cnt st.hist st.L key now 5 wr hD hM (fun k => HSO.out.eq now k (by omega)) HSO.out.ol hl1 hl2 hh2 HKY.out hn1 (by omega)
            have Q := Lib.hid q
            clear q hD hM
            go_wp2_with fail
            refine Q.out.mono ?_
            rintro e w4 ⟨rfl, hb4⟩
            have HB4 : Hid (Below w.heap.size w w4) := Lib.hid (HB.out.trans (hb4.mono HB.out.size))
            clear hb4
            go_wp2
            go_ret
            exact ⟨rfl, HB4.out⟩
end Go.Proofs.Ytgahopkbgefjdaa
