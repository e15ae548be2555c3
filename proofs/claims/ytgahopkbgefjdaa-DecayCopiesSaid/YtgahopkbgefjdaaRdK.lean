/- The walk of DecayCopies. -/
import Derived.Test.YtgahopkbgefjdaaRdH
import Derived.Test.YtgahopkbgefjdaaDecO
namespace Go.Proofs.Ytgahopkbgefjdaa
open Go.ChangeShapes Go.WideShapes Go.ChangeAt Go.RowKit Go.Shelf Go.Lib Go.Sort Go.Proofs
set_option linter.unusedVariables false
set_option linter.unusedSimpArgs false

/-- What a deed makes of a copy. -/
def copyS (hf : Int) (st : Int × List AddD) (d : DeedD) : Int × List AddD :=
  if d.kind = 4 then (st.1, st.2.filter (hk (d.now - 21 * hf))) else (if addOk d.a = true then st.1 + 1 else st.1, st.2 ++ [d.a].filter addOk)
def copiesS (hf : Int) (st : Int × List AddD) (l : List DeedD) : Int × List AddD := l.foldl (copyS hf) st
theorem copiesS_take (hf : Int) (st : Int × List AddD) (l : List DeedD) {k : Nat} (hk' : k < l.length) : copiesS hf st (l.take (k + 1)) = copyS hf (copiesS hf st (l.take k)) l[k] := by
  unfold copiesS
  rw [List.take_succ_eq_append_getElem hk', List.foldl_append]
  rfl
theorem StOk.copy {hf : Int} {st : Int × List AddD} {n : Nat} (h : StOk st n) (d : DeedD) : StOk (copyS hf st d) (n + 1) := by
  obtain ⟨h1, h2, h3, h4⟩ := h
  unfold copyS
  by_cases h5 : d.kind = 4
  · rw [if_pos h5]
    refine ⟨fun a ha => h1 a (List.mem_filter.1 ha).1, ?_, h3, by simp only; omega⟩
    have := List.length_filter_le (hk (d.now - 21 * hf)) st.2
    simp only
    omega
  · rw [if_neg h5]
    by_cases ho : addOk d.a = true
    · rw [if_pos ho, show [d.a].filter addOk = [d.a] by simp [ho]]
      refine ⟨fun a ha => ?_, by simp; omega, by simp only; omega, by simp only; omega⟩
      rcases List.mem_append.1 ha with ha | ha
      · exact h1 a ha
      · simp at ha; subst ha; exact ho
    · rw [if_neg ho, show [d.a].filter addOk = [] by simp [ho], List.append_nil]
      exact ⟨h1, by simp only; omega, h3, by simp only; omega⟩
theorem stOk_copies {hf : Int} : ∀ (l : List DeedD) {st : Int × List AddD} {n : Nat}, StOk st n → StOk (copiesS hf st l) (n + l.length)
  | [], _, _, h => h
  | d :: l, st, n, h => by
    have := stOk_copies (hf := hf) l (h.copy (hf := hf) d)
    rw [List.length_cons, show n + (l.length + 1) = n + 1 + l.length by omega]
    exact this

/-- The originals, beside a copy on F and G. -/
def Rest (w : World) (B c0 m0 : Nat) (hf : Int) (s1 : Int × List AddD) (F G : Nat → Prop) (mb : Nat) : Prop :=
  ∃ F1 G1, DecObj w c0 F1 hf s1.1 s1.2 ∧ RcO w m0 G1 hf s1.1 s1.2 ∧ Apart F F1 ∧ Apart F G1 ∧ Apart G F1 ∧ ¬ G1 mb ∧ (∀ k, F1 k → B ≤ k)
theorem Rest.below {w w' : World} {B c0 m0 : Nat} {hf : Int} {s1 : Int × List AddD} {F G : Nat → Prop} {mb : Nat} (h : Rest w B c0 m0 hf s1 F G mb) (hb : Below w.heap.size w w') : Rest w' B c0 m0 hf s1 F G mb := by
  obtain ⟨F1, G1, h1, h2, h3⟩ := h
  exact ⟨F1, G1, h1.below hb, h2.below hb, h3⟩
theorem Rest.upd {w w5 w6 : World} {B c0 m0 : Nat} {hf : Int} {s1 : Int × List AddD} {F G F5 G6 : Nat → Prop} {mb : Nat} (h : Rest w B c0 m0 hf s1 F G mb) (hmb : G mb) (hu5 : Upd F w F5 w5) (hk6 : Keeps (fun k => k = mb) w5 w6) (hg6 : ∀ k, G6 k → G k ∨ w5.heap.size ≤ k) : Rest w6 B c0 m0 hf s1 F5 G6 mb := by
  obtain ⟨F1, G1, h1, h2, a1, a2, a3, a4, a5⟩ := h
  obtain ⟨h15, b1⟩ := (DecObj.own c0 hf _ _).frame hu5 h1 a1
  obtain ⟨h25, b2⟩ := (RcO.own m0 hf _ _).frame hu5 h2 a2
  have hu6 : Upd G w5 G6 w6 := ⟨hk6.mono (fun k _ e => by subst e; exact hmb), hg6⟩
  obtain ⟨h16, b3⟩ := (DecObj.own c0 hf _ _).frame hu6 h15 a3
  exact ⟨F1, G1, h16, (RcO.own m0 hf _ _).keep h25 hk6 (fun k hk e => a4 (by subst e; exact hk)), b1, b2, b3, a4, a5⟩
/-- A copy and the originals. -/
def Four (w : World) (B c0 m0 cb mb : Nat) (hf : Int) (s1 st : Int × List AddD) : Prop :=
  ∃ F G, DecObj w cb F hf st.1 st.2 ∧ RcO w mb G hf st.1 st.2 ∧ Apart F G ∧ (∀ k, F k → B ≤ k) ∧ (∀ k, G k → B ≤ k) ∧ Rest w B c0 m0 hf s1 F G mb
theorem four_upd {w w5 w6 : World} {B c0 m0 cb mb : Nat} {hf : Int} {s1 : Int × List AddD} {cnt cnt' : Int} {L L' : List AddD} {F F5 G G6 : Nat → Prop} (hX : Rest w B c0 m0 hf s1 F G mb) (hB : B ≤ w.heap.size) (hF : ∀ k, F k → B ≤ k) (hG : ∀ k, G k → B ≤ k) (hap : Apart F G) (hM : RcO w mb G hf cnt L)
    (hD5 : DecObj w5 cb F5 hf cnt' L') (hu5 : Upd F w F5 w5) (hM6 : RcO w6 mb G6 hf cnt' L') (hk6 : Keeps (fun k => k = mb) w5 w6) (hg6 : ∀ k, G6 k → G k ∨ w5.heap.size ≤ k) :
    Four w6 B c0 m0 cb mb hf s1 (cnt', L') ∧ Below B w w6 := by
  obtain ⟨hM5, hap5⟩ := (RcO.own mb hf cnt L).frame hu5 hM hap
  have hmb : G mb := by obtain ⟨A, c, h, rfl⟩ := hM; exact .inl rfl
  have hu6 : Upd G w5 G6 w6 := ⟨hk6.mono (fun k _ e => by subst e; exact hmb), hg6⟩
  obtain ⟨hD6, hap6⟩ := (DecObj.own cb hf _ _).frame hu6 hD5 hap5.symm
  exact ⟨⟨F5, G6, hD6, hM6, hap6.symm, hu5.base hB hF, hu6.base (Nat.le_trans hB hu5.keeps.size) hG, hX.upd hmb hu5 hk6 hg6⟩, (hu5.keeps.toBelow hB hF).trans (hu6.keeps.toBelow (Nat.le_trans hB hu5.keeps.size) hG)⟩

def keyOther : ByteArray := ⟨#[111, 116, 104, 101, 114]⟩

set_option maxRecDepth 20000 in
set_option maxHeartbeats 16000000 in
theorem copies11_walk (half : Int) (A0 : Option Addr) (c1 : Nat) (l0 : List DeedD) (A : Option Addr) (c : Nat) (l : List DeedD) (key : ByteArray) (now : Int) (w : World) (hA0 : DeedsAt w w.heap.size A0 l0) (hN0 : (l0.length : Int) ≤ 9223372036854775807) (hds0 : ∀ d ∈ l0, DeedOk d) (hA : DeedsAt w w.heap.size A l) (hN : (l.length : Int) ≤ 9223372036854775807) (hds : ∀ d ∈ l, DeedOk d) (hk : key.size ≤ maxLen) (hnow : I64 now) :
    Calls Try.prog 8 #[.int .i64 half, .slice A0 l0.length c1, .slice A l.length c, .string key, .int .i64 now] w fun e w' => e = .returned (.bool true) ∧ Below w.heap.size w w' := by
  have HL0 := Lib.hid hA0
  have HL := Lib.hid hA
  have HDS0 := Lib.hid hds0
  have HDS := Lib.hid hds
  obtain ⟨hn0, hn1⟩ := hnow
  clear hA0 hA hds0 hds
  by_cases g0 : heavyB l0 30 = true
  · have G := Lib.hid g0
    clear g0
    go_enter Try.func8, Try.ntmps8
    go_wp2_with fail
    refine (lives_any _).mono ?_
    rintro e w1 ⟨rfl, hb⟩
    go_wp2_with fail
    refine (heavy_any A0 c1 l0 30 _ ((HL0.out.below hb).more hb.size) hN0).mono ?_
    rintro e w2 ⟨rfl, rfl⟩
    rw [G.out]
    go_wp2
    go_ret
    exact ⟨rfl, hb⟩
  · have g0' : heavyB l0 30 = false := by simpa using g0
    have G0 := Lib.hid g0'
    clear g0 g0'
    by_cases g2 : heavyB l 10 = true
    · have G := Lib.hid g2
      clear g2
      go_enter Try.func8, Try.ntmps8
      go_wp2_with fail
      refine (lives_any _).mono ?_
      rintro e w1 ⟨rfl, hb⟩
      go_wp2_with fail
      refine (heavy_any A0 c1 l0 30 _ ((HL0.out.below hb).more hb.size) hN0).mono ?_
      rintro e w2 ⟨rfl, rfl⟩
      rw [G0.out]
      go_wp2_with fail
      refine (heavy_any A c l 10 _ ((HL.out.below hb).more hb.size) hN).mono ?_
      rintro e w2 ⟨rfl, rfl⟩
      rw [G.out]
      go_wp2
      go_ret
      exact ⟨rfl, hb⟩
    · have g2' : heavyB l 10 = false := by simpa using g2
      have G := Lib.hid g2'
      clear g2 g2'
      by_cases g1 : 100 < (key.size : Int)
      · go_enter Try.func8, Try.ntmps8
        go_wp2_with fail
        refine (lives_any _).mono ?_
        rintro e w1 ⟨rfl, hb⟩
        go_wp2_with fail
        refine (heavy_any A0 c1 l0 30 _ ((HL0.out.below hb).more hb.size) hN0).mono ?_
        rintro e w2 ⟨rfl, rfl⟩
        rw [G0.out]
        go_wp2_with fail
        refine (heavy_any A c l 10 _ ((HL.out.below hb).more hb.size) hN).mono ?_
        rintro e w2 ⟨rfl, rfl⟩
        rw [G.out]
        go_wp2
        go_ret
        exact ⟨rfl, hb⟩
      · have hL0 := (heavyB_no G0.out).1
        have HKS0 := Lib.hid (heavyB_no G0.out).2
        have hL := (heavyB_no G.out).1
        have HKS := Lib.hid (heavyB_no G.out).2
        have HKY : Hid (strOk key) := Lib.hid hk
        have hh1 : 1 ≤ halfOf half := by unfold halfOf; omega
        have hh2 : halfOf half ≤ 1099511627776 := by unfold halfOf; omega
        clear hk
        go_enter Try.func8, Try.ntmps8
        go_wp2_with fail
        refine (lives_any _).mono ?_
        rintro e w1 ⟨rfl, hb⟩
        go_wp2_with fail
        refine (heavy_any A0 c1 l0 30 _ ((HL0.out.below hb).more hb.size) hN0).mono ?_
        rintro e w2 ⟨rfl, rfl⟩
        rw [G0.out]
        go_wp2_with fail
        refine (heavy_any A c l 10 _ ((HL.out.below hb).more hb.size) hN).mono ?_
        rintro e w2 ⟨rfl, rfl⟩
        rw [G.out]
        go_wp2_with fail
        refine (grown11_any half A0 c1 l0 _ ((HL0.out.below hb).more hb.size) (by omega) HKS0.out HDS0.out).mono ?_
        rintro e w3 ⟨c0, m0, rfl, ⟨F1, G1, hD, hM, hap1, hF1, hG1⟩, hb3⟩
        have hso0 := stOk_all (halfOf half) l0
        generalize deedsS (halfOf half) l0 = s1 at *
        generalize halfOf half = hf at *
        have hB3 : Below w.heap.size w w3 := hb.trans (hb3.mono hb.size)
        have hs1 : (s1.2.length : Int) ≤ 30 := by have := hso0.2.1; omega
        have hs2 : 0 ≤ s1.1 ∧ s1.1 ≤ 30 := by have := hso0.2.2; omega
        have HSO0 := Lib.hid hso0
        have q := dcopy_any c0 F1 hf s1.1 s1.2 w3 hD
        have Q := Lib.hid q
        have HD1 := Lib.hid hD
        have HM1 := Lib.hid hM
        have HAP1 := Lib.hid hap1
        have HF1 : Hid (∀ k, F1 k → w.heap.size ≤ k) := Lib.hid (fun k h => Nat.le_trans hb.size (hF1 k h))
        have HB3 := Lib.hid hB3
        have hz3 := hB3.size
        have HGB : Hid (∀ k, G1 k → w.heap.size ≤ k) := Lib.hid (fun k h => Nat.le_trans hb.size (hG1 k h))
        clear hso0 q hD hM hap1 hF1 hG1 hb3 hb hB3
        go_wp2_with fail
        refine Q.out.mono ?_
        rintro e w4 ⟨cb, F, rfl, hO, hF, hb4⟩
        have hD4 := HD1.out.below hb4
        have hM4 := HM1.out.below hb4
        have hF2 : ∀ k, F k → w.heap.size ≤ k := fun k h => Nat.le_trans hz3 (hF k h)
        have hapA : Apart F F1 := (DecObj.own c0 hf _ _).apart_new HD1.out hF
        have hapB : Apart F G1 := (RcO.own m0 hf _ _).apart_new HM1.out hF
        have hB4 : Below w.heap.size w w4 := HB3.out.trans (hb4.mono hz3)
        have hM4' := hM4
        obtain ⟨Am, cm, hRm, hGm⟩ := hM4'
        obtain ⟨⟨x0, x1, x2⟩, -, -⟩ := three_cells hRm.blk
        have hml4 : m0 < w4.heap.size := (Array.getElem?_eq_some_iff.1 hRm.blk).1
        have hz4 := hB4.size
        have hbx : (w4.alloc (.cells #[.int .i64 hf, .slice Am s1.2.length cm, .int .i64 s1.1] 39)).drew.heap[w4.heap.size]? = some (.cells #[.int .i64 hf, .slice Am s1.2.length cm, .int .i64 s1.1] 39 (0, 0)) := heap_alloc_new w4 _
        have hbW : Below w4.heap.size w4 (w4.alloc (.cells #[.int .i64 hf, .slice Am s1.2.length cm, .int .i64 s1.1] 39)).drew := ((Below.refl _ _).alloc (Nat.le_refl _) _).drew
        have hGmf : ∀ k, rowF Am k → G1 k := fun k h => by rw [hGm]; exact .inr h
        have hlow : ∀ k, rowF Am k → k < w4.heap.size := hRm.low
        have hno4 : ¬ G1 w4.heap.size := fun h => absurd ((RcO.own m0 hf _ _).lt hM4 _ h) (Nat.lt_irrefl _)
        have hfour : (∀ k, G1 k → w.heap.size ≤ k) → Four (w4.alloc (.cells #[.int .i64 hf, .slice Am s1.2.length cm, .int .i64 s1.1] 39)).drew w.heap.size c0 m0 cb w4.heap.size hf s1 s1 := fun hgb => by
          refine ⟨F, fun k => k = w4.heap.size ∨ rowF Am k, hO.below hbW, ⟨Am, cm, ⟨hbx, adds3_keep hRm.row (Keeps.ofBelow hbW noF) (fun _ _ e => e), hRm.nil, fun h => absurd (hlow _ h) (Nat.lt_irrefl _), fun k h => Nat.lt_of_lt_of_le (hlow k h) hbW.size⟩, rfl⟩, ?_, hF2, ?_, F1, G1, hD4.below hbW, hM4.below hbW, hapA, hapB, ?_, hno4, HF1.out⟩
          · rintro k hk (rfl | h)
            · exact absurd ((DecObj.own cb hf _ _).lt hO _ hk) (Nat.lt_irrefl _)
            · exact hapB k hk (hGmf k h)
          · rintro k (rfl | h)
            · exact hz4
            · exact hgb k (hGmf k h)
          · rintro k (rfl | h) hk
            · exact absurd ((DecObj.own c0 hf _ _).lt hD4 _ hk) (Nat.lt_irrefl _)
            · exact HAP1.out k hk (hGmf k h)
        have HFOUR := Lib.hid hfour
        have HBW : Hid (Below w.heap.size w (w4.alloc (.cells #[.int .i64 hf, .slice Am s1.2.length cm, .int .i64 s1.1] 39)).drew) := Lib.hid (hB4.trans (hbW.mono hz4))
        clear hfour hD4 hM4 hF2 hapA hapB hB4 hRm hGm hGmf hlow hno4 hO hF hb4 hbx hbW
        have hKe : Below w4.heap.size w4 w4.drew := (Below.refl _ _).drew
        go_wp2_with fail
        refine heldStart 14 (S := fun W => W.cell? ⟨m0, 0, none⟩ = some (.int .i64 hf) ∧ W.cell? ⟨m0, 1, none⟩ = some (.slice Am s1.2.length cm) ∧ W.cell? ⟨m0, 2, none⟩ = some (.int .i64 s1.1)) (by kernel_rfl) ?_ (fun hHeld => ?_)
        · exact ⟨(Below.cell (p := ⟨m0, 0, none⟩) (by first | exact hKe | exact hKe.alloc hKe.size _) hml4).trans x0, (Below.cell (p := ⟨m0, 1, none⟩) (by first | exact hKe | exact hKe.alloc hKe.size _) hml4).trans x1, (Below.cell (p := ⟨m0, 2, none⟩) (by first | exact hKe | exact hKe.alloc hKe.size _) hml4).trans x2⟩
        refine heldTake 0 (v := ?_) (by simp only [List.getElem?_toArray, List.getElem?_cons_succ, List.getElem?_cons_zero]; rfl) (by kernel_rfl) (by intro _ _ _ h; exact h) (by rfl) (by assumption) ?_ ?_
        rotate_left
        · intro W hSw; (try dsimp only at hSw); go_simp; try with_reducible rfl
        simp only [Act.put, List.setIfInBounds_toArray, List.set_cons_zero, List.set_cons_succ]
        refine heldTake 1 (v := ?_) (by simp only [List.getElem?_toArray, List.getElem?_cons_succ, List.getElem?_cons_zero]; rfl) (by kernel_rfl) (by intro _ _ _ h; exact h) (by rfl) (by assumption) ?_ ?_
        rotate_left
        · intro W hSw; (try dsimp only at hSw); go_simp; try with_reducible rfl
        simp only [Act.put, List.setIfInBounds_toArray, List.set_cons_zero, List.set_cons_succ]
        refine heldTake 2 (v := ?_) (by simp only [List.getElem?_toArray, List.getElem?_cons_succ, List.getElem?_cons_zero]; rfl) (by kernel_rfl) (by intro _ _ _ h; exact h) (by rfl) (by assumption) ?_ ?_
        rotate_left
        · intro W hSw; (try dsimp only at hSw); go_simp; try with_reducible rfl
        simp only [Act.put, List.setIfInBounds_toArray, List.set_cons_zero, List.set_cons_succ]
        refine heldTake 3 (v := ?_) (by simp only [List.getElem?_toArray, List.getElem?_cons_succ, List.getElem?_cons_zero]; rfl) (by kernel_rfl) (by intro _ _ _ h; exact h) (by rfl) (by assumption) ?_ ?_
        rotate_left
        · intro W hSw; (try dsimp only at hSw); go_simp; try with_reducible rfl
        simp only [Act.put, List.setIfInBounds_toArray, List.set_cons_zero, List.set_cons_succ]
        refine heldTake 4 (v := ?_) (by simp only [List.getElem?_toArray, List.getElem?_cons_succ, List.getElem?_cons_zero]; rfl) (by kernel_rfl) (by intro _ _ _ h; exact h) (by rfl) (by assumption) ?_ ?_
        rotate_left
        · intro W hSw; (try dsimp only at hSw); go_simp; try with_reducible rfl
        simp only [Act.put, List.setIfInBounds_toArray, List.set_cons_zero, List.set_cons_succ]
        refine heldTake 5 (v := ?_) (by simp only [List.getElem?_toArray, List.getElem?_cons_succ, List.getElem?_cons_zero]; rfl) (by kernel_rfl) (by intro _ _ _ h; exact h) (by rfl) (by assumption) ?_ ?_
        rotate_left
        · intro W hSw; (try dsimp only at hSw); go_simp; try with_reducible rfl
        simp only [Act.put, List.setIfInBounds_toArray, List.set_cons_zero, List.set_cons_succ]
        refine heldTake 6 (v := ?_) (by simp only [List.getElem?_toArray, List.getElem?_cons_succ, List.getElem?_cons_zero]; rfl) (by kernel_rfl) (by intro _ _ _ h; exact h) (by rfl) (by assumption) ?_ ?_
        rotate_left
        · intro W hSw; (try dsimp only at hSw); go_simp; try with_reducible rfl
        simp only [Act.put, List.setIfInBounds_toArray, List.set_cons_zero, List.set_cons_succ]
        refine heldTake 7 (v := ?_) (by simp only [List.getElem?_toArray, List.getElem?_cons_succ, List.getElem?_cons_zero]; rfl) (by kernel_rfl) (by intro _ _ _ h; exact h) (by rfl) (by assumption) ?_ ?_
        rotate_left
        · intro W hSw; (try dsimp only at hSw); go_simp; try with_reducible rfl
        simp only [Act.put, List.setIfInBounds_toArray, List.set_cons_zero, List.set_cons_succ]
        refine heldTake 8 (v := ?_) (by simp only [List.getElem?_toArray, List.getElem?_cons_succ, List.getElem?_cons_zero]; rfl) (by kernel_rfl) (by intro _ _ _ h; exact h) (by rfl) (by assumption) ?_ ?_
        rotate_left
        · intro W hSw; (try dsimp only at hSw); go_simp; try with_reducible rfl
        simp only [Act.put, List.setIfInBounds_toArray, List.set_cons_zero, List.set_cons_succ]
        refine heldTake 9 (v := ?_) (by simp only [List.getElem?_toArray, List.getElem?_cons_succ, List.getElem?_cons_zero]; rfl) (by kernel_rfl) (by intro _ _ _ h; exact h) (by rfl) (by assumption) ?_ ?_
        rotate_left
        · intro W hSw; (try dsimp only at hSw); go_simp; try with_reducible rfl
        simp only [Act.put, List.setIfInBounds_toArray, List.set_cons_zero, List.set_cons_succ]
        refine heldTake 10 (v := ?_) (by simp only [List.getElem?_toArray, List.getElem?_cons_succ, List.getElem?_cons_zero]; rfl) (by kernel_rfl) (by intro _ _ _ h; exact h) (by rfl) (by assumption) ?_ ?_
        rotate_left
        · intro W hSw; (try dsimp only at hSw); go_simp; try with_reducible rfl
        simp only [Act.put, List.setIfInBounds_toArray, List.set_cons_zero, List.set_cons_succ]
        refine heldTake 11 (v := ?_) (by simp only [List.getElem?_toArray, List.getElem?_cons_succ, List.getElem?_cons_zero]; rfl) (by kernel_rfl) (by intro _ _ _ h; exact h) (by rfl) (by assumption) ?_ ?_
        rotate_left
        · intro W hSw; (try dsimp only at hSw); go_simp; try with_reducible rfl
        simp only [Act.put, List.setIfInBounds_toArray, List.set_cons_zero, List.set_cons_succ]
        refine heldTake 12 (v := ?_) (by simp only [List.getElem?_toArray, List.getElem?_cons_succ, List.getElem?_cons_zero]; rfl) (by kernel_rfl) (by intro _ _ _ h; exact h) (by rfl) (by assumption) ?_ ?_
        rotate_left
        · intro W hSw; (try dsimp only at hSw); go_simp; try with_reducible rfl
        simp only [Act.put, List.setIfInBounds_toArray, List.set_cons_zero, List.set_cons_succ]
        refine heldCall 13 (by simp only [List.getElem?_toArray, List.getElem?_cons_succ, List.getElem?_cons_zero]; rfl) (by kernel_rfl) (fun K hK => ?_)
        go_simp
        refine hK.out _ _ ?_ (fun hHeld => ?_)
        · exact ⟨(Below.cell (p := ⟨m0, 0, none⟩) (by first | exact hKe | exact hKe.alloc hKe.size _) hml4).trans x0, (Below.cell (p := ⟨m0, 1, none⟩) (by first | exact hKe | exact hKe.alloc hKe.size _) hml4).trans x1, (Below.cell (p := ⟨m0, 2, none⟩) (by first | exact hKe | exact hKe.alloc hKe.size _) hml4).trans x2⟩
        clear hK K
        (try simp only [Act.put, List.setIfInBounds_toArray, List.set_cons_zero, List.set_cons_succ])
        refine heldTake 14 (v := ?_) (by simp only [List.getElem?_toArray, List.getElem?_cons_succ, List.getElem?_cons_zero]; rfl) (by kernel_rfl) (by intro _ _ _ h; exact h) (by rfl) (by assumption) ?_ ?_
        rotate_left
        · intro W hSw; (try dsimp only at hSw); go_simp; try with_reducible rfl
        simp only [Act.put, List.setIfInBounds_toArray, List.set_cons_zero, List.set_cons_succ]
        refine heldDone (by kernel_rfl) ?_ _
        have HBO := Lib.hid (HFOUR.out HGB.out)
        clear hKe hHeld x0 x1 x2 hml4 HFOUR HD1 HM1 HAP1 HF1 HGB Q
        go_wp2_with fail
        generalize (w4.alloc (.cells #[.int .i64 hf, .slice Am s1.2.length cm, .int .i64 s1.1] 39)).drew = W2 at *
        generalize w4.heap.size = mb at *
        go_loopg [16] l.length (fun rest i wr => ∃ (k : Nat), i = .int .i64 k ∧ Hid (k + rest = l.length) ∧ Hid (Four wr w.heap.size c0 m0 cb mb hf s1 (copiesS hf s1 (l.take k))) ∧ Hid (Below w.heap.size w wr))
        case atStart => exact ⟨0, rfl, Lib.hid (by simp), Lib.hid (by rw [List.take_zero]; exact HBO.out), HBW⟩
        case round =>
          clear HBO HBW
          obtain ⟨k, rfl, HK, HO, HB⟩ := hrel
          by_cases hk' : (k : Int) < (l.length : Int)
          · have hkl : k < l.length := by omega
            obtain ⟨b, o, rfl, hbl, e0, e1, e2, e3, e4⟩ := (HL.out.below HB.out).one hkl
            have HKT := Lib.hid (copiesS_take hf s1 l hkl)
            have hso := stOk_copies (hf := hf) (l.take k) HSO0.out
            have hkk : (l.take k).length ≤ l.length := List.length_take_le' _ _
            have hsz := HKS.out _ (List.getElem_mem hkl)
            have hdk := HDS.out _ (List.getElem_mem hkl)
            generalize l[k] = d at *
            generalize copiesS hf s1 (l.take k) = st at *
            obtain ⟨kind, a, nw⟩ := d
            obtain ⟨hd1, hd2, hd3, hd4, hd5⟩ := hdk
            simp only at hd1 hd2 hd3 hd4 hd5 hsz e0 e1 e2 e3 e4
            obtain ⟨cnt, L⟩ := st
            have hso1 := hso.1
            have hso2 : (L.length : Int) ≤ 1000 := by have := hso.2.1; simp only at this; omega
            have hso3 : 0 ≤ cnt ∧ cnt < 1048576 := by have := hso.2.2; simp only at this; omega
            have HS1 := Lib.hid hso1
            clear hso hso1 hkk
            have hnow : nw ≤ 9223372036854775807 := hd5.2
            obtain ⟨F, G, hD, hM, hap, hF, hG, hX⟩ := HO.out
            obtain ⟨Wa, hWa⟩ : ∃ Wa, Wa = wr.alloc (.cells #[.string a.key, .int .i64 a.at_, .int .i64 a.n] 30) := ⟨_, rfl⟩
            have hba : Below wr.heap.size wr Wa := by rw [hWa]; exact (Below.refl _ _).alloc (Nat.le_refl _) _
            have e0a : (wr.alloc (.cells #[.string a.key, .int .i64 a.at_, .int .i64 a.n] 30)).cell? ⟨b, o + k * 5, none⟩ = some (.int .u8 kind) := by rw [← hWa]; exact (hba.cell (p := ⟨b, o + k * 5, none⟩) (Nat.lt_of_lt_of_le hbl HB.out.size)).trans e0
            have b0 : Wa.cell? ⟨wr.heap.size, 0, none⟩ = some (.string a.key) := by rw [hWa]; simp
            have b1 : Wa.cell? ⟨wr.heap.size, 1, none⟩ = some (.int .i64 a.at_) := by rw [hWa]; simp
            have b2 : Wa.cell? ⟨wr.heap.size, 2, none⟩ = some (.int .i64 a.n) := by rw [hWa]; simp
            have hab : wr.heap.size < Wa.drew.heap.size := by rw [hWa]; simp
            have hbd : Below wr.heap.size wr Wa.drew := hba.drew
            have HD : Hid (DecObj Wa.drew cb F hf cnt L) := Lib.hid (hD.below hbd)
            have HM : Hid (RcO Wa.drew mb G hf cnt L) := Lib.hid (hM.below hbd)
            have HX : Hid (Rest Wa.drew w.heap.size c0 m0 hf s1 F G mb) := Lib.hid (hX.below hbd)
            clear hX
            have HNF : Hid (¬ F wr.heap.size) := Lib.hid (fun h => absurd ((DecObj.own cb hf cnt L).lt hD _ h) (Nat.lt_irrefl _))
            have hgm : G mb := by obtain ⟨A, c, h, rfl⟩ := hM; exact .inl rfl
            have HNM : Hid (¬ wr.heap.size = mb) := Lib.hid (fun h => absurd ((RcO.own mb hf cnt L).lt hM _ hgm) (by omega))
            have HGM : Hid (w.heap.size ≤ mb) := Lib.hid (hG mb hgm)
            have HAP := Lib.hid hap
            have HF := Lib.hid hF
            have HG := Lib.hid hG
            have HZD : Hid (w.heap.size ≤ Wa.drew.heap.size) := Lib.hid (Nat.le_trans HB.out.size hbd.size)
            have HBD : Hid (Below w.heap.size w Wa.drew) := Lib.hid (HB.out.trans (hbd.mono HB.out.size))
            have HBD2 := Lib.hid hbd
            have HBA := Lib.hid hba
            clear hD hM hap hF hG hgm hba hbd
            by_cases hkd : kind = 4
            · subst hkd
              clear hd1
              have hds : copyS hf (cnt, L) ⟨4, a, nw⟩ = (cnt, L.filter (hk (nw - 21 * hf))) := by simp [copyS]
              have HDS2 := Lib.hid hds
              clear hds
              go_wp2_with fail
              rw [← hWa]
              clear hWa b0 b1 b2
              have hbw : b < Wa.drew.heap.size := Nat.lt_of_lt_of_le hbl HZD.out
              have HQ : Wa.drew.cell? ⟨b, o + k * 5 + 4, none⟩ = some (.int .i64 nw) := (HBD2.out.cell (p := ⟨b, o + k * 5 + 4, none⟩) (Nat.lt_of_lt_of_le hbl HB.out.size)).trans e4
              refine heldStart 15 (S := fun W => W.cell? ⟨b, o + k * 5 + 4, none⟩ = some (.int .i64 nw)) (by kernel_rfl) ?_ (fun hHeld => ?_)
              · exact HQ
              refine heldTake 0 (v := ?_) (by simp only [List.getElem?_toArray, List.getElem?_cons_succ, List.getElem?_cons_zero]; rfl) (by kernel_rfl) (by intro _ _ _ h; exact h) (by rfl) (by assumption) ?_ ?_
              rotate_left
              · intro W hSw; (try dsimp only at hSw); go_simp; try with_reducible rfl
              simp only [Act.put, List.setIfInBounds_toArray, List.set_cons_zero, List.set_cons_succ]
              refine heldTake 1 (v := ?_) (by simp only [List.getElem?_toArray, List.getElem?_cons_succ, List.getElem?_cons_zero]; rfl) (by kernel_rfl) (by intro _ _ _ h; exact h) (by rfl) (by assumption) ?_ ?_
              rotate_left
              · intro W hSw; (try dsimp only at hSw); go_simp; try with_reducible rfl
              simp only [Act.put, List.setIfInBounds_toArray, List.set_cons_zero, List.set_cons_succ]
              refine heldTake 2 (v := ?_) (by simp only [List.getElem?_toArray, List.getElem?_cons_succ, List.getElem?_cons_zero]; rfl) (by kernel_rfl) (by intro _ _ _ h; exact h) (by rfl) (by assumption) ?_ ?_
              rotate_left
              · intro W hSw; (try dsimp only at hSw); go_simp; try with_reducible rfl
              simp only [Act.put, List.setIfInBounds_toArray, List.set_cons_zero, List.set_cons_succ]
              refine heldTake 3 (v := ?_) (by simp only [List.getElem?_toArray, List.getElem?_cons_succ, List.getElem?_cons_zero]; rfl) (by kernel_rfl) (by intro _ _ _ h; exact h) (by rfl) (by assumption) ?_ ?_
              rotate_left
              · intro W hSw; (try dsimp only at hSw); go_simp; try with_reducible rfl
              simp only [Act.put, List.setIfInBounds_toArray, List.set_cons_zero, List.set_cons_succ]
              refine heldTake 4 (v := ?_) (by simp only [List.getElem?_toArray, List.getElem?_cons_succ, List.getElem?_cons_zero]; rfl) (by kernel_rfl) (by intro _ _ _ h; exact h) (by rfl) (by assumption) ?_ ?_
              rotate_left
              · intro W hSw; (try dsimp only at hSw); go_simp; try with_reducible rfl
              simp only [Act.put, List.setIfInBounds_toArray, List.set_cons_zero, List.set_cons_succ]
              refine heldTake 5 (v := ?_) (by simp only [List.getElem?_toArray, List.getElem?_cons_succ, List.getElem?_cons_zero]; rfl) (by kernel_rfl) (by intro _ _ _ h; exact h) (by rfl) (by assumption) ?_ ?_
              rotate_left
              · intro W hSw; (try dsimp only at hSw); go_simp; try with_reducible rfl
              simp only [Act.put, List.setIfInBounds_toArray, List.set_cons_zero, List.set_cons_succ]
              refine heldTake 7 (v := ?_) (by simp only [List.getElem?_toArray, List.getElem?_cons_succ, List.getElem?_cons_zero]; rfl) (by kernel_rfl) (by intro _ _ _ h; exact h) (by rfl) (by assumption) ?_ ?_
              rotate_left
              · intro W hSw; (try dsimp only at hSw); go_simp; try with_reducible rfl
              simp only [Act.put, List.setIfInBounds_toArray, List.set_cons_zero, List.set_cons_succ]
              refine heldTake 8 (v := ?_) (by simp only [List.getElem?_toArray, List.getElem?_cons_succ, List.getElem?_cons_zero]; rfl) (by kernel_rfl) (by intro _ _ _ h; exact h) (by rfl) (by assumption) ?_ ?_
              rotate_left
              · intro W hSw; (try dsimp only at hSw); go_simp; try with_reducible rfl
              simp only [Act.put, List.setIfInBounds_toArray, List.set_cons_zero, List.set_cons_succ]
              refine heldTake 9 (v := ?_) (by simp only [List.getElem?_toArray, List.getElem?_cons_succ, List.getElem?_cons_zero]; rfl) (by kernel_rfl) (by intro _ _ _ h; exact h) (by rfl) (by assumption) ?_ ?_
              rotate_left
              · intro W hSw; (try dsimp only at hSw); go_simp; try with_reducible rfl
              simp only [Act.put, List.setIfInBounds_toArray, List.set_cons_zero, List.set_cons_succ]
              refine heldTake 10 (v := ?_) (by simp only [List.getElem?_toArray, List.getElem?_cons_succ, List.getElem?_cons_zero]; rfl) (by kernel_rfl) (by intro _ _ _ h; exact h) (by rfl) (by assumption) ?_ ?_
              rotate_left
              · intro W hSw; (try dsimp only at hSw); go_simp; try with_reducible rfl
              simp only [Act.put, List.setIfInBounds_toArray, List.set_cons_zero, List.set_cons_succ]
              refine heldTake 11 (v := ?_) (by simp only [List.getElem?_toArray, List.getElem?_cons_succ, List.getElem?_cons_zero]; rfl) (by kernel_rfl) (by intro _ _ _ h; exact h) (by rfl) (by assumption) ?_ ?_
              rotate_left
              · intro W hSw; (try dsimp only at hSw); go_simp; try with_reducible rfl
              simp only [Act.put, List.setIfInBounds_toArray, List.set_cons_zero, List.set_cons_succ]
              refine heldTake 12 (v := ?_) (by simp only [List.getElem?_toArray, List.getElem?_cons_succ, List.getElem?_cons_zero]; rfl) (by kernel_rfl) (by intro _ _ _ h; exact h) (by rfl) (by assumption) ?_ ?_
              rotate_left
              · intro W hSw; (try dsimp only at hSw); go_simp; try with_reducible rfl
              simp only [Act.put, List.setIfInBounds_toArray, List.set_cons_zero, List.set_cons_succ]
              refine heldCall 6 (by simp only [List.getElem?_toArray, List.getElem?_cons_succ, List.getElem?_cons_zero]; rfl) (by kernel_rfl) (fun K hK => ?_)
              go_simp
              refine (dtrim2_any cb F hf cnt L nw _ HD.out hnow (by omega)).mono ?_
              rintro r w5 ⟨rfl, F5, hD5, hu5⟩
              have HQ5 : w5.cell? ⟨b, o + k * 5 + 4, none⟩ = some (.int .i64 nw) := (hu5.keeps.cell (p := ⟨b, o + k * 5 + 4, none⟩) hbw (fun h => by have := HF.out _ h; simp at this; omega)).trans HQ
              clear HQ
              have HQ := HQ5
              clear HQ5
              have hbw5 : b < w5.heap.size := Nat.lt_of_lt_of_le hbw hu5.keeps.size
              have HM5 := Lib.hid (HM.out.frameU hu5 HAP.out)
              have HD5 := Lib.hid hD5
              have HU5 := Lib.hid hu5
              clear hD5 hu5
              go_wp2_with fail
              refine hK.out _ _ ?_ (fun hHeld => ?_)
              · exact HQ
              clear hK K
              (try simp only [Act.put, List.setIfInBounds_toArray, List.set_cons_zero, List.set_cons_succ])
              refine heldCall 13 (by simp only [List.getElem?_toArray, List.getElem?_cons_succ, List.getElem?_cons_zero]; rfl) (by kernel_rfl) (fun K hK => ?_)
              go_simp
              refine (rtrim11_any mb G hf cnt L nw _ HM5.out HS1.out hso2 hh1 hh2 hnow).mono ?_
              rintro r w6 ⟨rfl, G6, hM6, hk6, hg6⟩
              have HQ5 : w6.cell? ⟨b, o + k * 5 + 4, none⟩ = some (.int .i64 nw) := (hk6.cell (p := ⟨b, o + k * 5 + 4, none⟩) hbw5 (fun h => by have := HGM.out; have h' : b = mb := h; omega)).trans HQ
              clear HQ
              have HQ := HQ5
              clear HQ5
              have hfin := four_upd HX.out HZD.out HF.out HG.out HAP.out HM.out HD5.out HU5.out hM6 hk6 hg6
              have HFN := Lib.hid hfin
              clear hfin hM6 hk6 hg6
              go_wp2_with fail
              refine hK.out _ _ ?_ (fun hHeld => ?_)
              · exact HQ
              clear hK K
              (try simp only [Act.put, List.setIfInBounds_toArray, List.set_cons_zero, List.set_cons_succ])
              refine heldTake 14 (v := ?_) (by simp only [List.getElem?_toArray, List.getElem?_cons_succ, List.getElem?_cons_zero]; rfl) (by kernel_rfl) (by intro _ _ _ h; exact h) (by rfl) (by assumption) ?_ ?_
              rotate_left
              · intro W hSw; (try dsimp only at hSw); go_simp; try with_reducible rfl
              simp only [Act.put, List.setIfInBounds_toArray, List.set_cons_zero, List.set_cons_succ]
              refine heldDone (by kernel_rfl) ?_ _
              have HB6 : Hid (Below w.heap.size w w6) := Lib.hid (HBD.out.trans HFN.out.2)
              have HO6 : Hid (Four w6 w.heap.size c0 m0 cb mb hf s1 (copiesS hf s1 (l.take (k + 1)))) := Lib.hid (by rw [HKT.out, HDS2.out]; exact HFN.out.1)
              clear HFN HQ HKT HDS2 HM5 HD5 HU5
              generalize goneN (nw - 21 * hf) [] L = gq at *
              go_wp2
              go_roundg (gk - 1)
              case measure => have := HK.out; omega
              case rel => exact ⟨k + 1, by go_num, Lib.hid (by have := HK.out; omega), HO6, HB6⟩
            · have j4 : (kind == 4) = false := by simpa using hkd
              have hds : copyS hf (cnt, L) ⟨kind, a, nw⟩ = (if addOk a = true then cnt + 1 else cnt, L ++ [a].filter addOk) := by unfold copyS; rw [if_neg (show ¬ kind = 4 from hkd)]
              have HDS2 := Lib.hid hds
              clear hds
              go_wp2_with fail
              rw [← hWa]
              clear hWa
              have HQ : Wa.drew.cell? ⟨wr.heap.size, 0, none⟩ = some (.string a.key) ∧ Wa.drew.cell? ⟨wr.heap.size, 1, none⟩ = some (.int .i64 a.at_) ∧ Wa.drew.cell? ⟨wr.heap.size, 2, none⟩ = some (.int .i64 a.n) := ⟨b0, b1, b2⟩
              clear b0 b1 b2
              refine heldStart 11 (S := fun W => W.cell? ⟨wr.heap.size, 0, none⟩ = some (.string a.key) ∧ W.cell? ⟨wr.heap.size, 1, none⟩ = some (.int .i64 a.at_) ∧ W.cell? ⟨wr.heap.size, 2, none⟩ = some (.int .i64 a.n)) (by kernel_rfl) ?_ (fun hHeld => ?_)
              · exact HQ
              refine heldTake 0 (v := ?_) (by simp only [List.getElem?_toArray, List.getElem?_cons_succ, List.getElem?_cons_zero]; rfl) (by kernel_rfl) (by intro _ _ _ h; exact h) (by rfl) (by assumption) ?_ ?_
              rotate_left
              · intro W hSw; (try dsimp only at hSw); go_simp; try with_reducible rfl
              simp only [Act.put, List.setIfInBounds_toArray, List.set_cons_zero, List.set_cons_succ]
              refine heldTake 1 (v := ?_) (by simp only [List.getElem?_toArray, List.getElem?_cons_succ, List.getElem?_cons_zero]; rfl) (by kernel_rfl) (by intro _ _ _ h; exact h) (by rfl) (by assumption) ?_ ?_
              rotate_left
              · intro W hSw; (try dsimp only at hSw); go_simp; try with_reducible rfl
              simp only [Act.put, List.setIfInBounds_toArray, List.set_cons_zero, List.set_cons_succ]
              refine heldTake 2 (v := ?_) (by simp only [List.getElem?_toArray, List.getElem?_cons_succ, List.getElem?_cons_zero]; rfl) (by kernel_rfl) (by intro _ _ _ h; exact h) (by rfl) (by assumption) ?_ ?_
              rotate_left
              · intro W hSw; (try dsimp only at hSw); go_simp; try with_reducible rfl
              simp only [Act.put, List.setIfInBounds_toArray, List.set_cons_zero, List.set_cons_succ]
              refine heldTake 3 (v := ?_) (by simp only [List.getElem?_toArray, List.getElem?_cons_succ, List.getElem?_cons_zero]; rfl) (by kernel_rfl) (by intro _ _ _ h; exact h) (by rfl) (by assumption) ?_ ?_
              rotate_left
              · intro W hSw; (try dsimp only at hSw); go_simp; try with_reducible rfl
              simp only [Act.put, List.setIfInBounds_toArray, List.set_cons_zero, List.set_cons_succ]
              refine heldTake 4 (v := ?_) (by simp only [List.getElem?_toArray, List.getElem?_cons_succ, List.getElem?_cons_zero]; rfl) (by kernel_rfl) (by intro _ _ _ h; exact h) (by rfl) (by assumption) ?_ ?_
              rotate_left
              · intro W hSw; (try dsimp only at hSw); go_simp; try with_reducible rfl
              simp only [Act.put, List.setIfInBounds_toArray, List.set_cons_zero, List.set_cons_succ]
              refine heldTake 5 (v := ?_) (by simp only [List.getElem?_toArray, List.getElem?_cons_succ, List.getElem?_cons_zero]; rfl) (by kernel_rfl) (by intro _ _ _ h; exact h) (by rfl) (by assumption) ?_ ?_
              rotate_left
              · intro W hSw; (try dsimp only at hSw); go_simp; try with_reducible rfl
              simp only [Act.put, List.setIfInBounds_toArray, List.set_cons_zero, List.set_cons_succ]
              refine heldTake 6 (v := ?_) (by simp only [List.getElem?_toArray, List.getElem?_cons_succ, List.getElem?_cons_zero]; rfl) (by kernel_rfl) (by intro _ _ _ h; exact h) (by rfl) (by assumption) ?_ ?_
              rotate_left
              · intro W hSw; (try dsimp only at hSw); go_simp; try with_reducible rfl
              simp only [Act.put, List.setIfInBounds_toArray, List.set_cons_zero, List.set_cons_succ]
              refine heldTake 8 (v := ?_) (by simp only [List.getElem?_toArray, List.getElem?_cons_succ, List.getElem?_cons_zero]; rfl) (by kernel_rfl) (by intro _ _ _ h; exact h) (by rfl) (by assumption) ?_ ?_
              rotate_left
              · intro W hSw; (try dsimp only at hSw); go_simp; try with_reducible rfl
              simp only [Act.put, List.setIfInBounds_toArray, List.set_cons_zero, List.set_cons_succ]
              refine heldTake 9 (v := ?_) (by simp only [List.getElem?_toArray, List.getElem?_cons_succ, List.getElem?_cons_zero]; rfl) (by kernel_rfl) (by intro _ _ _ h; exact h) (by rfl) (by assumption) ?_ ?_
              rotate_left
              · intro W hSw; (try dsimp only at hSw); go_simp; try with_reducible rfl
              simp only [Act.put, List.setIfInBounds_toArray, List.set_cons_zero, List.set_cons_succ]
              refine heldCall 7 (by simp only [List.getElem?_toArray, List.getElem?_cons_succ, List.getElem?_cons_zero]; rfl) (by kernel_rfl) (fun K hK => ?_)
              go_simp
              refine (dadd2_any cb F hf cnt L a _ HD.out (by omega)).mono ?_
              rintro r w5 ⟨rfl, F5, hD5, hu5⟩
              have HQ5 : w5.cell? ⟨wr.heap.size, 0, none⟩ = some (.string a.key) ∧ w5.cell? ⟨wr.heap.size, 1, none⟩ = some (.int .i64 a.at_) ∧ w5.cell? ⟨wr.heap.size, 2, none⟩ = some (.int .i64 a.n) := ⟨(hu5.keeps.cell (p := ⟨wr.heap.size, 0, none⟩) hab HNF.out).trans HQ.1, (hu5.keeps.cell (p := ⟨wr.heap.size, 1, none⟩) hab HNF.out).trans HQ.2.1, (hu5.keeps.cell (p := ⟨wr.heap.size, 2, none⟩) hab HNF.out).trans HQ.2.2⟩
              clear HQ
              have HQ := HQ5
              clear HQ5
              have hab5 : wr.heap.size < w5.heap.size := Nat.lt_of_lt_of_le hab hu5.keeps.size
              have HM5 := Lib.hid (HM.out.frameU hu5 HAP.out)
              have HD5 := Lib.hid hD5
              have HU5 := Lib.hid hu5
              clear hD5 hu5
              go_wp2_with fail
              refine hK.out _ _ ?_ (fun hHeld => ?_)
              · exact HQ
              clear hK K
              (try simp only [Act.put, List.setIfInBounds_toArray, List.set_cons_zero, List.set_cons_succ])
              refine heldCall 10 (by simp only [List.getElem?_toArray, List.getElem?_cons_succ, List.getElem?_cons_zero]; rfl) (by kernel_rfl) (fun K hK => ?_)
              go_simp
              refine (rput11_any mb G hf cnt L a _ HM5.out (by omega) (by omega) (by omega) (by omega)).mono ?_
              rintro r w6 ⟨rfl, G6, hM6, hk6, hg6⟩
              have HQ5 : w6.cell? ⟨wr.heap.size, 0, none⟩ = some (.string a.key) ∧ w6.cell? ⟨wr.heap.size, 1, none⟩ = some (.int .i64 a.at_) ∧ w6.cell? ⟨wr.heap.size, 2, none⟩ = some (.int .i64 a.n) := ⟨(hk6.cell (p := ⟨wr.heap.size, 0, none⟩) hab5 HNM.out).trans HQ.1, (hk6.cell (p := ⟨wr.heap.size, 1, none⟩) hab5 HNM.out).trans HQ.2.1, (hk6.cell (p := ⟨wr.heap.size, 2, none⟩) hab5 HNM.out).trans HQ.2.2⟩
              clear HQ
              have HQ := HQ5
              clear HQ5
              have hfin := four_upd HX.out HZD.out HF.out HG.out HAP.out HM.out HD5.out HU5.out hM6 hk6 hg6
              have HFN := Lib.hid hfin
              clear hfin hM6 hk6 hg6
              generalize addOk a = bb at *
              go_wp2_with fail
              refine hK.out _ _ ?_ (fun hHeld => ?_)
              · exact HQ
              clear hK K
              (try simp only [Act.put, List.setIfInBounds_toArray, List.set_cons_zero, List.set_cons_succ])
              refine heldTake 11 (v := ?_) (by simp only [List.getElem?_toArray, List.getElem?_cons_succ, List.getElem?_cons_zero]; rfl) (by kernel_rfl) (by intro _ _ _ h; exact h) (by rfl) (by assumption) ?_ ?_
              rotate_left
              · intro W hSw; (try dsimp only at hSw); go_simp; try with_reducible rfl
              simp only [Act.put, List.setIfInBounds_toArray, List.set_cons_zero, List.set_cons_succ]
              refine heldDone (by kernel_rfl) ?_ _
              have HB6 : Hid (Below w.heap.size w w6) := Lib.hid (HBD.out.trans HFN.out.2)
              have HO6 : Hid (Four w6 w.heap.size c0 m0 cb mb hf s1 (copiesS hf s1 (l.take (k + 1)))) := Lib.hid (by rw [HKT.out, HDS2.out]; exact HFN.out.1)
              clear HFN HQ HKT HDS2 HM5 HD5 HU5
              go_wp2
              go_roundg (gk - 1)
              case measure => have := HK.out; omega
              case rel => exact ⟨k + 1, by go_num, Lib.hid (by have := HK.out; omega), HO6, HB6⟩
          · have hall : l.take k = l := List.take_of_length_le (by omega)
            have hO := HO.out
            rw [hall] at hO
            have hso := stOk_copies (hf := hf) l HSO0.out
            generalize copiesS hf s1 l = st at *
            obtain ⟨F, Gn, hD, hM, hap, hF, hG, F1, G1, hC, hR, a1, a2, a3, a4, a5⟩ := hO
            have HSO := Lib.hid hso
            have hl1 : (st.2.length : Int) ≤ 1000 := by have := hso.2.1; omega
            have hl2 : 0 ≤ st.1 ∧ st.1 ≤ 100 := by have := hso.2.2; omega
            have q := even11_any c0 m0 F1 G1 hf s1.1 s1.1 s1.2 s1.2 key now 9 wr hC hR (fun _ => rfl) HSO0.out.1 (by omega) (by omega) hh2 HKY.out hn1 (by omega)
            have Q := Lib.hid q
            have HD := Lib.hid hD
            have HM := Lib.hid hM
            have HC := Lib.hid hC
            have A1 := Lib.hid a1
            have A3 := Lib.hid a3
            have A5 := Lib.hid a5
            clear q hD hM hC hR hap hF hG a1 a2 a3 a4 a5 hso HO hall
            go_wp2_with fail
            refine Q.out.mono ?_
            rintro e v1 ⟨rfl, hv1⟩
            have HV1 := Lib.hid hv1
            have q2 := even11_any cb mb F Gn hf st.1 st.1 st.2 st.2 key now 9 v1 (HD.out.below hv1) (HM.out.below hv1) (fun _ => rfl) HSO.out.1 hl1 hl1 hh2 HKY.out hn1 (by omega)
            have Q2 := Lib.hid q2
            clear q2 hv1 Q
            go_wp2_with fail
            refine Q2.out.mono ?_
            rintro e v2 ⟨rfl, hv2⟩
            have hV2 : Below wr.heap.size wr v2 := HV1.out.trans (hv2.mono HV1.out.size)
            have HV2 : Hid (Below w.heap.size w v2) := Lib.hid (HB.out.trans (hV2.mono HB.out.size))
            have HD2 := Lib.hid (HD.out.below hV2)
            have HM2 := Lib.hid (HM.out.below hV2)
            have HC2 := Lib.hid (HC.out.below hV2)
            clear hv2 hV2 HV1 Q2 HD HM HC
            go_wp2_with fail
            refine (dadd2_any c0 F1 hf s1.1 s1.2 ⟨keyOther, 0, 5⟩ _ HC2.out (by omega)).mono ?_
            rintro e v3 ⟨rfl, F5, hC3, hu3⟩
            obtain ⟨hD3, b1⟩ := (DecObj.own cb hf st.1 st.2).frame hu3 HD2.out A1.out.symm
            obtain ⟨hM3, b3⟩ := (RcO.own mb hf st.1 st.2).frame hu3 HM2.out A3.out.symm
            have HV3 : Hid (Below w.heap.size w v3) := Lib.hid (HV2.out.trans (hu3.keeps.toBelow HV2.out.size A5.out))
            have HF5 := Lib.hid (hu3.base HV2.out.size A5.out)
            have hcc : (if addOk ⟨keyOther, 0, 5⟩ = true then s1.1 + 1 else s1.1) ≤ 100 := by split <;> omega
            have q3 := dmerge_o c0 cb F5 F hf _ st.1 _ st.2 v3 hC3 hD3 b1 (by omega)
            have Q3 := Lib.hid q3
            have HD3 := Lib.hid hD3
            have HM3 := Lib.hid hM3
            have B1 := Lib.hid b1
            have B3 := Lib.hid b3
            clear q3 hC3 hD3 hM3 hu3 b1 b3 hcc HD2 HM2 HC2
            generalize addOk ⟨keyOther, 0, 5⟩ = bb at *
            go_wp2_with fail
            refine Q3.out.mono ?_
            rintro e v4 ⟨rfl, F6, hC4, hu4⟩
            obtain ⟨hD4, -⟩ := (DecObj.own cb hf st.1 st.2).frame hu4 HD3.out B1.out
            obtain ⟨hM4, -⟩ := (RcO.own mb hf st.1 st.2).frame hu4 HM3.out B3.out
            have HV4 : Hid (Below w.heap.size w v4) := Lib.hid (HV3.out.trans (hu4.keeps.toBelow HV3.out.size HF5.out))
            have q4 := even11_any cb mb F Gn hf st.1 st.1 st.2 st.2 key now 9 v4 hD4 hM4 (fun _ => rfl) HSO.out.1 hl1 hl1 hh2 HKY.out hn1 (by omega)
            have Q4 := Lib.hid q4
            clear q4 hC4 hu4 hD4 hM4 Q3
            go_wp2_with fail
            refine Q4.out.mono ?_
            rintro e v5 ⟨rfl, hv5⟩
            have HV5 : Hid (Below w.heap.size w v5) := Lib.hid (HV4.out.trans (hv5.mono HV4.out.size))
            clear hv5
            go_wp2
            go_ret
            exact ⟨rfl, HV5.out⟩
end Go.Proofs.Ytgahopkbgefjdaa
