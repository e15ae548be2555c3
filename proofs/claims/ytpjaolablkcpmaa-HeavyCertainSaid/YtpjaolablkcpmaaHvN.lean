/- Contract of the reference's Sure (ciceroneref14). -/
import Derived.Test.YtpjaolablkcpmaaHvS
import Derived.Test.YtpjaolablkcpmaaHvF
namespace Go.Proofs.Ytpjaolablkcpmaa
open Go.ChangeShapes Go.WideShapes Go.ChangeAt Go.RowKit Go.Shelf Go.Lib Go.Sort Go.Proofs
set_option linter.unusedVariables false
set_option linter.unusedSimpArgs false

theorem strs_oneN (l : List ByteArray) : ∀ u ∈ l.map Value.string, u.oneCell' = true := by
  intro u hu
  obtain ⟨n, _, rfl⟩ := List.mem_map.1 hu
  rfl
/-- The row, as far as the counters have been looked at. -/
def SureAt (cs : List CntV) (n : Int) (out : List ByteArray) : Prop := out.Pairwise (fun x y => sLt x y = true) ∧ (∀ k, k ∈ out ↔ ∃ x ∈ cs, x.key = k ∧ n ≤ x.n) ∧ out.length ≤ cs.length
theorem SureAt.nil (n : Int) : SureAt [] n [] := ⟨List.Pairwise.nil, by simp, by simp⟩
theorem SureAt.skip {cs : List CntV} {n : Int} {out : List ByteArray} (h : SureAt cs n out) {x : CntV} (hx : x.n < n) : SureAt (cs ++ [x]) n out := by
  refine ⟨h.1, fun k => ?_, by rw [List.length_append]; have := h.2.2; omega⟩
  rw [h.2.1]
  constructor
  · rintro ⟨y, hy, e⟩; exact ⟨y, by simp [hy], e⟩
  · rintro ⟨y, hy, e, hn⟩
    rcases List.mem_append.1 hy with hy | hy
    · exact ⟨y, hy, e, hn⟩
    · simp at hy; subst hy; omega
theorem SureAt.put {cs : List CntV} {n : Int} {out : List ByteArray} (h : SureAt cs n out) {x : CntV} (hx : n ≤ x.n) (hno : ∀ y ∈ cs, y.key ≠ x.key) {m : Nat} (hm : m ≤ out.length) (h1 : ∀ j (hj : j < out.length), j < m → sLt out[j] x.key = true) (h2 : ∀ hj : m < out.length, sLt out[m] x.key = false) : SureAt (cs ++ [x]) n (out.take m ++ [x.key] ++ out.drop m) := by
  have hk : x.key ∉ out := fun hk => by
    obtain ⟨y, hy, e, _⟩ := (h.2.1 _).1 hk
    exact hno y hy e
  have hat : insAt (fun y => sLt y x.key) out = m := insAt_eq _ _ m hm h1 h2
  have hV : out.take m ++ [x.key] ++ out.drop m = insV (fun y => sLt y x.key) x.key out := by unfold insV; rw [hat]
  rw [hV]
  refine ⟨insV_sorted sLt (fun x y z => sLt_trans) _ x.key out h.1 (fun y hy => ⟨fun hp => by simpa using hp, fun hp => ?_⟩), fun k => ?_, ?_⟩
  · have hp' : sLt y x.key = false := by simpa using hp
    cases hc : sLt x.key y with
    | true => rfl
    | false => exact absurd (sLt_total hc hp' ▸ hy) hk
  · rw [(insV_perm _ _ _).mem_iff, List.mem_cons, h.2.1]
    constructor
    · rintro (rfl | ⟨y, hy, e, hn⟩)
      · exact ⟨x, by simp, rfl, hx⟩
      · exact ⟨y, by simp [hy], e, hn⟩
    · rintro ⟨y, hy, e, hn⟩
      rcases List.mem_append.1 hy with hy | hy
      · exact .inr ⟨y, hy, e, hn⟩
      · simp at hy; subst hy; exact .inl e.symm
  · rw [insV_len, List.length_append]
    have := h.2.2
    simp
    omega

/-- What Sure of the reference leaves. -/
def RSureNew (w : World) (S : CntrL) (n : Int) (e : Ending) (w' : World) : Prop :=
  ∃ g c ks, e = .returned (.slice (some ⟨g, 0, none⟩) (List.length ks) c) ∧ SureOf S n ks ∧ w'.ownsRow w.heap.size 9 1 (.slice (some ⟨g, 0, none⟩) ks.length c) ks.length (ks.map Value.string) ∧ Below w.heap.size w w'

set_option maxRecDepth 20000 in
set_option maxHeartbeats 8000000 in
theorem rsure_any {w : World} {xb : Nat} {s : HvS} {A : Option Addr} {c : Nat} {cs : List CntV} (h : RfAt w xb s A c cs) (n : Int) :
    Calls Try.prog 39 #[.pointer (some ⟨xb, 0, none⟩), .int .i64 n] w (RSureNew w s.S n) := by
  have hbd := h.len
  have hat := h.row
  have hkn : (cs.map CntV.key).Nodup := by
    have h1 := h.top.1.map CntV.key
    have h2 := keys_toCnt s.S
    unfold keysC at h2
    rw [h2] at h1
    exact h1.nodup_iff.1 h.inv.nd
  have hfin : ∀ out, SureAt cs n out → SureOf s.S n out := fun out ho => ⟨ho.1, fun k => by
    rw [ho.2.1]
    constructor
    · rintro ⟨x, hx, e, hn⟩
      obtain ⟨p, hp, rfl⟩ := List.mem_map.1 (h.top.1.mem_iff.2 hx)
      exact ⟨p, hp, e, hn⟩
    · rintro ⟨p, hp, e, hn⟩
      exact ⟨hToCnt p, h.top.1.mem_iff.1 (List.mem_map.2 ⟨p, hp, rfl⟩), e, hn⟩⟩
  obtain ⟨⟨c0, c1, c2, c3, c4⟩, -, -, -, -⟩ := five_cells h.blk
  have hxl : xb < w.heap.size := (Array.getElem?_eq_some_iff.1 h.blk).1
  have HAT := Lib.hid hat
  have HKN := Lib.hid hkn
  have HFIN := Lib.hid hfin
  clear hat hkn hfin h c0 c2 c3 c4
  generalize s.S = SS at *
  have ho0 : (w.alloc (.cells #[] 9)).ownsRow w.heap.size 9 1 (.slice (some ⟨w.heap.size, 0, none⟩) 0 0) 0 [] := own_empty (Nat.le_refl _) (heap_alloc_new w _)
  have hb0 : Below w.heap.size w (w.alloc (.cells #[] 9)) := (Below.refl _ _).alloc (Nat.le_refl _) _
  go_enter Try.func39, Try.ntmps39
  go_wp2_with fail
  generalize w.alloc (.cells #[] 9) = W0 at *
  go_loopg [5, 6] cs.length (fun rest s i wr => ∃ (k g : Nat) (cq : Nat) (out : List ByteArray), i = .int .i64 k ∧ Hid (k + rest = cs.length) ∧ s = .slice (some ⟨g, 0, none⟩) out.length cq ∧ Hid (SureAt (cs.take k) n out) ∧
    wr.ownsRow w.heap.size 9 1 (.slice (some ⟨g, 0, none⟩) out.length cq) out.length (out.map Value.string) ∧ Below w.heap.size w wr)
  case atStart => exact ⟨0, _, 0, [], rfl, Lib.hid (by simp), rfl, Lib.hid (SureAt.nil n), ho0, hb0⟩
  case round =>
    clear ho0 hb0
    obtain ⟨k, g, cq, out, rfl, HK, rfl, HO, hown, hb⟩ := hrel
    have hol0 : (out.length : Int) ≤ (k : Int) := by
      have h1 := HO.out.2.2
      have h2 := List.length_take_le k cs
      omega
    have hzr := hb.size
    have hcap := own_capC hown
    have hol : (out.length : Int) ≤ (cq : Int) := by omega
    have d1 := (hb.cell (p := ⟨xb, 1, none⟩) hxl).trans c1
    by_cases hk : (k : Int) < (cs.length : Int)
    · have hkl : k < cs.length := by omega
      obtain ⟨b, o, rfl, hbl, e1, e2⟩ := (HAT.out.below hb).one hkl
      have hkt : cs.take (k + 1) = cs.take k ++ [cs[k]] := List.take_succ_eq_append_getElem hkl
      have hno : ∀ y ∈ cs.take k, y.key ≠ cs[k].key := fun y hy e => by
        have h2 : ((cs.take (k + 1)).map CntV.key).Nodup := HKN.out.sublist ((List.take_sublist _ _).map _)
        rw [hkt, List.map_append, List.nodup_append] at h2
        exact h2.2.2 _ (List.mem_map.2 ⟨y, hy, rfl⟩) _ (by simp) e
      have hskip : (cs[k]).n < n → SureAt (cs.take (k + 1)) n out := fun h => by rw [hkt]; exact HO.out.skip h
      have hput : n ≤ (cs[k]).n → ∀ m, m ≤ out.length → (∀ j (hj : j < out.length), j < m → sLt out[j] (cs[k]).key = true) → (∀ hj : m < out.length, sLt out[m] (cs[k]).key = false) → SureAt (cs.take (k + 1)) n (out.take m ++ [(cs[k]).key] ++ out.drop m) := fun h m h1 h2 h3 => by rw [hkt]; exact HO.out.put h hno h1 h2 h3
      have HSK := Lib.hid hskip
      have HPU := Lib.hid hput
      clear hskip hput hno hkt
      generalize cs[k] = y at *
      obtain ⟨x, yn⟩ := y
      simp only at e1 e2 HSK HPU
      by_cases hy : yn < n
      · have HS2 := Lib.hid (HSK.out hy)
        clear HPU HSK
        go_wp2
        go_roundg (gk - 1)
        case measure => have := HK.out; omega
        case rel => exact ⟨k + 1, g, cq, out, by go_num, Lib.hid (by have := HK.out; omega), rfl, HS2, hown, hb⟩
      · have HP2 := Lib.hid (HPU.out (by omega))
        have hbw : b < wr.heap.size := by omega
        have hxw : xb < wr.heap.size := by omega
        have hcat : Reads wr wr.heap.size 1 (some ⟨g, 0, none⟩) out.length (out.map Value.string) := Reads.of_own hown
        have HCAT := Lib.hid hcat
        have HB2 := Lib.hid hb
        clear HPU HSK hown hcat hcap HO hb
        go_wp2_with fail
        generalize wr = w2 at *
        generalize gk = g2 at *
        go_loopg [7] out.length (fun rest a wx => ∃ m : Nat, a = .int .i64 m ∧ Hid (m + rest = out.length) ∧ Hid (∀ j (hj : j < out.length), j < m → sLt out[j] x = true) ∧ Below w2.heap.size w2 wx)
        case atStart => exact ⟨0, rfl, Lib.hid (by simp), Lib.hid (fun j hj h => by omega), Below.refl _ _⟩
        case round =>
          obtain ⟨m, rfl, HM, HG, hbm⟩ := hrel
          have hz6 := hbm.size
          have x1 := (hbm.cell (p := ⟨xb, 1, none⟩) hxw).trans d1
          have e1r := (hbm.cell (p := ⟨b, o + k * 2, none⟩) hbw).trans e1
          have hmle : m ≤ out.length := by have := HM.out; omega
          have hmlI : (m : Int) ≤ (out.length : Int) := by omega
          by_cases hm : (m : Int) < (out.length : Int)
          · have hml : m < out.length := by omega
            have hdl : decide ((m : Int) < (out.length : Int)) = true := by simpa using hm
            obtain ⟨b', o', e', hbl', f1⟩ := (HCAT.out.below hbm).one hml
            injection e' with e'
            injection e' with e3 e4
            subst e3 e4
            rw [Nat.zero_add] at f1
            have HIF : Hid (sLt out[m] x = false → SureAt (cs.take (k + 1)) n (out.take m ++ [x] ++ out.drop m)) := Lib.hid (fun h => HP2.out m hmle HG.out (fun _ => h))
            have HGO : Hid (sLt out[m] x = true → ∀ j (hj : j < out.length), j < m + 1 → sLt out[j] x = true) := Lib.hid (fun h j hj hjm => by
              by_cases e : j = m
              · subst e; exact h
              · exact HG.out j hj (by omega))
            generalize out[m] = z at *
            have hsl : Op.bytesLess z.toList x.toList = sLt z x := rfl
            have hgl : g < wr.heap.size := by omega
            have hbw6 : b < wr.heap.size := by omega
            have hxw6 : xb < wr.heap.size := by omega
            generalize hcc : sLt z x = cc at *
            clear hcc
            go_wp2_with fail
            go_quiet (fail)
            cases cc with
            | true =>
              have HG2 := Lib.hid (HGO.out rfl)
              clear HIF HGO HG HP2
              go_wp2
              go_roundg (gk - 1)
              case measure => have := HM.out; omega
              case rel => exact ⟨m + 1, by go_num, Lib.hid (by have := HM.out; omega), HG2, below_drewN hbm _⟩
            | false =>
              have HIN := Lib.hid (HIF.out rfl)
              have hbm2 : Below w2.heap.size w2 (wr.drewN nq) := below_drewN hbm _
              clear HIF HGO HG HP2 e1r x1 f1 hbm hz6
              go_wp2_with fail
              generalize wr.drewN nq = w6 at *
              have hbm := hbm2
              clear hbm2
              have hz6 := hbm.size
              have x1 := (hbm.cell (p := ⟨xb, 1, none⟩) hxw).trans d1
              have e1 := (hbm.cell (p := ⟨b, o + k * 2, none⟩) hbw).trans e1
              have hbl6 : b < w6.heap.size := by omega
              have hx6 : xb < w6.heap.size := by omega
              have hrA : Reads w6 w6.heap.size 1 (some ⟨g, 0, none⟩) out.length (out.map Value.string) := Reads.more (HCAT.out.below hbm) hz6
              have hmc : (m : Int) ≤ (cq : Int) := by omega
              have hrO : Reads w6 w6.heap.size 1 (some ⟨g, 0, none⟩) m ((out.take m).map Value.string) := by
                have := hrA.take hmle
                rw [Nat.mul_one, ← List.map_take] at this
                exact this
              refine heldStart 15 (S := fun W => W.cell? ⟨xb, 1, none⟩ = some (.slice (some ⟨b, o, none⟩) cs.length c) ∧ W.cell? ⟨b, o + k * 2, none⟩ = some (.string x)) (by kernel_rfl) ?_ (fun hHeld => ?_)
              · exact ⟨(Below.cell (p := ⟨xb, 1, none⟩) (by repeat (first | exact Below.refl _ _ | exact hB4 | exact hB5 | refine Below.alloc ?_ (by first | (simp; done) | (have := hB4.size; simp; omega) | (have := hB4.size; omega)) _ | refine Below.drew ?_)) hx6).trans x1, (Below.cell (p := ⟨b, o + k * 2, none⟩) (by repeat (first | exact Below.refl _ _ | exact hB4 | exact hB5 | refine Below.alloc ?_ (by first | (simp; done) | (have := hB4.size; simp; omega) | (have := hB4.size; omega)) _ | refine Below.drew ?_)) hbl6).trans e1⟩
              refine heldTake 1 (v := ?_) (by simp only [List.getElem?_toArray, List.getElem?_cons_succ, List.getElem?_cons_zero]; rfl) (by kernel_rfl) (by intro _ _ _ h; exact h) (by rfl) (by assumption) ?_ ?_
              rotate_left
              · intro W hSw; (try dsimp only at hSw); go_simp; try with_reducible rfl
              simp only [Act.put, List.setIfInBounds_toArray, List.set_cons_zero, List.set_cons_succ]
              refine heldTake 2 (v := ?_) (by simp only [List.getElem?_toArray, List.getElem?_cons_succ, List.getElem?_cons_zero]; rfl) (by kernel_rfl) (by intro _ _ _ h; exact h) (by rfl) (by assumption) ?_ ?_
              rotate_left
              · intro W hSw; (try dsimp only at hSw); go_simp; try with_reducible rfl
              simp only [Act.put, List.setIfInBounds_toArray, List.set_cons_zero, List.set_cons_succ]
              refine heldTake 3 (v := ?_) (by simp only [List.getElem?_toArray, List.getElem?_cons_succ, List.getElem?_cons_zero]; rfl) (by kernel_rfl) (by intro _ _ _ h; exact h) (by rfl) (by assumption) ?_ ?_
              rotate_left
              · intro W hSw; (try dsimp only at hSw); go_simp; try with_reducible rfl
              simp only [Act.put, List.setIfInBounds_toArray, List.set_cons_zero, List.set_cons_succ]
              refine heldTake 5 (v := ?_) (by simp only [List.getElem?_toArray, List.getElem?_cons_succ, List.getElem?_cons_zero]; rfl) (by kernel_rfl) (by intro _ _ _ h; exact h) (by rfl) (by assumption) ?_ ?_
              rotate_left
              · intro W hSw; (try dsimp only at hSw); go_simp; try with_reducible rfl
              simp only [Act.put, List.setIfInBounds_toArray, List.set_cons_zero, List.set_cons_succ]
              refine heldTake 6 (v := ?_) (by simp only [List.getElem?_toArray, List.getElem?_cons_succ, List.getElem?_cons_zero]; rfl) (by kernel_rfl) (by intro _ _ _ h; exact h) (by rfl) (by assumption) ?_ ?_
              rotate_left
              · intro W hSw; (try dsimp only at hSw); go_simp; try with_reducible rfl
              simp only [Act.put, List.setIfInBounds_toArray, List.set_cons_zero, List.set_cons_succ]
              refine heldTake 7 (v := ?_) (by simp only [List.getElem?_toArray, List.getElem?_cons_succ, List.getElem?_cons_zero]; rfl) (by kernel_rfl) (by intro _ _ _ h; exact h) (by rfl) (by assumption) ?_ ?_
              rotate_left
              · intro W hSw; (try dsimp only at hSw); go_simp; try with_reducible rfl
              simp only [Act.put, List.setIfInBounds_toArray, List.set_cons_zero, List.set_cons_succ]
              refine heldTake 8 (v := ?_) (by simp only [List.getElem?_toArray, List.getElem?_cons_succ, List.getElem?_cons_zero]; rfl) (by kernel_rfl) (by intro _ _ _ h; exact h) (by rfl) (by assumption) ?_ ?_
              rotate_left
              · intro W hSw; (try dsimp only at hSw); go_simp; try with_reducible rfl
              simp only [Act.put, List.setIfInBounds_toArray, List.set_cons_zero, List.set_cons_succ]
              refine heldTake 9 (v := ?_) (by simp only [List.getElem?_toArray, List.getElem?_cons_succ, List.getElem?_cons_zero]; rfl) (by kernel_rfl) (by intro _ _ _ h; exact h) (by rfl) (by assumption) ?_ ?_
              rotate_left
              · intro W hSw; (try dsimp only at hSw); go_simp; try with_reducible rfl
              simp only [Act.put, List.setIfInBounds_toArray, List.set_cons_zero, List.set_cons_succ]
              refine heldTake 10 (v := ?_) (by simp only [List.getElem?_toArray, List.getElem?_cons_succ, List.getElem?_cons_zero]; rfl) (by kernel_rfl) (by intro _ _ _ h; exact h) (by rfl) (by assumption) ?_ ?_
              rotate_left
              · intro W hSw; (try dsimp only at hSw); go_simp; try with_reducible rfl
              simp only [Act.put, List.setIfInBounds_toArray, List.set_cons_zero, List.set_cons_succ]
              refine heldTake 11 (v := ?_) (by simp only [List.getElem?_toArray, List.getElem?_cons_succ, List.getElem?_cons_zero]; rfl) (by kernel_rfl) (by intro _ _ _ h; exact h) (by rfl) (by assumption) ?_ ?_
              rotate_left
              · intro W hSw; (try dsimp only at hSw); go_simp; try with_reducible rfl
              simp only [Act.put, List.setIfInBounds_toArray, List.set_cons_zero, List.set_cons_succ]
              refine heldTake 12 (v := ?_) (by simp only [List.getElem?_toArray, List.getElem?_cons_succ, List.getElem?_cons_zero]; rfl) (by kernel_rfl) (by intro _ _ _ h; exact h) (by rfl) (by assumption) ?_ ?_
              rotate_left
              · intro W hSw; (try dsimp only at hSw); go_simp; try with_reducible rfl
              simp only [Act.put, List.setIfInBounds_toArray, List.set_cons_zero, List.set_cons_succ]
              refine heldFork 0 13 (by kernel_rfl) ?_ ?_
              · refine heldOp 0 (by simp only [List.getElem?_toArray, List.getElem?_cons_succ, List.getElem?_cons_zero]; rfl) (fun K hK => ?_)
                go_simp
                refine hK.out _ _ ?_ (fun hHeld => ?_)
                · exact ⟨(Below.cell (p := ⟨xb, 1, none⟩) (by repeat (first | exact Below.refl _ _ | exact hB4 | exact hB5 | refine Below.alloc ?_ (by first | (simp; done) | (have := hB4.size; simp; omega) | (have := hB4.size; omega)) _ | refine Below.drew ?_)) hx6).trans x1, (Below.cell (p := ⟨b, o + k * 2, none⟩) (by repeat (first | exact Below.refl _ _ | exact hB4 | exact hB5 | refine Below.alloc ?_ (by first | (simp; done) | (have := hB4.size; simp; omega) | (have := hB4.size; omega)) _ | refine Below.drew ?_)) hbl6).trans e1⟩
                clear hK K
                (try simp only [Act.put, List.setIfInBounds_toArray, List.set_cons_zero, List.set_cons_succ])
                refine heldFork 4 13 (by kernel_rfl) ?_ ?_
                · refine heldOpLaw 4 (by simp only [List.getElem?_toArray, List.getElem?_cons_succ, List.getElem?_cons_zero]; rfl) (by rfl) (fun K hK => ?_)
                  refine wp_append_to _ (.tmp 50) (.tmp 53) _ rfl w6.heap.size 9 (.string ByteArray.empty) 1 16 Try.underlying25 str_infoH rfl (by omega) (some ⟨_, 0, none⟩) 0 0 [] rfl (own_empty (by simp) (by first | exact heapN1 _ _ | exact heapN3 _ _ _ | exact heapN2 _ _ _)) (some ⟨g, 0, none⟩) w6.heap.size m cq ((out.take m).map Value.string) rfl (hrO.below (by repeat (first | exact Below.refl _ _ | exact hB4 | exact hB5 | refine Below.alloc ?_ (by first | (simp; done) | (have := hB4.size; simp; omega) | (have := hB4.size; omega)) _ | refine Below.drew ?_))) (fun h => by first | rfl | cases h) (strs_oneN _) m (by omega) (by unfold maxLen; omega) (by omega) (by first | (simp; done) | (simp; omega)) ?_
                  intro A4 c4 w4 hown4 hg4 hb4
                  have hB4 : Below w6.heap.size w6 w4 := Below.trans (by repeat (first | exact Below.refl _ _ | exact hB4 | exact hB5 | refine Below.alloc ?_ (by first | (simp; done) | (have := hB4.size; simp; omega) | (have := hB4.size; omega)) _ | refine Below.drew ?_)) hb4
                  simp only [List.nil_append] at hown4
                  refine hK.out _ _ ?_ (fun hHeld => ?_)
                  · exact ⟨(Below.cell (p := ⟨xb, 1, none⟩) (by repeat (first | exact Below.refl _ _ | exact hB4 | exact hB5 | refine Below.alloc ?_ (by first | (simp; done) | (have := hB4.size; simp; omega) | (have := hB4.size; omega)) _ | refine Below.drew ?_)) hx6).trans x1, (Below.cell (p := ⟨b, o + k * 2, none⟩) (by repeat (first | exact Below.refl _ _ | exact hB4 | exact hB5 | refine Below.alloc ?_ (by first | (simp; done) | (have := hB4.size; simp; omega) | (have := hB4.size; omega)) _ | refine Below.drew ?_)) hbl6).trans e1⟩
                  clear hK K
                  (try simp only [Act.put, List.setIfInBounds_toArray, List.set_cons_zero, List.set_cons_succ])
                  refine heldCall 13 (by simp only [List.getElem?_toArray, List.getElem?_cons_succ, List.getElem?_cons_zero]; rfl) (by kernel_rfl) (fun K hK => ?_)
                  go_simp
                  refine hK.out _ _ ?_ (fun hHeld => ?_)
                  · exact ⟨(Below.cell (p := ⟨xb, 1, none⟩) (by repeat (first | exact Below.refl _ _ | exact hB4 | exact hB5 | refine Below.alloc ?_ (by first | (simp; done) | (have := hB4.size; simp; omega) | (have := hB4.size; omega)) _ | refine Below.drew ?_)) hx6).trans x1, (Below.cell (p := ⟨b, o + k * 2, none⟩) (by repeat (first | exact Below.refl _ _ | exact hB4 | exact hB5 | refine Below.alloc ?_ (by first | (simp; done) | (have := hB4.size; simp; omega) | (have := hB4.size; omega)) _ | refine Below.drew ?_)) hbl6).trans e1⟩
                  clear hK K
                  (try simp only [Act.put, List.setIfInBounds_toArray, List.set_cons_zero, List.set_cons_succ])
                  refine heldLaw 14 (by simp only [List.getElem?_toArray, List.getElem?_cons_succ, List.getElem?_cons_zero]; rfl) (by kernel_rfl) (by rfl) (fun K hK => ?_)
                  refine wp_append_to _ (.tmp 54) (.tmp 63) _ rfl w6.heap.size 9 (.string ByteArray.empty) 1 16 Try.underlying25 str_infoH rfl (by omega) A4 m c4 ((out.take m).map Value.string) rfl (hown4.alloc _) (some ⟨_, 0, none⟩) _ 1 1 [.string x] rfl (reads_blk (t := 9) (fr := (0, 0)) (heapM1 _ _) rfl) (fun h => by cases h) (by intro u hu; simp at hu; subst hu; rfl) (m + 1) rfl (by unfold maxLen; omega) (by omega) (by have := hB4.size; first | (simp; done) | (simp; omega) | omega) ?_
                  intro A5 c5 w5 hown5 hg5 hb5
                  have hB5 : Below w6.heap.size w6 w5 := Below.trans (by repeat (first | exact Below.refl _ _ | exact hB4 | exact hB5 | refine Below.alloc ?_ (by first | (simp; done) | (have := hB4.size; simp; omega) | (have := hB4.size; omega)) _ | refine Below.drew ?_)) hb5
                  refine hK.out _ _ ?_ (fun hHeld => ?_)
                  · exact ⟨(Below.cell (p := ⟨xb, 1, none⟩) (by repeat (first | exact Below.refl _ _ | exact hB4 | exact hB5 | refine Below.alloc ?_ (by first | (simp; done) | (have := hB4.size; simp; omega) | (have := hB4.size; omega)) _ | refine Below.drew ?_)) hx6).trans x1, (Below.cell (p := ⟨b, o + k * 2, none⟩) (by repeat (first | exact Below.refl _ _ | exact hB4 | exact hB5 | refine Below.alloc ?_ (by first | (simp; done) | (have := hB4.size; simp; omega) | (have := hB4.size; omega)) _ | refine Below.drew ?_)) hbl6).trans e1⟩
                  clear hK K
                  (try simp only [Act.put, List.setIfInBounds_toArray, List.set_cons_zero, List.set_cons_succ])
                  refine heldTake 15 (v := ?_) (by simp only [List.getElem?_toArray, List.getElem?_cons_succ, List.getElem?_cons_zero]; rfl) (by kernel_rfl) (by intro _ _ _ h; exact h) (by rfl) (by assumption) ?_ ?_
                  rotate_left
                  · intro W hSw; (try dsimp only at hSw); go_simp; try with_reducible rfl
                  simp only [Act.put, List.setIfInBounds_toArray, List.set_cons_zero, List.set_cons_succ]
                  refine heldDone (by kernel_rfl) ?_ _
                  have hz5 : w6.heap.size ≤ w5.heap.size := hB5.size
                  have hrD := hrA.below hB5
                  by_cases hq : cq = m
                  · have hR1 : Reads w5 w6.heap.size 1 (some ⟨g, 0, none⟩) (out.length - m) ((out.drop m).map Value.string) := ⟨by rw [Nat.mul_one, List.length_map, List.length_drop], fun hp => by omega⟩
                    have hR2 : Reads w5 w6.heap.size 1 (some ⟨g, 0, none⟩) 0 ((out.drop m).map Value.string) := ⟨by rw [Nat.mul_one, List.length_map, List.length_drop, show out.length - m = 0 by omega], fun hp => by omega⟩
                    go_wp2_with (at_builtin; refine wpList_append_to w5 (by rfl) (.tmp 65) (.tmp 68) _ rfl w6.heap.size 9 (.string ByteArray.empty) 1 16 Try.underlying25 str_infoH rfl (by omega) A5 (m + 1) c5 _ rfl hown5 _ w6.heap.size _ _ ((out.drop m).map Value.string) rfl (by first | exact hR1 | exact hR2) (fun h => by cases h) (strs_oneN _) (out.length + 1) (by omega) (by unfold maxLen; omega) (by omega) (by omega) ?_; intro A7 c7 w7 hown7 hg7 hb7)
                    obtain ⟨g7, cap7, hv7, _, _⟩ := hown7.form (by omega)
                    injection hv7 with hv7
                    subst hv7
                    go_roundg (g2 - 1)
                    case measure => have := HK.out; omega
                    case rel =>
                      have hln : (out.take m ++ [x] ++ out.drop m).length = out.length + 1 := by simp; omega
                      refine ⟨k + 1, g7, c7, out.take m ++ [x] ++ out.drop m, by go_num, Lib.hid (by have := HK.out; omega), by rw [hln], HIN, ?_, HB2.out.trans ((hbm.mono hzr).trans ((hB5.mono (Nat.le_trans hzr hz6)).trans (hb7.mono (Nat.le_trans hzr hz6))))⟩
                      rw [hln, List.map_append, List.map_append]
                      exact own_base hown7 (Nat.le_trans hzr hz6)
                  · have hR1 := hrD.drop (m := m) (c := cq) (by omega) (by omega) rfl
                    rw [if_neg hq] at hR1
                    rw [Nat.mul_one, Nat.zero_add, ← List.map_drop] at hR1
                    have hR2 := hR1
                    go_wp2_with (at_builtin; refine wpList_append_to w5 (by rfl) (.tmp 65) (.tmp 68) _ rfl w6.heap.size 9 (.string ByteArray.empty) 1 16 Try.underlying25 str_infoH rfl (by omega) A5 (m + 1) c5 _ rfl hown5 _ w6.heap.size _ _ ((out.drop m).map Value.string) rfl (by first | exact hR1 | exact hR2) (fun h => by cases h) (strs_oneN _) (out.length + 1) (by omega) (by unfold maxLen; omega) (by omega) (by omega) ?_; intro A7 c7 w7 hown7 hg7 hb7)
                    obtain ⟨g7, cap7, hv7, _, _⟩ := hown7.form (by omega)
                    injection hv7 with hv7
                    subst hv7
                    go_roundg (g2 - 1)
                    case measure => have := HK.out; omega
                    case rel =>
                      have hln : (out.take m ++ [x] ++ out.drop m).length = out.length + 1 := by simp; omega
                      refine ⟨k + 1, g7, c7, out.take m ++ [x] ++ out.drop m, by go_num, Lib.hid (by have := HK.out; omega), by rw [hln], HIN, ?_, HB2.out.trans ((hbm.mono hzr).trans ((hB5.mono (Nat.le_trans hzr hz6)).trans (hb7.mono (Nat.le_trans hzr hz6))))⟩
                      rw [hln, List.map_append, List.map_append]
                      exact own_base hown7 (Nat.le_trans hzr hz6)
                · refine heldOp 13 (by simp only [List.getElem?_toArray, List.getElem?_cons_succ, List.getElem?_cons_zero]; rfl) (fun K hK => ?_)
                  go_simp
                  refine hK.out _ _ ?_ (fun hHeld => ?_)
                  · exact ⟨(Below.cell (p := ⟨xb, 1, none⟩) (by repeat (first | exact Below.refl _ _ | exact hB4 | exact hB5 | refine Below.alloc ?_ (by first | (simp; done) | (have := hB4.size; simp; omega) | (have := hB4.size; omega)) _ | refine Below.drew ?_)) hx6).trans x1, (Below.cell (p := ⟨b, o + k * 2, none⟩) (by repeat (first | exact Below.refl _ _ | exact hB4 | exact hB5 | refine Below.alloc ?_ (by first | (simp; done) | (have := hB4.size; simp; omega) | (have := hB4.size; omega)) _ | refine Below.drew ?_)) hbl6).trans e1⟩
                  clear hK K
                  (try simp only [Act.put, List.setIfInBounds_toArray, List.set_cons_zero, List.set_cons_succ])
                  refine heldLaw 4 (by simp only [List.getElem?_toArray, List.getElem?_cons_succ, List.getElem?_cons_zero]; rfl) (by kernel_rfl) (by rfl) (fun K hK => ?_)
                  refine wp_append_to _ (.tmp 50) (.tmp 53) _ rfl w6.heap.size 9 (.string ByteArray.empty) 1 16 Try.underlying25 str_infoH rfl (by omega) (some ⟨_, 0, none⟩) 0 0 [] rfl (own_empty (by simp) (by first | exact heapN1 _ _ | exact heapN3 _ _ _ | exact heapN2 _ _ _)) (some ⟨g, 0, none⟩) w6.heap.size m cq ((out.take m).map Value.string) rfl (hrO.below (by repeat (first | exact Below.refl _ _ | exact hB4 | exact hB5 | refine Below.alloc ?_ (by first | (simp; done) | (have := hB4.size; simp; omega) | (have := hB4.size; omega)) _ | refine Below.drew ?_))) (fun h => by first | rfl | cases h) (strs_oneN _) m (by omega) (by unfold maxLen; omega) (by omega) (by first | (simp; done) | (simp; omega)) ?_
                  intro A4 c4 w4 hown4 hg4 hb4
                  have hB4 : Below w6.heap.size w6 w4 := Below.trans (by repeat (first | exact Below.refl _ _ | exact hB4 | exact hB5 | refine Below.alloc ?_ (by first | (simp; done) | (have := hB4.size; simp; omega) | (have := hB4.size; omega)) _ | refine Below.drew ?_)) hb4
                  simp only [List.nil_append] at hown4
                  refine hK.out _ _ ?_ (fun hHeld => ?_)
                  · exact ⟨(Below.cell (p := ⟨xb, 1, none⟩) (by repeat (first | exact Below.refl _ _ | exact hB4 | exact hB5 | refine Below.alloc ?_ (by first | (simp; done) | (have := hB4.size; simp; omega) | (have := hB4.size; omega)) _ | refine Below.drew ?_)) hx6).trans x1, (Below.cell (p := ⟨b, o + k * 2, none⟩) (by repeat (first | exact Below.refl _ _ | exact hB4 | exact hB5 | refine Below.alloc ?_ (by first | (simp; done) | (have := hB4.size; simp; omega) | (have := hB4.size; omega)) _ | refine Below.drew ?_)) hbl6).trans e1⟩
                  clear hK K
                  (try simp only [Act.put, List.setIfInBounds_toArray, List.set_cons_zero, List.set_cons_succ])
                  refine heldLaw 14 (by simp only [List.getElem?_toArray, List.getElem?_cons_succ, List.getElem?_cons_zero]; rfl) (by kernel_rfl) (by rfl) (fun K hK => ?_)
                  refine wp_append_to _ (.tmp 54) (.tmp 63) _ rfl w6.heap.size 9 (.string ByteArray.empty) 1 16 Try.underlying25 str_infoH rfl (by omega) A4 m c4 ((out.take m).map Value.string) rfl hown4 (some ⟨_, 0, none⟩) _ 1 1 [.string x] rfl (reads_blk (t := 9) (fr := (0, 0)) ((hg4.block _ (by first | (simp; done) | (simp; omega)) (by simp [Value.ownBlock])).trans (by first | exact heapN2 _ _ _ | exact heapN3 _ _ _)) rfl) (fun h => by cases h) (by intro u hu; simp at hu; subst hu; rfl) (m + 1) rfl (by unfold maxLen; omega) (by omega) (by have := hB4.size; first | (simp; done) | (simp; omega) | omega) ?_
                  intro A5 c5 w5 hown5 hg5 hb5
                  have hB5 : Below w6.heap.size w6 w5 := Below.trans (by repeat (first | exact Below.refl _ _ | exact hB4 | exact hB5 | refine Below.alloc ?_ (by first | (simp; done) | (have := hB4.size; simp; omega) | (have := hB4.size; omega)) _ | refine Below.drew ?_)) hb5
                  refine hK.out _ _ ?_ (fun hHeld => ?_)
                  · exact ⟨(Below.cell (p := ⟨xb, 1, none⟩) (by repeat (first | exact Below.refl _ _ | exact hB4 | exact hB5 | refine Below.alloc ?_ (by first | (simp; done) | (have := hB4.size; simp; omega) | (have := hB4.size; omega)) _ | refine Below.drew ?_)) hx6).trans x1, (Below.cell (p := ⟨b, o + k * 2, none⟩) (by repeat (first | exact Below.refl _ _ | exact hB4 | exact hB5 | refine Below.alloc ?_ (by first | (simp; done) | (have := hB4.size; simp; omega) | (have := hB4.size; omega)) _ | refine Below.drew ?_)) hbl6).trans e1⟩
                  clear hK K
                  (try simp only [Act.put, List.setIfInBounds_toArray, List.set_cons_zero, List.set_cons_succ])
                  refine heldTake 15 (v := ?_) (by simp only [List.getElem?_toArray, List.getElem?_cons_succ, List.getElem?_cons_zero]; rfl) (by kernel_rfl) (by intro _ _ _ h; exact h) (by rfl) (by assumption) ?_ ?_
                  rotate_left
                  · intro W hSw; (try dsimp only at hSw); go_simp; try with_reducible rfl
                  simp only [Act.put, List.setIfInBounds_toArray, List.set_cons_zero, List.set_cons_succ]
                  refine heldDone (by kernel_rfl) ?_ _
                  have hz5 : w6.heap.size ≤ w5.heap.size := hB5.size
                  have hrD := hrA.below hB5
                  by_cases hq : cq = m
                  · have hR1 : Reads w5 w6.heap.size 1 (some ⟨g, 0, none⟩) (out.length - m) ((out.drop m).map Value.string) := ⟨by rw [Nat.mul_one, List.length_map, List.length_drop], fun hp => by omega⟩
                    have hR2 : Reads w5 w6.heap.size 1 (some ⟨g, 0, none⟩) 0 ((out.drop m).map Value.string) := ⟨by rw [Nat.mul_one, List.length_map, List.length_drop, show out.length - m = 0 by omega], fun hp => by omega⟩
                    go_wp2_with (at_builtin; refine wpList_append_to w5 (by rfl) (.tmp 65) (.tmp 68) _ rfl w6.heap.size 9 (.string ByteArray.empty) 1 16 Try.underlying25 str_infoH rfl (by omega) A5 (m + 1) c5 _ rfl hown5 _ w6.heap.size _ _ ((out.drop m).map Value.string) rfl (by first | exact hR1 | exact hR2) (fun h => by cases h) (strs_oneN _) (out.length + 1) (by omega) (by unfold maxLen; omega) (by omega) (by omega) ?_; intro A7 c7 w7 hown7 hg7 hb7)
                    obtain ⟨g7, cap7, hv7, _, _⟩ := hown7.form (by omega)
                    injection hv7 with hv7
                    subst hv7
                    go_roundg (g2 - 1)
                    case measure => have := HK.out; omega
                    case rel =>
                      have hln : (out.take m ++ [x] ++ out.drop m).length = out.length + 1 := by simp; omega
                      refine ⟨k + 1, g7, c7, out.take m ++ [x] ++ out.drop m, by go_num, Lib.hid (by have := HK.out; omega), by rw [hln], HIN, ?_, HB2.out.trans ((hbm.mono hzr).trans ((hB5.mono (Nat.le_trans hzr hz6)).trans (hb7.mono (Nat.le_trans hzr hz6))))⟩
                      rw [hln, List.map_append, List.map_append]
                      exact own_base hown7 (Nat.le_trans hzr hz6)
                  · have hR1 := hrD.drop (m := m) (c := cq) (by omega) (by omega) rfl
                    rw [if_neg hq] at hR1
                    rw [Nat.mul_one, Nat.zero_add, ← List.map_drop] at hR1
                    have hR2 := hR1
                    go_wp2_with (at_builtin; refine wpList_append_to w5 (by rfl) (.tmp 65) (.tmp 68) _ rfl w6.heap.size 9 (.string ByteArray.empty) 1 16 Try.underlying25 str_infoH rfl (by omega) A5 (m + 1) c5 _ rfl hown5 _ w6.heap.size _ _ ((out.drop m).map Value.string) rfl (by first | exact hR1 | exact hR2) (fun h => by cases h) (strs_oneN _) (out.length + 1) (by omega) (by unfold maxLen; omega) (by omega) (by omega) ?_; intro A7 c7 w7 hown7 hg7 hb7)
                    obtain ⟨g7, cap7, hv7, _, _⟩ := hown7.form (by omega)
                    injection hv7 with hv7
                    subst hv7
                    go_roundg (g2 - 1)
                    case measure => have := HK.out; omega
                    case rel =>
                      have hln : (out.take m ++ [x] ++ out.drop m).length = out.length + 1 := by simp; omega
                      refine ⟨k + 1, g7, c7, out.take m ++ [x] ++ out.drop m, by go_num, Lib.hid (by have := HK.out; omega), by rw [hln], HIN, ?_, HB2.out.trans ((hbm.mono hzr).trans ((hB5.mono (Nat.le_trans hzr hz6)).trans (hb7.mono (Nat.le_trans hzr hz6))))⟩
                      rw [hln, List.map_append, List.map_append]
                      exact own_base hown7 (Nat.le_trans hzr hz6)
              · refine heldOp 13 (by simp only [List.getElem?_toArray, List.getElem?_cons_succ, List.getElem?_cons_zero]; rfl) (fun K hK => ?_)
                go_simp
                refine hK.out _ _ ?_ (fun hHeld => ?_)
                · exact ⟨(Below.cell (p := ⟨xb, 1, none⟩) (by repeat (first | exact Below.refl _ _ | exact hB4 | exact hB5 | refine Below.alloc ?_ (by first | (simp; done) | (have := hB4.size; simp; omega) | (have := hB4.size; omega)) _ | refine Below.drew ?_)) hx6).trans x1, (Below.cell (p := ⟨b, o + k * 2, none⟩) (by repeat (first | exact Below.refl _ _ | exact hB4 | exact hB5 | refine Below.alloc ?_ (by first | (simp; done) | (have := hB4.size; simp; omega) | (have := hB4.size; omega)) _ | refine Below.drew ?_)) hbl6).trans e1⟩
                clear hK K
                (try simp only [Act.put, List.setIfInBounds_toArray, List.set_cons_zero, List.set_cons_succ])
                refine heldCall 0 (by simp only [List.getElem?_toArray, List.getElem?_cons_succ, List.getElem?_cons_zero]; rfl) (by kernel_rfl) (fun K hK => ?_)
                go_simp
                refine hK.out _ _ ?_ (fun hHeld => ?_)
                · exact ⟨(Below.cell (p := ⟨xb, 1, none⟩) (by repeat (first | exact Below.refl _ _ | exact hB4 | exact hB5 | refine Below.alloc ?_ (by first | (simp; done) | (have := hB4.size; simp; omega) | (have := hB4.size; omega)) _ | refine Below.drew ?_)) hx6).trans x1, (Below.cell (p := ⟨b, o + k * 2, none⟩) (by repeat (first | exact Below.refl _ _ | exact hB4 | exact hB5 | refine Below.alloc ?_ (by first | (simp; done) | (have := hB4.size; simp; omega) | (have := hB4.size; omega)) _ | refine Below.drew ?_)) hbl6).trans e1⟩
                clear hK K
                (try simp only [Act.put, List.setIfInBounds_toArray, List.set_cons_zero, List.set_cons_succ])
                refine heldLaw 4 (by simp only [List.getElem?_toArray, List.getElem?_cons_succ, List.getElem?_cons_zero]; rfl) (by kernel_rfl) (by rfl) (fun K hK => ?_)
                refine wp_append_to _ (.tmp 50) (.tmp 53) _ rfl w6.heap.size 9 (.string ByteArray.empty) 1 16 Try.underlying25 str_infoH rfl (by omega) (some ⟨_, 0, none⟩) 0 0 [] rfl (own_empty (by simp) (by first | exact heapN1 _ _ | exact heapN3 _ _ _ | exact heapN2 _ _ _)) (some ⟨g, 0, none⟩) w6.heap.size m cq ((out.take m).map Value.string) rfl (hrO.below (by repeat (first | exact Below.refl _ _ | exact hB4 | exact hB5 | refine Below.alloc ?_ (by first | (simp; done) | (have := hB4.size; simp; omega) | (have := hB4.size; omega)) _ | refine Below.drew ?_))) (fun h => by first | rfl | cases h) (strs_oneN _) m (by omega) (by unfold maxLen; omega) (by omega) (by first | (simp; done) | (simp; omega)) ?_
                intro A4 c4 w4 hown4 hg4 hb4
                have hB4 : Below w6.heap.size w6 w4 := Below.trans (by repeat (first | exact Below.refl _ _ | exact hB4 | exact hB5 | refine Below.alloc ?_ (by first | (simp; done) | (have := hB4.size; simp; omega) | (have := hB4.size; omega)) _ | refine Below.drew ?_)) hb4
                simp only [List.nil_append] at hown4
                refine hK.out _ _ ?_ (fun hHeld => ?_)
                · exact ⟨(Below.cell (p := ⟨xb, 1, none⟩) (by repeat (first | exact Below.refl _ _ | exact hB4 | exact hB5 | refine Below.alloc ?_ (by first | (simp; done) | (have := hB4.size; simp; omega) | (have := hB4.size; omega)) _ | refine Below.drew ?_)) hx6).trans x1, (Below.cell (p := ⟨b, o + k * 2, none⟩) (by repeat (first | exact Below.refl _ _ | exact hB4 | exact hB5 | refine Below.alloc ?_ (by first | (simp; done) | (have := hB4.size; simp; omega) | (have := hB4.size; omega)) _ | refine Below.drew ?_)) hbl6).trans e1⟩
                clear hK K
                (try simp only [Act.put, List.setIfInBounds_toArray, List.set_cons_zero, List.set_cons_succ])
                refine heldLaw 14 (by simp only [List.getElem?_toArray, List.getElem?_cons_succ, List.getElem?_cons_zero]; rfl) (by kernel_rfl) (by rfl) (fun K hK => ?_)
                refine wp_append_to _ (.tmp 54) (.tmp 63) _ rfl w6.heap.size 9 (.string ByteArray.empty) 1 16 Try.underlying25 str_infoH rfl (by omega) A4 m c4 ((out.take m).map Value.string) rfl hown4 (some ⟨_, 0, none⟩) _ 1 1 [.string x] rfl (reads_blk (t := 9) (fr := (0, 0)) ((hg4.block _ (by first | (simp; done) | (simp; omega)) (by simp [Value.ownBlock])).trans (by first | exact heapN2 _ _ _ | exact heapN3 _ _ _)) rfl) (fun h => by cases h) (by intro u hu; simp at hu; subst hu; rfl) (m + 1) rfl (by unfold maxLen; omega) (by omega) (by have := hB4.size; first | (simp; done) | (simp; omega) | omega) ?_
                intro A5 c5 w5 hown5 hg5 hb5
                have hB5 : Below w6.heap.size w6 w5 := Below.trans (by repeat (first | exact Below.refl _ _ | exact hB4 | exact hB5 | refine Below.alloc ?_ (by first | (simp; done) | (have := hB4.size; simp; omega) | (have := hB4.size; omega)) _ | refine Below.drew ?_)) hb5
                refine hK.out _ _ ?_ (fun hHeld => ?_)
                · exact ⟨(Below.cell (p := ⟨xb, 1, none⟩) (by repeat (first | exact Below.refl _ _ | exact hB4 | exact hB5 | refine Below.alloc ?_ (by first | (simp; done) | (have := hB4.size; simp; omega) | (have := hB4.size; omega)) _ | refine Below.drew ?_)) hx6).trans x1, (Below.cell (p := ⟨b, o + k * 2, none⟩) (by repeat (first | exact Below.refl _ _ | exact hB4 | exact hB5 | refine Below.alloc ?_ (by first | (simp; done) | (have := hB4.size; simp; omega) | (have := hB4.size; omega)) _ | refine Below.drew ?_)) hbl6).trans e1⟩
                clear hK K
                (try simp only [Act.put, List.setIfInBounds_toArray, List.set_cons_zero, List.set_cons_succ])
                refine heldTake 15 (v := ?_) (by simp only [List.getElem?_toArray, List.getElem?_cons_succ, List.getElem?_cons_zero]; rfl) (by kernel_rfl) (by intro _ _ _ h; exact h) (by rfl) (by assumption) ?_ ?_
                rotate_left
                · intro W hSw; (try dsimp only at hSw); go_simp; try with_reducible rfl
                simp only [Act.put, List.setIfInBounds_toArray, List.set_cons_zero, List.set_cons_succ]
                refine heldDone (by kernel_rfl) ?_ _
                have hz5 : w6.heap.size ≤ w5.heap.size := hB5.size
                have hrD := hrA.below hB5
                by_cases hq : cq = m
                · have hR1 : Reads w5 w6.heap.size 1 (some ⟨g, 0, none⟩) (out.length - m) ((out.drop m).map Value.string) := ⟨by rw [Nat.mul_one, List.length_map, List.length_drop], fun hp => by omega⟩
                  have hR2 : Reads w5 w6.heap.size 1 (some ⟨g, 0, none⟩) 0 ((out.drop m).map Value.string) := ⟨by rw [Nat.mul_one, List.length_map, List.length_drop, show out.length - m = 0 by omega], fun hp => by omega⟩
                  go_wp2_with (at_builtin; refine wpList_append_to w5 (by rfl) (.tmp 65) (.tmp 68) _ rfl w6.heap.size 9 (.string ByteArray.empty) 1 16 Try.underlying25 str_infoH rfl (by omega) A5 (m + 1) c5 _ rfl hown5 _ w6.heap.size _ _ ((out.drop m).map Value.string) rfl (by first | exact hR1 | exact hR2) (fun h => by cases h) (strs_oneN _) (out.length + 1) (by omega) (by unfold maxLen; omega) (by omega) (by omega) ?_; intro A7 c7 w7 hown7 hg7 hb7)
                  obtain ⟨g7, cap7, hv7, _, _⟩ := hown7.form (by omega)
                  injection hv7 with hv7
                  subst hv7
                  go_roundg (g2 - 1)
                  case measure => have := HK.out; omega
                  case rel =>
                    have hln : (out.take m ++ [x] ++ out.drop m).length = out.length + 1 := by simp; omega
                    refine ⟨k + 1, g7, c7, out.take m ++ [x] ++ out.drop m, by go_num, Lib.hid (by have := HK.out; omega), by rw [hln], HIN, ?_, HB2.out.trans ((hbm.mono hzr).trans ((hB5.mono (Nat.le_trans hzr hz6)).trans (hb7.mono (Nat.le_trans hzr hz6))))⟩
                    rw [hln, List.map_append, List.map_append]
                    exact own_base hown7 (Nat.le_trans hzr hz6)
                · have hR1 := hrD.drop (m := m) (c := cq) (by omega) (by omega) rfl
                  rw [if_neg hq] at hR1
                  rw [Nat.mul_one, Nat.zero_add, ← List.map_drop] at hR1
                  have hR2 := hR1
                  go_wp2_with (at_builtin; refine wpList_append_to w5 (by rfl) (.tmp 65) (.tmp 68) _ rfl w6.heap.size 9 (.string ByteArray.empty) 1 16 Try.underlying25 str_infoH rfl (by omega) A5 (m + 1) c5 _ rfl hown5 _ w6.heap.size _ _ ((out.drop m).map Value.string) rfl (by first | exact hR1 | exact hR2) (fun h => by cases h) (strs_oneN _) (out.length + 1) (by omega) (by unfold maxLen; omega) (by omega) (by omega) ?_; intro A7 c7 w7 hown7 hg7 hb7)
                  obtain ⟨g7, cap7, hv7, _, _⟩ := hown7.form (by omega)
                  injection hv7 with hv7
                  subst hv7
                  go_roundg (g2 - 1)
                  case measure => have := HK.out; omega
                  case rel =>
                    have hln : (out.take m ++ [x] ++ out.drop m).length = out.length + 1 := by simp; omega
                    refine ⟨k + 1, g7, c7, out.take m ++ [x] ++ out.drop m, by go_num, Lib.hid (by have := HK.out; omega), by rw [hln], HIN, ?_, HB2.out.trans ((hbm.mono hzr).trans ((hB5.mono (Nat.le_trans hzr hz6)).trans (hb7.mono (Nat.le_trans hzr hz6))))⟩
                    rw [hln, List.map_append, List.map_append]
                    exact own_base hown7 (Nat.le_trans hzr hz6)
          · have hdl : decide ((m : Int) < (out.length : Int)) = false := by simpa using hm
            have hdlN : decide (m < out.length) = false := by simp; omega
            have hdlP : ¬ m < out.length := by omega
            have HIN := Lib.hid (HP2.out m hmle HG.out (fun h => by omega))
            go_wp2_with fail
            refine heldStart 19 (S := fun W => W.cell? ⟨b, o + k * 2, none⟩ = some (.string x)) (by kernel_rfl) ?_ (fun hHeld => ?_)
            · exact e1r
            refine heldTake 0 (v := ?_) (by simp only [List.getElem?_toArray, List.getElem?_cons_succ, List.getElem?_cons_zero]; rfl) (by kernel_rfl) (by intro _ _ _ h; exact h) (by rfl) (by assumption) ?_ ?_
            rotate_left
            · intro W hSw; (try dsimp only at hSw); go_simp; try with_reducible rfl
            simp only [Act.put, List.setIfInBounds_toArray, List.set_cons_zero, List.set_cons_succ]
            refine heldTake 1 (v := ?_) (by simp only [List.getElem?_toArray, List.getElem?_cons_succ, List.getElem?_cons_zero]; rfl) (by kernel_rfl) (by intro _ _ _ h; exact h) (by rfl) (by assumption) ?_ ?_
            rotate_left
            · intro W hSw; (try dsimp only at hSw); go_simp; try with_reducible rfl
            simp only [Act.put, List.setIfInBounds_toArray, List.set_cons_zero, List.set_cons_succ]
            refine heldTake 2 (v := ?_) (by simp only [List.getElem?_toArray, List.getElem?_cons_succ, List.getElem?_cons_zero]; rfl) (by kernel_rfl) (by intro _ _ _ h; exact h) (by rfl) (by assumption) ?_ ?_
            rotate_left
            · intro W hSw; (try dsimp only at hSw); go_simp; try with_reducible rfl
            simp only [Act.put, List.setIfInBounds_toArray, List.set_cons_zero, List.set_cons_succ]
            refine heldTake 3 (v := ?_) (by simp only [List.getElem?_toArray, List.getElem?_cons_succ, List.getElem?_cons_zero]; rfl) (by kernel_rfl) (by intro _ _ _ h; exact h) (by rfl) (by assumption) ?_ ?_
            rotate_left
            · intro W hSw; (try dsimp only at hSw); go_simp; try with_reducible rfl
            simp only [Act.put, List.setIfInBounds_toArray, List.set_cons_zero, List.set_cons_succ]
            refine heldTake 4 (v := ?_) (by simp only [List.getElem?_toArray, List.getElem?_cons_succ, List.getElem?_cons_zero]; rfl) (by kernel_rfl) (by intro _ _ _ h; exact h) (by rfl) (by assumption) ?_ ?_
            rotate_left
            · intro W hSw; (try dsimp only at hSw); go_simp; try with_reducible rfl
            simp only [Act.put, List.setIfInBounds_toArray, List.set_cons_zero, List.set_cons_succ]
            refine heldSkip 5 (by simp only [List.getElem?_toArray, List.getElem?_cons_succ, List.getElem?_cons_zero]; rfl) (by kernel_rfl) (by intro _ _ _ h; exact h) (by rfl) (by assumption) ?_
            simp only [Act.put, List.setIfInBounds_toArray, List.set_cons_zero, List.set_cons_succ]
            refine heldSkip 6 (by simp only [List.getElem?_toArray, List.getElem?_cons_succ, List.getElem?_cons_zero]; rfl) (by kernel_rfl) (by intro _ _ _ h; exact h) (by rfl) (by assumption) ?_
            simp only [Act.put, List.setIfInBounds_toArray, List.set_cons_zero, List.set_cons_succ]
            refine heldSkip 7 (by simp only [List.getElem?_toArray, List.getElem?_cons_succ, List.getElem?_cons_zero]; rfl) (by kernel_rfl) (by intro _ _ _ h; exact h) (by rfl) (by assumption) ?_
            simp only [Act.put, List.setIfInBounds_toArray, List.set_cons_zero, List.set_cons_succ]
            refine heldSkip 8 (by simp only [List.getElem?_toArray, List.getElem?_cons_succ, List.getElem?_cons_zero]; rfl) (by kernel_rfl) (by intro _ _ _ h; exact h) (by rfl) (by assumption) ?_
            simp only [Act.put, List.setIfInBounds_toArray, List.set_cons_zero, List.set_cons_succ]
            refine heldSkip 9 (by simp only [List.getElem?_toArray, List.getElem?_cons_succ, List.getElem?_cons_zero]; rfl) (by kernel_rfl) (by intro _ _ _ h; exact h) (by rfl) (by assumption) ?_
            simp only [Act.put, List.setIfInBounds_toArray, List.set_cons_zero, List.set_cons_succ]
            refine heldSkip 10 (by simp only [List.getElem?_toArray, List.getElem?_cons_succ, List.getElem?_cons_zero]; rfl) (by kernel_rfl) (by intro _ _ _ h; exact h) (by rfl) (by assumption) ?_
            simp only [Act.put, List.setIfInBounds_toArray, List.set_cons_zero, List.set_cons_succ]
            refine heldSkip 11 (by simp only [List.getElem?_toArray, List.getElem?_cons_succ, List.getElem?_cons_zero]; rfl) (by kernel_rfl) (by intro _ _ _ h; exact h) (by rfl) (by assumption) ?_
            simp only [Act.put, List.setIfInBounds_toArray, List.set_cons_zero, List.set_cons_succ]
            refine heldSkip 12 (by simp only [List.getElem?_toArray, List.getElem?_cons_succ, List.getElem?_cons_zero]; rfl) (by kernel_rfl) (by intro _ _ _ h; exact h) (by rfl) (by assumption) ?_
            simp only [Act.put, List.setIfInBounds_toArray, List.set_cons_zero, List.set_cons_succ]
            refine heldSkip 13 (by simp only [List.getElem?_toArray, List.getElem?_cons_succ, List.getElem?_cons_zero]; rfl) (by kernel_rfl) (by intro _ _ _ h; exact h) (by rfl) (by assumption) ?_
            simp only [Act.put, List.setIfInBounds_toArray, List.set_cons_zero, List.set_cons_succ]
            refine heldSkip 14 (by simp only [List.getElem?_toArray, List.getElem?_cons_succ, List.getElem?_cons_zero]; rfl) (by kernel_rfl) (by intro _ _ _ h; exact h) (by rfl) (by assumption) ?_
            simp only [Act.put, List.setIfInBounds_toArray, List.set_cons_zero, List.set_cons_succ]
            refine heldSkip 15 (by simp only [List.getElem?_toArray, List.getElem?_cons_succ, List.getElem?_cons_zero]; rfl) (by kernel_rfl) (by intro _ _ _ h; exact h) (by rfl) (by assumption) ?_
            simp only [Act.put, List.setIfInBounds_toArray, List.set_cons_zero, List.set_cons_succ]
            refine heldSkip 16 (by simp only [List.getElem?_toArray, List.getElem?_cons_succ, List.getElem?_cons_zero]; rfl) (by kernel_rfl) (by intro _ _ _ h; exact h) (by rfl) (by assumption) ?_
            simp only [Act.put, List.setIfInBounds_toArray, List.set_cons_zero, List.set_cons_succ]
            refine heldSkip 17 (by simp only [List.getElem?_toArray, List.getElem?_cons_succ, List.getElem?_cons_zero]; rfl) (by kernel_rfl) (by intro _ _ _ h; exact h) (by rfl) (by assumption) ?_
            simp only [Act.put, List.setIfInBounds_toArray, List.set_cons_zero, List.set_cons_succ]
            refine heldTake 18 (v := ?_) (by simp only [List.getElem?_toArray, List.getElem?_cons_succ, List.getElem?_cons_zero]; rfl) (by kernel_rfl) (by intro _ _ _ h; exact h) (by rfl) (by assumption) ?_ ?_
            rotate_left
            · intro W hSw; (try dsimp only at hSw); go_simp; try with_reducible rfl
            simp only [Act.put, List.setIfInBounds_toArray, List.set_cons_zero, List.set_cons_succ]
            refine heldDone (by kernel_rfl) ?_ _
            have hbm2 : Below w2.heap.size w2 wr.drew := hbm.drew
            clear hHeld
            clear HG HP2 e1r x1 hbm hz6
            go_wp2_with fail
            generalize wr.drew = w6 at *
            have hbm := hbm2
            clear hbm2
            have hz6 := hbm.size
            have x1 := (hbm.cell (p := ⟨xb, 1, none⟩) hxw).trans d1
            have e1 := (hbm.cell (p := ⟨b, o + k * 2, none⟩) hbw).trans e1
            have hbl6 : b < w6.heap.size := by omega
            have hx6 : xb < w6.heap.size := by omega
            have hrA : Reads w6 w6.heap.size 1 (some ⟨g, 0, none⟩) out.length (out.map Value.string) := Reads.more (HCAT.out.below hbm) hz6
            have hmc : (m : Int) ≤ (cq : Int) := by omega
            have hrO : Reads w6 w6.heap.size 1 (some ⟨g, 0, none⟩) m ((out.take m).map Value.string) := by
              have := hrA.take hmle
              rw [Nat.mul_one, ← List.map_take] at this
              exact this
            refine heldStart 15 (S := fun W => W.cell? ⟨xb, 1, none⟩ = some (.slice (some ⟨b, o, none⟩) cs.length c) ∧ W.cell? ⟨b, o + k * 2, none⟩ = some (.string x)) (by kernel_rfl) ?_ (fun hHeld => ?_)
            · exact ⟨(Below.cell (p := ⟨xb, 1, none⟩) (by repeat (first | exact Below.refl _ _ | exact hB4 | exact hB5 | refine Below.alloc ?_ (by first | (simp; done) | (have := hB4.size; simp; omega) | (have := hB4.size; omega)) _ | refine Below.drew ?_)) hx6).trans x1, (Below.cell (p := ⟨b, o + k * 2, none⟩) (by repeat (first | exact Below.refl _ _ | exact hB4 | exact hB5 | refine Below.alloc ?_ (by first | (simp; done) | (have := hB4.size; simp; omega) | (have := hB4.size; omega)) _ | refine Below.drew ?_)) hbl6).trans e1⟩
            refine heldTake 1 (v := ?_) (by simp only [List.getElem?_toArray, List.getElem?_cons_succ, List.getElem?_cons_zero]; rfl) (by kernel_rfl) (by intro _ _ _ h; exact h) (by rfl) (by assumption) ?_ ?_
            rotate_left
            · intro W hSw; (try dsimp only at hSw); go_simp; try with_reducible rfl
            simp only [Act.put, List.setIfInBounds_toArray, List.set_cons_zero, List.set_cons_succ]
            refine heldTake 2 (v := ?_) (by simp only [List.getElem?_toArray, List.getElem?_cons_succ, List.getElem?_cons_zero]; rfl) (by kernel_rfl) (by intro _ _ _ h; exact h) (by rfl) (by assumption) ?_ ?_
            rotate_left
            · intro W hSw; (try dsimp only at hSw); go_simp; try with_reducible rfl
            simp only [Act.put, List.setIfInBounds_toArray, List.set_cons_zero, List.set_cons_succ]
            refine heldTake 3 (v := ?_) (by simp only [List.getElem?_toArray, List.getElem?_cons_succ, List.getElem?_cons_zero]; rfl) (by kernel_rfl) (by intro _ _ _ h; exact h) (by rfl) (by assumption) ?_ ?_
            rotate_left
            · intro W hSw; (try dsimp only at hSw); go_simp; try with_reducible rfl
            simp only [Act.put, List.setIfInBounds_toArray, List.set_cons_zero, List.set_cons_succ]
            refine heldTake 5 (v := ?_) (by simp only [List.getElem?_toArray, List.getElem?_cons_succ, List.getElem?_cons_zero]; rfl) (by kernel_rfl) (by intro _ _ _ h; exact h) (by rfl) (by assumption) ?_ ?_
            rotate_left
            · intro W hSw; (try dsimp only at hSw); go_simp; try with_reducible rfl
            simp only [Act.put, List.setIfInBounds_toArray, List.set_cons_zero, List.set_cons_succ]
            refine heldTake 6 (v := ?_) (by simp only [List.getElem?_toArray, List.getElem?_cons_succ, List.getElem?_cons_zero]; rfl) (by kernel_rfl) (by intro _ _ _ h; exact h) (by rfl) (by assumption) ?_ ?_
            rotate_left
            · intro W hSw; (try dsimp only at hSw); go_simp; try with_reducible rfl
            simp only [Act.put, List.setIfInBounds_toArray, List.set_cons_zero, List.set_cons_succ]
            refine heldTake 7 (v := ?_) (by simp only [List.getElem?_toArray, List.getElem?_cons_succ, List.getElem?_cons_zero]; rfl) (by kernel_rfl) (by intro _ _ _ h; exact h) (by rfl) (by assumption) ?_ ?_
            rotate_left
            · intro W hSw; (try dsimp only at hSw); go_simp; try with_reducible rfl
            simp only [Act.put, List.setIfInBounds_toArray, List.set_cons_zero, List.set_cons_succ]
            refine heldTake 8 (v := ?_) (by simp only [List.getElem?_toArray, List.getElem?_cons_succ, List.getElem?_cons_zero]; rfl) (by kernel_rfl) (by intro _ _ _ h; exact h) (by rfl) (by assumption) ?_ ?_
            rotate_left
            · intro W hSw; (try dsimp only at hSw); go_simp; try with_reducible rfl
            simp only [Act.put, List.setIfInBounds_toArray, List.set_cons_zero, List.set_cons_succ]
            refine heldTake 9 (v := ?_) (by simp only [List.getElem?_toArray, List.getElem?_cons_succ, List.getElem?_cons_zero]; rfl) (by kernel_rfl) (by intro _ _ _ h; exact h) (by rfl) (by assumption) ?_ ?_
            rotate_left
            · intro W hSw; (try dsimp only at hSw); go_simp; try with_reducible rfl
            simp only [Act.put, List.setIfInBounds_toArray, List.set_cons_zero, List.set_cons_succ]
            refine heldTake 10 (v := ?_) (by simp only [List.getElem?_toArray, List.getElem?_cons_succ, List.getElem?_cons_zero]; rfl) (by kernel_rfl) (by intro _ _ _ h; exact h) (by rfl) (by assumption) ?_ ?_
            rotate_left
            · intro W hSw; (try dsimp only at hSw); go_simp; try with_reducible rfl
            simp only [Act.put, List.setIfInBounds_toArray, List.set_cons_zero, List.set_cons_succ]
            refine heldTake 11 (v := ?_) (by simp only [List.getElem?_toArray, List.getElem?_cons_succ, List.getElem?_cons_zero]; rfl) (by kernel_rfl) (by intro _ _ _ h; exact h) (by rfl) (by assumption) ?_ ?_
            rotate_left
            · intro W hSw; (try dsimp only at hSw); go_simp; try with_reducible rfl
            simp only [Act.put, List.setIfInBounds_toArray, List.set_cons_zero, List.set_cons_succ]
            refine heldTake 12 (v := ?_) (by simp only [List.getElem?_toArray, List.getElem?_cons_succ, List.getElem?_cons_zero]; rfl) (by kernel_rfl) (by intro _ _ _ h; exact h) (by rfl) (by assumption) ?_ ?_
            rotate_left
            · intro W hSw; (try dsimp only at hSw); go_simp; try with_reducible rfl
            simp only [Act.put, List.setIfInBounds_toArray, List.set_cons_zero, List.set_cons_succ]
            refine heldFork 0 13 (by kernel_rfl) ?_ ?_
            · refine heldOp 0 (by simp only [List.getElem?_toArray, List.getElem?_cons_succ, List.getElem?_cons_zero]; rfl) (fun K hK => ?_)
              go_simp
              refine hK.out _ _ ?_ (fun hHeld => ?_)
              · exact ⟨(Below.cell (p := ⟨xb, 1, none⟩) (by repeat (first | exact Below.refl _ _ | exact hB4 | exact hB5 | refine Below.alloc ?_ (by first | (simp; done) | (have := hB4.size; simp; omega) | (have := hB4.size; omega)) _ | refine Below.drew ?_)) hx6).trans x1, (Below.cell (p := ⟨b, o + k * 2, none⟩) (by repeat (first | exact Below.refl _ _ | exact hB4 | exact hB5 | refine Below.alloc ?_ (by first | (simp; done) | (have := hB4.size; simp; omega) | (have := hB4.size; omega)) _ | refine Below.drew ?_)) hbl6).trans e1⟩
              clear hK K
              (try simp only [Act.put, List.setIfInBounds_toArray, List.set_cons_zero, List.set_cons_succ])
              refine heldFork 4 13 (by kernel_rfl) ?_ ?_
              · refine heldOpLaw 4 (by simp only [List.getElem?_toArray, List.getElem?_cons_succ, List.getElem?_cons_zero]; rfl) (by rfl) (fun K hK => ?_)
                refine wp_append_to _ (.tmp 50) (.tmp 53) _ rfl w6.heap.size 9 (.string ByteArray.empty) 1 16 Try.underlying25 str_infoH rfl (by omega) (some ⟨_, 0, none⟩) 0 0 [] rfl (own_empty (by simp) (by first | exact heapN1 _ _ | exact heapN3 _ _ _ | exact heapN2 _ _ _)) (some ⟨g, 0, none⟩) w6.heap.size m cq ((out.take m).map Value.string) rfl (hrO.below (by repeat (first | exact Below.refl _ _ | exact hB4 | exact hB5 | refine Below.alloc ?_ (by first | (simp; done) | (have := hB4.size; simp; omega) | (have := hB4.size; omega)) _ | refine Below.drew ?_))) (fun h => by first | rfl | cases h) (strs_oneN _) m (by omega) (by unfold maxLen; omega) (by omega) (by first | (simp; done) | (simp; omega)) ?_
                intro A4 c4 w4 hown4 hg4 hb4
                have hB4 : Below w6.heap.size w6 w4 := Below.trans (by repeat (first | exact Below.refl _ _ | exact hB4 | exact hB5 | refine Below.alloc ?_ (by first | (simp; done) | (have := hB4.size; simp; omega) | (have := hB4.size; omega)) _ | refine Below.drew ?_)) hb4
                simp only [List.nil_append] at hown4
                refine hK.out _ _ ?_ (fun hHeld => ?_)
                · exact ⟨(Below.cell (p := ⟨xb, 1, none⟩) (by repeat (first | exact Below.refl _ _ | exact hB4 | exact hB5 | refine Below.alloc ?_ (by first | (simp; done) | (have := hB4.size; simp; omega) | (have := hB4.size; omega)) _ | refine Below.drew ?_)) hx6).trans x1, (Below.cell (p := ⟨b, o + k * 2, none⟩) (by repeat (first | exact Below.refl _ _ | exact hB4 | exact hB5 | refine Below.alloc ?_ (by first | (simp; done) | (have := hB4.size; simp; omega) | (have := hB4.size; omega)) _ | refine Below.drew ?_)) hbl6).trans e1⟩
                clear hK K
                (try simp only [Act.put, List.setIfInBounds_toArray, List.set_cons_zero, List.set_cons_succ])
                refine heldCall 13 (by simp only [List.getElem?_toArray, List.getElem?_cons_succ, List.getElem?_cons_zero]; rfl) (by kernel_rfl) (fun K hK => ?_)
                go_simp
                refine hK.out _ _ ?_ (fun hHeld => ?_)
                · exact ⟨(Below.cell (p := ⟨xb, 1, none⟩) (by repeat (first | exact Below.refl _ _ | exact hB4 | exact hB5 | refine Below.alloc ?_ (by first | (simp; done) | (have := hB4.size; simp; omega) | (have := hB4.size; omega)) _ | refine Below.drew ?_)) hx6).trans x1, (Below.cell (p := ⟨b, o + k * 2, none⟩) (by repeat (first | exact Below.refl _ _ | exact hB4 | exact hB5 | refine Below.alloc ?_ (by first | (simp; done) | (have := hB4.size; simp; omega) | (have := hB4.size; omega)) _ | refine Below.drew ?_)) hbl6).trans e1⟩
                clear hK K
                (try simp only [Act.put, List.setIfInBounds_toArray, List.set_cons_zero, List.set_cons_succ])
                refine heldLaw 14 (by simp only [List.getElem?_toArray, List.getElem?_cons_succ, List.getElem?_cons_zero]; rfl) (by kernel_rfl) (by rfl) (fun K hK => ?_)
                refine wp_append_to _ (.tmp 54) (.tmp 63) _ rfl w6.heap.size 9 (.string ByteArray.empty) 1 16 Try.underlying25 str_infoH rfl (by omega) A4 m c4 ((out.take m).map Value.string) rfl (hown4.alloc _) (some ⟨_, 0, none⟩) _ 1 1 [.string x] rfl (reads_blk (t := 9) (fr := (0, 0)) (heapM1 _ _) rfl) (fun h => by cases h) (by intro u hu; simp at hu; subst hu; rfl) (m + 1) rfl (by unfold maxLen; omega) (by omega) (by have := hB4.size; first | (simp; done) | (simp; omega) | omega) ?_
                intro A5 c5 w5 hown5 hg5 hb5
                have hB5 : Below w6.heap.size w6 w5 := Below.trans (by repeat (first | exact Below.refl _ _ | exact hB4 | exact hB5 | refine Below.alloc ?_ (by first | (simp; done) | (have := hB4.size; simp; omega) | (have := hB4.size; omega)) _ | refine Below.drew ?_)) hb5
                refine hK.out _ _ ?_ (fun hHeld => ?_)
                · exact ⟨(Below.cell (p := ⟨xb, 1, none⟩) (by repeat (first | exact Below.refl _ _ | exact hB4 | exact hB5 | refine Below.alloc ?_ (by first | (simp; done) | (have := hB4.size; simp; omega) | (have := hB4.size; omega)) _ | refine Below.drew ?_)) hx6).trans x1, (Below.cell (p := ⟨b, o + k * 2, none⟩) (by repeat (first | exact Below.refl _ _ | exact hB4 | exact hB5 | refine Below.alloc ?_ (by first | (simp; done) | (have := hB4.size; simp; omega) | (have := hB4.size; omega)) _ | refine Below.drew ?_)) hbl6).trans e1⟩
                clear hK K
                (try simp only [Act.put, List.setIfInBounds_toArray, List.set_cons_zero, List.set_cons_succ])
                refine heldTake 15 (v := ?_) (by simp only [List.getElem?_toArray, List.getElem?_cons_succ, List.getElem?_cons_zero]; rfl) (by kernel_rfl) (by intro _ _ _ h; exact h) (by rfl) (by assumption) ?_ ?_
                rotate_left
                · intro W hSw; (try dsimp only at hSw); go_simp; try with_reducible rfl
                simp only [Act.put, List.setIfInBounds_toArray, List.set_cons_zero, List.set_cons_succ]
                refine heldDone (by kernel_rfl) ?_ _
                have hz5 : w6.heap.size ≤ w5.heap.size := hB5.size
                have hrD := hrA.below hB5
                by_cases hq : cq = m
                · have hR1 : Reads w5 w6.heap.size 1 (some ⟨g, 0, none⟩) (out.length - m) ((out.drop m).map Value.string) := ⟨by rw [Nat.mul_one, List.length_map, List.length_drop], fun hp => by omega⟩
                  have hR2 : Reads w5 w6.heap.size 1 (some ⟨g, 0, none⟩) 0 ((out.drop m).map Value.string) := ⟨by rw [Nat.mul_one, List.length_map, List.length_drop, show out.length - m = 0 by omega], fun hp => by omega⟩
                  go_wp2_with (at_builtin; refine wpList_append_to w5 (by rfl) (.tmp 65) (.tmp 68) _ rfl w6.heap.size 9 (.string ByteArray.empty) 1 16 Try.underlying25 str_infoH rfl (by omega) A5 (m + 1) c5 _ rfl hown5 _ w6.heap.size _ _ ((out.drop m).map Value.string) rfl (by first | exact hR1 | exact hR2) (fun h => by cases h) (strs_oneN _) (out.length + 1) (by omega) (by unfold maxLen; omega) (by omega) (by omega) ?_; intro A7 c7 w7 hown7 hg7 hb7)
                  obtain ⟨g7, cap7, hv7, _, _⟩ := hown7.form (by omega)
                  injection hv7 with hv7
                  subst hv7
                  go_roundg (g2 - 1)
                  case measure => have := HK.out; omega
                  case rel =>
                    have hln : (out.take m ++ [x] ++ out.drop m).length = out.length + 1 := by simp; omega
                    refine ⟨k + 1, g7, c7, out.take m ++ [x] ++ out.drop m, by go_num, Lib.hid (by have := HK.out; omega), by rw [hln], HIN, ?_, HB2.out.trans ((hbm.mono hzr).trans ((hB5.mono (Nat.le_trans hzr hz6)).trans (hb7.mono (Nat.le_trans hzr hz6))))⟩
                    rw [hln, List.map_append, List.map_append]
                    exact own_base hown7 (Nat.le_trans hzr hz6)
                · have hR1 := hrD.drop (m := m) (c := cq) (by omega) (by omega) rfl
                  rw [if_neg hq] at hR1
                  rw [Nat.mul_one, Nat.zero_add, ← List.map_drop] at hR1
                  have hR2 := hR1
                  go_wp2_with (at_builtin; refine wpList_append_to w5 (by rfl) (.tmp 65) (.tmp 68) _ rfl w6.heap.size 9 (.string ByteArray.empty) 1 16 Try.underlying25 str_infoH rfl (by omega) A5 (m + 1) c5 _ rfl hown5 _ w6.heap.size _ _ ((out.drop m).map Value.string) rfl (by first | exact hR1 | exact hR2) (fun h => by cases h) (strs_oneN _) (out.length + 1) (by omega) (by unfold maxLen; omega) (by omega) (by omega) ?_; intro A7 c7 w7 hown7 hg7 hb7)
                  obtain ⟨g7, cap7, hv7, _, _⟩ := hown7.form (by omega)
                  injection hv7 with hv7
                  subst hv7
                  go_roundg (g2 - 1)
                  case measure => have := HK.out; omega
                  case rel =>
                    have hln : (out.take m ++ [x] ++ out.drop m).length = out.length + 1 := by simp; omega
                    refine ⟨k + 1, g7, c7, out.take m ++ [x] ++ out.drop m, by go_num, Lib.hid (by have := HK.out; omega), by rw [hln], HIN, ?_, HB2.out.trans ((hbm.mono hzr).trans ((hB5.mono (Nat.le_trans hzr hz6)).trans (hb7.mono (Nat.le_trans hzr hz6))))⟩
                    rw [hln, List.map_append, List.map_append]
                    exact own_base hown7 (Nat.le_trans hzr hz6)
              · refine heldOp 13 (by simp only [List.getElem?_toArray, List.getElem?_cons_succ, List.getElem?_cons_zero]; rfl) (fun K hK => ?_)
                go_simp
                refine hK.out _ _ ?_ (fun hHeld => ?_)
                · exact ⟨(Below.cell (p := ⟨xb, 1, none⟩) (by repeat (first | exact Below.refl _ _ | exact hB4 | exact hB5 | refine Below.alloc ?_ (by first | (simp; done) | (have := hB4.size; simp; omega) | (have := hB4.size; omega)) _ | refine Below.drew ?_)) hx6).trans x1, (Below.cell (p := ⟨b, o + k * 2, none⟩) (by repeat (first | exact Below.refl _ _ | exact hB4 | exact hB5 | refine Below.alloc ?_ (by first | (simp; done) | (have := hB4.size; simp; omega) | (have := hB4.size; omega)) _ | refine Below.drew ?_)) hbl6).trans e1⟩
                clear hK K
                (try simp only [Act.put, List.setIfInBounds_toArray, List.set_cons_zero, List.set_cons_succ])
                refine heldLaw 4 (by simp only [List.getElem?_toArray, List.getElem?_cons_succ, List.getElem?_cons_zero]; rfl) (by kernel_rfl) (by rfl) (fun K hK => ?_)
                refine wp_append_to _ (.tmp 50) (.tmp 53) _ rfl w6.heap.size 9 (.string ByteArray.empty) 1 16 Try.underlying25 str_infoH rfl (by omega) (some ⟨_, 0, none⟩) 0 0 [] rfl (own_empty (by simp) (by first | exact heapN1 _ _ | exact heapN3 _ _ _ | exact heapN2 _ _ _)) (some ⟨g, 0, none⟩) w6.heap.size m cq ((out.take m).map Value.string) rfl (hrO.below (by repeat (first | exact Below.refl _ _ | exact hB4 | exact hB5 | refine Below.alloc ?_ (by first | (simp; done) | (have := hB4.size; simp; omega) | (have := hB4.size; omega)) _ | refine Below.drew ?_))) (fun h => by first | rfl | cases h) (strs_oneN _) m (by omega) (by unfold maxLen; omega) (by omega) (by first | (simp; done) | (simp; omega)) ?_
                intro A4 c4 w4 hown4 hg4 hb4
                have hB4 : Below w6.heap.size w6 w4 := Below.trans (by repeat (first | exact Below.refl _ _ | exact hB4 | exact hB5 | refine Below.alloc ?_ (by first | (simp; done) | (have := hB4.size; simp; omega) | (have := hB4.size; omega)) _ | refine Below.drew ?_)) hb4
                simp only [List.nil_append] at hown4
                refine hK.out _ _ ?_ (fun hHeld => ?_)
                · exact ⟨(Below.cell (p := ⟨xb, 1, none⟩) (by repeat (first | exact Below.refl _ _ | exact hB4 | exact hB5 | refine Below.alloc ?_ (by first | (simp; done) | (have := hB4.size; simp; omega) | (have := hB4.size; omega)) _ | refine Below.drew ?_)) hx6).trans x1, (Below.cell (p := ⟨b, o + k * 2, none⟩) (by repeat (first | exact Below.refl _ _ | exact hB4 | exact hB5 | refine Below.alloc ?_ (by first | (simp; done) | (have := hB4.size; simp; omega) | (have := hB4.size; omega)) _ | refine Below.drew ?_)) hbl6).trans e1⟩
                clear hK K
                (try simp only [Act.put, List.setIfInBounds_toArray, List.set_cons_zero, List.set_cons_succ])
                refine heldLaw 14 (by simp only [List.getElem?_toArray, List.getElem?_cons_succ, List.getElem?_cons_zero]; rfl) (by kernel_rfl) (by rfl) (fun K hK => ?_)
                refine wp_append_to _ (.tmp 54) (.tmp 63) _ rfl w6.heap.size 9 (.string ByteArray.empty) 1 16 Try.underlying25 str_infoH rfl (by omega) A4 m c4 ((out.take m).map Value.string) rfl hown4 (some ⟨_, 0, none⟩) _ 1 1 [.string x] rfl (reads_blk (t := 9) (fr := (0, 0)) ((hg4.block _ (by first | (simp; done) | (simp; omega)) (by simp [Value.ownBlock])).trans (by first | exact heapN2 _ _ _ | exact heapN3 _ _ _)) rfl) (fun h => by cases h) (by intro u hu; simp at hu; subst hu; rfl) (m + 1) rfl (by unfold maxLen; omega) (by omega) (by have := hB4.size; first | (simp; done) | (simp; omega) | omega) ?_
                intro A5 c5 w5 hown5 hg5 hb5
                have hB5 : Below w6.heap.size w6 w5 := Below.trans (by repeat (first | exact Below.refl _ _ | exact hB4 | exact hB5 | refine Below.alloc ?_ (by first | (simp; done) | (have := hB4.size; simp; omega) | (have := hB4.size; omega)) _ | refine Below.drew ?_)) hb5
                refine hK.out _ _ ?_ (fun hHeld => ?_)
                · exact ⟨(Below.cell (p := ⟨xb, 1, none⟩) (by repeat (first | exact Below.refl _ _ | exact hB4 | exact hB5 | refine Below.alloc ?_ (by first | (simp; done) | (have := hB4.size; simp; omega) | (have := hB4.size; omega)) _ | refine Below.drew ?_)) hx6).trans x1, (Below.cell (p := ⟨b, o + k * 2, none⟩) (by repeat (first | exact Below.refl _ _ | exact hB4 | exact hB5 | refine Below.alloc ?_ (by first | (simp; done) | (have := hB4.size; simp; omega) | (have := hB4.size; omega)) _ | refine Below.drew ?_)) hbl6).trans e1⟩
                clear hK K
                (try simp only [Act.put, List.setIfInBounds_toArray, List.set_cons_zero, List.set_cons_succ])
                refine heldTake 15 (v := ?_) (by simp only [List.getElem?_toArray, List.getElem?_cons_succ, List.getElem?_cons_zero]; rfl) (by kernel_rfl) (by intro _ _ _ h; exact h) (by rfl) (by assumption) ?_ ?_
                rotate_left
                · intro W hSw; (try dsimp only at hSw); go_simp; try with_reducible rfl
                simp only [Act.put, List.setIfInBounds_toArray, List.set_cons_zero, List.set_cons_succ]
                refine heldDone (by kernel_rfl) ?_ _
                have hz5 : w6.heap.size ≤ w5.heap.size := hB5.size
                have hrD := hrA.below hB5
                by_cases hq : cq = m
                · have hR1 : Reads w5 w6.heap.size 1 (some ⟨g, 0, none⟩) (out.length - m) ((out.drop m).map Value.string) := ⟨by rw [Nat.mul_one, List.length_map, List.length_drop], fun hp => by omega⟩
                  have hR2 : Reads w5 w6.heap.size 1 (some ⟨g, 0, none⟩) 0 ((out.drop m).map Value.string) := ⟨by rw [Nat.mul_one, List.length_map, List.length_drop, show out.length - m = 0 by omega], fun hp => by omega⟩
                  go_wp2_with (at_builtin; refine wpList_append_to w5 (by rfl) (.tmp 65) (.tmp 68) _ rfl w6.heap.size 9 (.string ByteArray.empty) 1 16 Try.underlying25 str_infoH rfl (by omega) A5 (m + 1) c5 _ rfl hown5 _ w6.heap.size _ _ ((out.drop m).map Value.string) rfl (by first | exact hR1 | exact hR2) (fun h => by cases h) (strs_oneN _) (out.length + 1) (by omega) (by unfold maxLen; omega) (by omega) (by omega) ?_; intro A7 c7 w7 hown7 hg7 hb7)
                  obtain ⟨g7, cap7, hv7, _, _⟩ := hown7.form (by omega)
                  injection hv7 with hv7
                  subst hv7
                  go_roundg (g2 - 1)
                  case measure => have := HK.out; omega
                  case rel =>
                    have hln : (out.take m ++ [x] ++ out.drop m).length = out.length + 1 := by simp; omega
                    refine ⟨k + 1, g7, c7, out.take m ++ [x] ++ out.drop m, by go_num, Lib.hid (by have := HK.out; omega), by rw [hln], HIN, ?_, HB2.out.trans ((hbm.mono hzr).trans ((hB5.mono (Nat.le_trans hzr hz6)).trans (hb7.mono (Nat.le_trans hzr hz6))))⟩
                    rw [hln, List.map_append, List.map_append]
                    exact own_base hown7 (Nat.le_trans hzr hz6)
                · have hR1 := hrD.drop (m := m) (c := cq) (by omega) (by omega) rfl
                  rw [if_neg hq] at hR1
                  rw [Nat.mul_one, Nat.zero_add, ← List.map_drop] at hR1
                  have hR2 := hR1
                  go_wp2_with (at_builtin; refine wpList_append_to w5 (by rfl) (.tmp 65) (.tmp 68) _ rfl w6.heap.size 9 (.string ByteArray.empty) 1 16 Try.underlying25 str_infoH rfl (by omega) A5 (m + 1) c5 _ rfl hown5 _ w6.heap.size _ _ ((out.drop m).map Value.string) rfl (by first | exact hR1 | exact hR2) (fun h => by cases h) (strs_oneN _) (out.length + 1) (by omega) (by unfold maxLen; omega) (by omega) (by omega) ?_; intro A7 c7 w7 hown7 hg7 hb7)
                  obtain ⟨g7, cap7, hv7, _, _⟩ := hown7.form (by omega)
                  injection hv7 with hv7
                  subst hv7
                  go_roundg (g2 - 1)
                  case measure => have := HK.out; omega
                  case rel =>
                    have hln : (out.take m ++ [x] ++ out.drop m).length = out.length + 1 := by simp; omega
                    refine ⟨k + 1, g7, c7, out.take m ++ [x] ++ out.drop m, by go_num, Lib.hid (by have := HK.out; omega), by rw [hln], HIN, ?_, HB2.out.trans ((hbm.mono hzr).trans ((hB5.mono (Nat.le_trans hzr hz6)).trans (hb7.mono (Nat.le_trans hzr hz6))))⟩
                    rw [hln, List.map_append, List.map_append]
                    exact own_base hown7 (Nat.le_trans hzr hz6)
            · refine heldOp 13 (by simp only [List.getElem?_toArray, List.getElem?_cons_succ, List.getElem?_cons_zero]; rfl) (fun K hK => ?_)
              go_simp
              refine hK.out _ _ ?_ (fun hHeld => ?_)
              · exact ⟨(Below.cell (p := ⟨xb, 1, none⟩) (by repeat (first | exact Below.refl _ _ | exact hB4 | exact hB5 | refine Below.alloc ?_ (by first | (simp; done) | (have := hB4.size; simp; omega) | (have := hB4.size; omega)) _ | refine Below.drew ?_)) hx6).trans x1, (Below.cell (p := ⟨b, o + k * 2, none⟩) (by repeat (first | exact Below.refl _ _ | exact hB4 | exact hB5 | refine Below.alloc ?_ (by first | (simp; done) | (have := hB4.size; simp; omega) | (have := hB4.size; omega)) _ | refine Below.drew ?_)) hbl6).trans e1⟩
              clear hK K
              (try simp only [Act.put, List.setIfInBounds_toArray, List.set_cons_zero, List.set_cons_succ])
              refine heldCall 0 (by simp only [List.getElem?_toArray, List.getElem?_cons_succ, List.getElem?_cons_zero]; rfl) (by kernel_rfl) (fun K hK => ?_)
              go_simp
              refine hK.out _ _ ?_ (fun hHeld => ?_)
              · exact ⟨(Below.cell (p := ⟨xb, 1, none⟩) (by repeat (first | exact Below.refl _ _ | exact hB4 | exact hB5 | refine Below.alloc ?_ (by first | (simp; done) | (have := hB4.size; simp; omega) | (have := hB4.size; omega)) _ | refine Below.drew ?_)) hx6).trans x1, (Below.cell (p := ⟨b, o + k * 2, none⟩) (by repeat (first | exact Below.refl _ _ | exact hB4 | exact hB5 | refine Below.alloc ?_ (by first | (simp; done) | (have := hB4.size; simp; omega) | (have := hB4.size; omega)) _ | refine Below.drew ?_)) hbl6).trans e1⟩
              clear hK K
              (try simp only [Act.put, List.setIfInBounds_toArray, List.set_cons_zero, List.set_cons_succ])
              refine heldLaw 4 (by simp only [List.getElem?_toArray, List.getElem?_cons_succ, List.getElem?_cons_zero]; rfl) (by kernel_rfl) (by rfl) (fun K hK => ?_)
              refine wp_append_to _ (.tmp 50) (.tmp 53) _ rfl w6.heap.size 9 (.string ByteArray.empty) 1 16 Try.underlying25 str_infoH rfl (by omega) (some ⟨_, 0, none⟩) 0 0 [] rfl (own_empty (by simp) (by first | exact heapN1 _ _ | exact heapN3 _ _ _ | exact heapN2 _ _ _)) (some ⟨g, 0, none⟩) w6.heap.size m cq ((out.take m).map Value.string) rfl (hrO.below (by repeat (first | exact Below.refl _ _ | exact hB4 | exact hB5 | refine Below.alloc ?_ (by first | (simp; done) | (have := hB4.size; simp; omega) | (have := hB4.size; omega)) _ | refine Below.drew ?_))) (fun h => by first | rfl | cases h) (strs_oneN _) m (by omega) (by unfold maxLen; omega) (by omega) (by first | (simp; done) | (simp; omega)) ?_
              intro A4 c4 w4 hown4 hg4 hb4
              have hB4 : Below w6.heap.size w6 w4 := Below.trans (by repeat (first | exact Below.refl _ _ | exact hB4 | exact hB5 | refine Below.alloc ?_ (by first | (simp; done) | (have := hB4.size; simp; omega) | (have := hB4.size; omega)) _ | refine Below.drew ?_)) hb4
              simp only [List.nil_append] at hown4
              refine hK.out _ _ ?_ (fun hHeld => ?_)
              · exact ⟨(Below.cell (p := ⟨xb, 1, none⟩) (by repeat (first | exact Below.refl _ _ | exact hB4 | exact hB5 | refine Below.alloc ?_ (by first | (simp; done) | (have := hB4.size; simp; omega) | (have := hB4.size; omega)) _ | refine Below.drew ?_)) hx6).trans x1, (Below.cell (p := ⟨b, o + k * 2, none⟩) (by repeat (first | exact Below.refl _ _ | exact hB4 | exact hB5 | refine Below.alloc ?_ (by first | (simp; done) | (have := hB4.size; simp; omega) | (have := hB4.size; omega)) _ | refine Below.drew ?_)) hbl6).trans e1⟩
              clear hK K
              (try simp only [Act.put, List.setIfInBounds_toArray, List.set_cons_zero, List.set_cons_succ])
              refine heldLaw 14 (by simp only [List.getElem?_toArray, List.getElem?_cons_succ, List.getElem?_cons_zero]; rfl) (by kernel_rfl) (by rfl) (fun K hK => ?_)
              refine wp_append_to _ (.tmp 54) (.tmp 63) _ rfl w6.heap.size 9 (.string ByteArray.empty) 1 16 Try.underlying25 str_infoH rfl (by omega) A4 m c4 ((out.take m).map Value.string) rfl hown4 (some ⟨_, 0, none⟩) _ 1 1 [.string x] rfl (reads_blk (t := 9) (fr := (0, 0)) ((hg4.block _ (by first | (simp; done) | (simp; omega)) (by simp [Value.ownBlock])).trans (by first | exact heapN2 _ _ _ | exact heapN3 _ _ _)) rfl) (fun h => by cases h) (by intro u hu; simp at hu; subst hu; rfl) (m + 1) rfl (by unfold maxLen; omega) (by omega) (by have := hB4.size; first | (simp; done) | (simp; omega) | omega) ?_
              intro A5 c5 w5 hown5 hg5 hb5
              have hB5 : Below w6.heap.size w6 w5 := Below.trans (by repeat (first | exact Below.refl _ _ | exact hB4 | exact hB5 | refine Below.alloc ?_ (by first | (simp; done) | (have := hB4.size; simp; omega) | (have := hB4.size; omega)) _ | refine Below.drew ?_)) hb5
              refine hK.out _ _ ?_ (fun hHeld => ?_)
              · exact ⟨(Below.cell (p := ⟨xb, 1, none⟩) (by repeat (first | exact Below.refl _ _ | exact hB4 | exact hB5 | refine Below.alloc ?_ (by first | (simp; done) | (have := hB4.size; simp; omega) | (have := hB4.size; omega)) _ | refine Below.drew ?_)) hx6).trans x1, (Below.cell (p := ⟨b, o + k * 2, none⟩) (by repeat (first | exact Below.refl _ _ | exact hB4 | exact hB5 | refine Below.alloc ?_ (by first | (simp; done) | (have := hB4.size; simp; omega) | (have := hB4.size; omega)) _ | refine Below.drew ?_)) hbl6).trans e1⟩
              clear hK K
              (try simp only [Act.put, List.setIfInBounds_toArray, List.set_cons_zero, List.set_cons_succ])
              refine heldTake 15 (v := ?_) (by simp only [List.getElem?_toArray, List.getElem?_cons_succ, List.getElem?_cons_zero]; rfl) (by kernel_rfl) (by intro _ _ _ h; exact h) (by rfl) (by assumption) ?_ ?_
              rotate_left
              · intro W hSw; (try dsimp only at hSw); go_simp; try with_reducible rfl
              simp only [Act.put, List.setIfInBounds_toArray, List.set_cons_zero, List.set_cons_succ]
              refine heldDone (by kernel_rfl) ?_ _
              have hz5 : w6.heap.size ≤ w5.heap.size := hB5.size
              have hrD := hrA.below hB5
              by_cases hq : cq = m
              · have hR1 : Reads w5 w6.heap.size 1 (some ⟨g, 0, none⟩) (out.length - m) ((out.drop m).map Value.string) := ⟨by rw [Nat.mul_one, List.length_map, List.length_drop], fun hp => by omega⟩
                have hR2 : Reads w5 w6.heap.size 1 (some ⟨g, 0, none⟩) 0 ((out.drop m).map Value.string) := ⟨by rw [Nat.mul_one, List.length_map, List.length_drop, show out.length - m = 0 by omega], fun hp => by omega⟩
                go_wp2_with (at_builtin; refine wpList_append_to w5 (by rfl) (.tmp 65) (.tmp 68) _ rfl w6.heap.size 9 (.string ByteArray.empty) 1 16 Try.underlying25 str_infoH rfl (by omega) A5 (m + 1) c5 _ rfl hown5 _ w6.heap.size _ _ ((out.drop m).map Value.string) rfl (by first | exact hR1 | exact hR2) (fun h => by cases h) (strs_oneN _) (out.length + 1) (by omega) (by unfold maxLen; omega) (by omega) (by omega) ?_; intro A7 c7 w7 hown7 hg7 hb7)
                obtain ⟨g7, cap7, hv7, _, _⟩ := hown7.form (by omega)
                injection hv7 with hv7
                subst hv7
                go_roundg (g2 - 1)
                case measure => have := HK.out; omega
                case rel =>
                  have hln : (out.take m ++ [x] ++ out.drop m).length = out.length + 1 := by simp; omega
                  refine ⟨k + 1, g7, c7, out.take m ++ [x] ++ out.drop m, by go_num, Lib.hid (by have := HK.out; omega), by rw [hln], HIN, ?_, HB2.out.trans ((hbm.mono hzr).trans ((hB5.mono (Nat.le_trans hzr hz6)).trans (hb7.mono (Nat.le_trans hzr hz6))))⟩
                  rw [hln, List.map_append, List.map_append]
                  exact own_base hown7 (Nat.le_trans hzr hz6)
              · have hR1 := hrD.drop (m := m) (c := cq) (by omega) (by omega) rfl
                rw [if_neg hq] at hR1
                rw [Nat.mul_one, Nat.zero_add, ← List.map_drop] at hR1
                have hR2 := hR1
                go_wp2_with (at_builtin; refine wpList_append_to w5 (by rfl) (.tmp 65) (.tmp 68) _ rfl w6.heap.size 9 (.string ByteArray.empty) 1 16 Try.underlying25 str_infoH rfl (by omega) A5 (m + 1) c5 _ rfl hown5 _ w6.heap.size _ _ ((out.drop m).map Value.string) rfl (by first | exact hR1 | exact hR2) (fun h => by cases h) (strs_oneN _) (out.length + 1) (by omega) (by unfold maxLen; omega) (by omega) (by omega) ?_; intro A7 c7 w7 hown7 hg7 hb7)
                obtain ⟨g7, cap7, hv7, _, _⟩ := hown7.form (by omega)
                injection hv7 with hv7
                subst hv7
                go_roundg (g2 - 1)
                case measure => have := HK.out; omega
                case rel =>
                  have hln : (out.take m ++ [x] ++ out.drop m).length = out.length + 1 := by simp; omega
                  refine ⟨k + 1, g7, c7, out.take m ++ [x] ++ out.drop m, by go_num, Lib.hid (by have := HK.out; omega), by rw [hln], HIN, ?_, HB2.out.trans ((hbm.mono hzr).trans ((hB5.mono (Nat.le_trans hzr hz6)).trans (hb7.mono (Nat.le_trans hzr hz6))))⟩
                  rw [hln, List.map_append, List.map_append]
                  exact own_base hown7 (Nat.le_trans hzr hz6)
    · have hall : cs.take k = cs := List.take_of_length_le (by omega)
      have HO2 : Hid (SureOf SS n out) := Lib.hid (HFIN.out out (by have := HO.out; rw [hall] at this; exact this))
      go_wp2
      go_ret
      exact ⟨g, cq, out, rfl, HO2.out, hown, hb⟩
end Go.Proofs.Ytpjaolablkcpmaa
