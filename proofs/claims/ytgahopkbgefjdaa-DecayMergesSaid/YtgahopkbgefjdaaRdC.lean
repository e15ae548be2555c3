/- The reference's Keys (ciceroneref11). -/
import Derived.Test.YtgahopkbgefjdaaRdB
import Derived.Test.YtgahopkbgefjdaaDecS
import Derived.Test.YtgahopkbgefjdaaIns
namespace Go.Proofs.Ytgahopkbgefjdaa
open Go.ChangeShapes Go.WideShapes Go.ChangeAt Go.RowKit Go.Shelf Go.Lib Go.Sort Go.Proofs
set_option linter.unusedVariables false
set_option linter.unusedSimpArgs false

theorem strs_oneD (l : List ByteArray) : ∀ u ∈ l.map Value.string, u.oneCell' = true := by
  intro u hu
  obtain ⟨n, _, rfl⟩ := List.mem_map.1 hu
  rfl
/-- The row, as far as the adds have been looked at. -/
def KeysRf (hf now : Int) (L pre : List AddD) (out : List ByteArray) : Prop := out.Pairwise (fun x y => sLt x y = true) ∧ (∀ k, k ∈ out ↔ (∃ a ∈ pre, a.key = k) ∧ 0 < cntV hf L k now) ∧ out.length ≤ pre.length
theorem KeysRf.nil (hf now : Int) (L : List AddD) : KeysRf hf now L [] [] := ⟨List.Pairwise.nil, by simp, by simp⟩
theorem KeysRf.skip {hf now : Int} {L pre : List AddD} {out : List ByteArray} (h : KeysRf hf now L pre out) {x : AddD} (hx : x.key ∈ out ∨ cntV hf L x.key now = 0) : KeysRf hf now L (pre ++ [x]) out := by
  refine ⟨h.1, fun k => ?_, by rw [List.length_append]; have := h.2.2; omega⟩
  rw [h.2.1]
  constructor
  · rintro ⟨⟨y, hy, e⟩, hp⟩; exact ⟨⟨y, by simp [hy], e⟩, hp⟩
  · rintro ⟨⟨y, hy, e⟩, hp⟩
    rcases List.mem_append.1 hy with hy | hy
    · exact ⟨⟨y, hy, e⟩, hp⟩
    · simp at hy; subst hy
      rcases hx with hx | hx
      · rw [e] at hx; exact (h.2.1 _).1 hx
      · rw [e] at hx; omega
theorem KeysRf.put {hf now : Int} {L pre : List AddD} {out : List ByteArray} (h : KeysRf hf now L pre out) {x : AddD} (hx : 0 < cntV hf L x.key now) (hk : x.key ∉ out) {m : Nat} (hm : m ≤ out.length) (h1 : ∀ j (hj : j < out.length), j < m → sLt out[j] x.key = true) (h2 : ∀ hj : m < out.length, sLt out[m] x.key = false) : KeysRf hf now L (pre ++ [x]) (out.take m ++ [x.key] ++ out.drop m) := by
  have hat : insAt (fun y => sLt y x.key) out = m := insAt_eq _ _ m hm h1 h2
  have hV : out.take m ++ [x.key] ++ out.drop m = insV (fun y => sLt y x.key) x.key out := by unfold insV; rw [hat]
  rw [hV]
  refine ⟨insV_sorted sLt (fun x y z => sLt_trans) _ x.key out h.1 (fun y hy => ⟨fun hp => by simpa using hp, fun hp => ?_⟩), fun k => ?_, ?_⟩
  · have hp' : sLt y x.key = false := by simpa using hp
    cases hc : sLt x.key y with
    | true => rfl
    | false => exact absurd (sLt_total hc hp' ▸ hy) hk
  · rw [(insV_perm _ _ _).mem_iff, List.mem_cons, h.2.1]
    constructor
    · rintro (rfl | ⟨⟨y, hy, e⟩, hn⟩)
      · exact ⟨⟨x, by simp, rfl⟩, hx⟩
      · exact ⟨⟨y, by simp [hy], e⟩, hn⟩
    · rintro ⟨⟨y, hy, e⟩, hn⟩
      rcases List.mem_append.1 hy with hy | hy
      · exact .inr ⟨⟨y, hy, e⟩, hn⟩
      · simp at hy; subst hy; exact .inl e.symm
  · rw [insV_len, List.length_append]
    have := h.2.2
    simp
    omega
theorem KeysRf.fin {hf now : Int} {L : List AddD} {out : List ByteArray} (h : KeysRf hf now L L out) : KeysD hf L now out := by
  refine ⟨h.1, fun k => ?_⟩
  rw [h.2.1]
  refine ⟨fun h => h.2, fun hp => ⟨?_, hp⟩⟩
  have hp' := hp
  unfold cntV at hp'
  split at hp'
  · omega
  · obtain ⟨a, ha, e, _⟩ := histSum_pos hp'
    exact ⟨a, ha, e⟩
/-- Where a key isn't: the place of the first one that isn't less is another key's. -/
theorem sorted_out {out : List ByteArray} (hs : out.Pairwise (fun x y => sLt x y = true)) {x : ByteArray} {m : Nat} (hm : m ≤ out.length) (h1 : ∀ j (hj : j < out.length), j < m → sLt out[j] x = true) (h2 : ∀ hj : m < out.length, sLt out[m] x = false ∧ out[m] ≠ x) : x ∉ out := by
  intro hx
  obtain ⟨j, hj, e⟩ := List.getElem_of_mem hx
  by_cases hjm : j < m
  · have := h1 j hj hjm
    rw [e, sLt_irrefl] at this
    cases this
  · have hml : m < out.length := by omega
    obtain ⟨h3, h4⟩ := h2 hml
    by_cases hje : j = m
    · subst hje; exact h4 e
    · have := List.pairwise_iff_getElem.1 hs m j hml hj (by omega)
      rw [e, h3] at this
      cases this

theorem cntV_nonneg {hf now : Int} {L : List AddD} (hok : ∀ a ∈ L, addOk a = true) (key : ByteArray) : 0 ≤ cntV hf L key now := by
  unfold cntV
  split
  · omega
  · exact (histSum_bd key hok).1

/-- What Keys of the reference leaves. -/
def RKeysNew (w : World) (hf now : Int) (L : List AddD) (e : Ending) (w' : World) : Prop :=
  ∃ g c ks, e = .returned (.slice (some ⟨g, 0, none⟩) (List.length ks) c) ∧ KeysD hf L now ks ∧ w'.ownsRow w.heap.size 9 1 (.slice (some ⟨g, 0, none⟩) ks.length c) ks.length (ks.map Value.string) ∧ Below w.heap.size w w' ∧ ks.length ≤ L.length

set_option maxRecDepth 20000 in
set_option maxHeartbeats 8000000 in
theorem rkeys11_any (mb : Nat) (F : Nat → Prop) (hf cnt : Int) (L : List AddD) (now : Int) (w : World) (h : RcO w mb F hf cnt L) (hok : ∀ a ∈ L, addOk a = true) (hlen : (L.length : Int) ≤ 1000) (hh : hf ≤ 1099511627776) (n1 : now ≤ 9223372036854775807) :
    Calls Try.prog 31 #[.pointer (some ⟨mb, 0, none⟩), .int .i64 now] w (RKeysNew w hf now L) := by
  have HRC := Lib.hid h
  obtain ⟨A, c, hR, -⟩ := h
  obtain ⟨⟨c0, c1, c2⟩, -, -⟩ := three_cells hR.blk
  have hml0 : mb < w.heap.size := (Array.getElem?_eq_some_iff.1 hR.blk).1
  have HAT := Lib.hid hR.row
  have HOK := Lib.hid hok
  have HNN := Lib.hid (fun key => cntV_nonneg (hf := hf) (now := now) hok key)
  clear hR hok c0 c2
  have ho0 : (w.alloc (.cells #[] 9)).ownsRow w.heap.size 9 1 (.slice (some ⟨w.heap.size, 0, none⟩) 0 0) 0 [] := own_empty (Nat.le_refl _) (heap_alloc_new w _)
  have hb0 : Below w.heap.size w (w.alloc (.cells #[] 9)) := (Below.refl _ _).alloc (Nat.le_refl _) _
  go_enter Try.func31, Try.ntmps31
  go_wp2_with fail
  generalize w.alloc (.cells #[] 9) = W0 at *
  go_loopg [5, 6] L.length (fun rest s i wr => ∃ (k g : Nat) (cq : Nat) (out : List ByteArray), i = .int .i64 k ∧ Hid (k + rest = L.length) ∧ s = .slice (some ⟨g, 0, none⟩) out.length cq ∧ Hid (KeysRf hf now L (L.take k) out) ∧
    wr.ownsRow w.heap.size 9 1 (.slice (some ⟨g, 0, none⟩) out.length cq) out.length (out.map Value.string) ∧ Hid (Below w.heap.size w wr))
  case atStart => exact ⟨0, _, 0, [], rfl, Lib.hid (by simp), rfl, Lib.hid (KeysRf.nil _ _ _), ho0, Lib.hid hb0⟩
  case round =>
    clear ho0 hb0
    obtain ⟨k, g, cq, out, rfl, HK, rfl, HO, hown, HB2⟩ := hrel
    have hol0 : (out.length : Int) ≤ (k : Int) := by
      have h1 := HO.out.2.2
      have h2 := List.length_take_le k L
      omega
    have hcap := own_capC hown
    have hol : (out.length : Int) ≤ (cq : Int) := by omega
    have d1 := (HB2.out.cell (p := ⟨mb, 1, none⟩) hml0).trans c1
    by_cases hk : (k : Int) < (L.length : Int)
    · have hkl : k < L.length := by omega
      obtain ⟨b, o, rfl, hbl, e1, -, -⟩ := (HAT.out.below HB2.out).one hkl
      have hkt : L.take (k + 1) = L.take k ++ [L[k]] := List.take_succ_eq_append_getElem hkl
      have HSKIP : Hid (((L[k]).key ∈ out ∨ cntV hf L (L[k]).key now = 0) → KeysRf hf now L (L.take (k + 1)) out) := Lib.hid (fun h => by rw [hkt]; exact HO.out.skip h)
      have HPU : Hid (0 < cntV hf L (L[k]).key now → (L[k]).key ∉ out → ∀ m, m ≤ out.length → (∀ j (hj : j < out.length), j < m → sLt out[j] (L[k]).key = true) → (∀ hj : m < out.length, sLt out[m] (L[k]).key = false) → KeysRf hf now L (L.take (k + 1)) (out.take m ++ [(L[k]).key] ++ out.drop m)) := Lib.hid (fun h h' m h1 h2 h3 => by rw [hkt]; exact HO.out.put h h' h1 h2 h3)
      have hcv0 := HNN.out (L[k]).key
      clear hkt
      generalize (L[k]).key = x at *
      generalize hcv : cntV hf L x now = cv at *
      have HCV := Lib.hid hcv
      clear hcv
      have HSO := Lib.hid HO.out.1
      have hcat : Reads wr wr.heap.size 1 (some ⟨g, 0, none⟩) out.length (out.map Value.string) := Reads.of_own hown
      have HCAT := Lib.hid hcat
      have HOW := Lib.hid hown
      clear hcat hcap HO hown
      go_wp2_with fail
      obtain ⟨w2, rfl⟩ : ∃ w2 : World, w2 = wr := ⟨_, rfl⟩
      generalize gk = g2 at *
      have hown2 : ∀ W, Below w2.heap.size w2 W → W.ownsRow w.heap.size 9 1 (.slice (some ⟨g, 0, none⟩) out.length cq) out.length (out.map Value.string) := fun W hb => (Keeps.ofBelow hb noF).own HOW.out (fun _ _ e => e)
      have HOW2 := Lib.hid hown2
      clear hown2 HOW
      go_loopg [8] out.length (fun rest a wx => ∃ m : Nat, a = .int .i64 m ∧ Hid (m + rest = out.length) ∧ Hid (∀ j (hj : j < out.length), j < m → sLt out[j] x = true) ∧ wx = w2)
      case atStart => exact ⟨0, rfl, Lib.hid (by simp), Lib.hid (fun j hj h => by omega), rfl⟩
      case round =>
        obtain ⟨m, rfl, HM, HG, hwx⟩ := hrel
        obtain rfl : w2 = wr := hwx.symm
        clear hwx
        have hmle : m ≤ out.length := by have := HM.out; omega
        have hmlI : (m : Int) ≤ (out.length : Int) := by omega
        have hbm : Below w2.heap.size w2 w2 := Below.refl _ _
        by_cases hm : (m : Int) < (out.length : Int)
        · have hml : m < out.length := by omega
          have hdl : decide (m < out.length) = true := by simpa using hml
          obtain ⟨b', o', e', hbl', f1⟩ := HCAT.out.one hml
          injection e' with e'
          injection e' with e3 e4
          subst e3 e4
          rw [Nat.zero_add] at f1
          have HGO : Hid (sLt out[m] x = true → ∀ j (hj : j < out.length), j < m + 1 → sLt out[j] x = true) := Lib.hid (fun h j hj hjm => by
            by_cases e : j = m
            · subst e; exact h
            · exact HG.out j hj (by omega))
          have HEQ : Hid (out[m] = x → x ∈ out) := Lib.hid (fun e => by rw [← e]; exact List.getElem_mem hml)
          have HPUT1 : Hid (sLt out[m] x = false → out[m] ≠ x → 0 < cv → KeysRf hf now L (L.take (k + 1)) (out.take m ++ [x] ++ out.drop m)) := Lib.hid (fun h1 h2 h3 => HPU.out h3 (sorted_out HSO.out hmle HG.out (fun _ => ⟨h1, h2⟩)) m hmle HG.out (fun _ => h1))
          clear HPU
          generalize out[m] = z at *
          have hsl : Op.bytesLess z.toList x.toList = sLt z x := rfl
          by_cases hc : sLt z x = true
          · rw [hc] at hsl
            have HG2 := Lib.hid (HGO.out hc)
            clear HGO HG HEQ HPUT1 hc
            go_wp2
            go_roundg (gk - 1)
            case measure => have := HM.out; omega
            case rel => exact ⟨m + 1, by go_num, Lib.hid (by have := HM.out; omega), HG2, rfl⟩
          · have hc' : sLt z x = false := by simpa using hc
            rw [hc'] at hsl
            by_cases he : z = x
            · have he' : (z.toList == x.toList) = true := by rw [str_beq]; simpa using he
              have HS2 := Lib.hid (HSKIP.out (.inl (HEQ.out he)))
              clear HGO HG HEQ HPUT1 hc hc' he HSKIP
              go_wp2
              go_roundg (g2 - 1)
              case measure => have := HK.out; omega
              case rel => exact ⟨k + 1, g, cq, out, by go_num, Lib.hid (by have := HK.out; omega), rfl, HS2, HOW2.out _ hbm, HB2⟩
            · have he' : (z.toList == x.toList) = false := by rw [str_beq]; simpa using he
              have HPUT0 := Lib.hid (HPUT1.out hc' he)
              clear HGO HG HEQ HPUT1 hc hc' he
              go_wp2_with fail
              refine (rat11_any mb F hf cnt L x now _ (HRC.out.below (HB2.out.trans (hbm.mono HB2.out.size))) HOK.out hlen hh n1).mono ?_
              rintro e w7 ⟨rfl, hb7⟩
              have HB7 : Hid (Below w2.heap.size w2 w7) := Lib.hid (hbm.trans (hb7.mono hbm.size))
              rw [HCV.out]
              by_cases hz : cv = 0
              · have hz' : (cv == 0) = true := by simpa using hz
                have HS2 := Lib.hid (HSKIP.out (.inr hz))
                go_wp2
                go_roundg (g2 - 1)
                case measure => have := HK.out; omega
                case rel => exact ⟨k + 1, g, cq, out, by go_num, Lib.hid (by have := HK.out; omega), rfl, HS2, HOW2.out w7 HB7.out, Lib.hid (HB2.out.trans (HB7.out.mono HB2.out.size))⟩
              · have hz' : (cv == 0) = false := by simpa using hz
                have HPUT := Lib.hid (HPUT0.out (by omega))
                clear hbm hb7
                have hrA : Reads w7 w7.heap.size 1 (some ⟨g, 0, none⟩) out.length (out.map Value.string) := (HCAT.out.below (HB7.out)).more (HB7.out.size)
                have hrO : Reads w7 w7.heap.size 1 (some ⟨g, 0, none⟩) m ((out.take m).map Value.string) := by
                  have := hrA.take hmle
                  rw [Nat.mul_one, ← List.map_take] at this
                  exact this
                have hmc : (m : Int) ≤ (cq : Int) := by omega
                have hbe : Below w7.heap.size w7 (w7.alloc (.cells #[] 9)) := (Below.refl _ _).alloc (Nat.le_refl _) _
                have hrO2 := hrO.below hbe
                have HRA := Lib.hid hrA
                have HZ7 := Lib.hid (Nat.le_trans (HB2.out.size) HB7.out.size)
                clear hrA hrO
                by_cases hq : cq = m
                · exact absurd hq (by omega)
                · have HD : Hid (∀ W, Below w7.heap.size w7 W → Reads W w7.heap.size 1 (some ⟨g, m, none⟩) (out.length - m) ((out.drop m).map Value.string)) := Lib.hid (fun W hb => by
                    have hR1 := (HRA.out.below hb).drop (m := m) (c := cq) (by omega) (by omega) rfl
                    rw [if_neg hq, Nat.mul_one, Nat.zero_add, ← List.map_drop] at hR1
                    exact hR1)
                  go_wp2_with (first
                    | (at_builtin; refine wpList_append_to (w7.alloc (.cells #[] 9)) (by rfl) (.tmp 61) (.tmp 64) _ rfl w7.heap.size 9 (.string ByteArray.empty) 1 16 Try.underlying58 str_infoD rfl (by decide) (some ⟨w7.heap.size, 0, none⟩) 0 0 [] rfl (own_empty (Nat.le_refl _) (heap_alloc_new w7 _)) (some ⟨g, 0, none⟩) w7.heap.size m cq ((out.take m).map Value.string) rfl hrO2 (fun h => by cases h) (strs_oneD _) m (by omega) (by unfold maxLen; omega) (by omega) (by simp) ?_; intro A4 c4 w4 hown4 hg4 hb4; simp only [List.nil_append] at hown4)
                    | (at_builtin; refine wpList_append_one w4 rfl _ _ _ rfl w7.heap.size 9 (.string ByteArray.empty) 1 16 Try.underlying58 str_infoD rfl (by decide) A4 m c4 _ rfl hown4 [.string x] rfl rfl (by intro u hu; simp at hu; subst hu; rfl) (by omega) (by unfold maxLen; omega) (Nat.le_trans (by simp) hb4.size) ?_; intro A5 c5 w5 hown5 hg5 hb5; have hB5 : Below w7.heap.size w7 w5 := (hbe.trans hb4).trans hb5; have hz5 := hB5.size)
                    | (at_builtin; refine wpList_append_to w5 (by rfl) (.tmp 69) (.tmp 72) _ rfl w7.heap.size 9 (.string ByteArray.empty) 1 16 Try.underlying58 str_infoD rfl (by decide) A5 (m + 1) c5 _ rfl hown5 _ w7.heap.size _ _ ((out.drop m).map Value.string) rfl (HD.out w5 hB5) (fun h => by cases h) (strs_oneD _) (out.length + 1) (by omega) (by unfold maxLen; omega) (by omega) (by omega) ?_; intro A8 c8 w8 hown8 hg8 hb8))
                  obtain ⟨g8, cap8, hv8, _, _⟩ := hown8.form (by omega)
                  injection hv8 with hv8
                  subst hv8
                  go_roundg (g2 - 1)
                  case measure => have := HK.out; omega
                  case rel =>
                    have hln : (out.take m ++ [x] ++ out.drop m).length = out.length + 1 := by simp; omega
                    refine ⟨k + 1, g8, c8, out.take m ++ [x] ++ out.drop m, by go_num, Lib.hid (by have := HK.out; omega), by rw [hln], HPUT, ?_, Lib.hid (HB2.out.trans ((HB7.out.mono HB2.out.size).trans ((hB5.mono HZ7.out).trans (hb8.mono HZ7.out))))⟩
                    rw [hln, List.map_append, List.map_append]
                    exact own_base hown8 HZ7.out
        · have hdl : decide (m < out.length) = false := by simpa using (by omega : out.length ≤ m)
          have HPUT0 : Hid (0 < cv → KeysRf hf now L (L.take (k + 1)) (out.take m ++ [x] ++ out.drop m)) := Lib.hid (fun h3 => HPU.out h3 (sorted_out HSO.out hmle HG.out (fun h => by omega)) m hmle HG.out (fun h => by omega))
          clear HPU HG
          go_wp2_with fail
          refine (rat11_any mb F hf cnt L x now _ (HRC.out.below (HB2.out.trans (hbm.mono HB2.out.size))) HOK.out hlen hh n1).mono ?_
          rintro e w7 ⟨rfl, hb7⟩
          have HB7 : Hid (Below w2.heap.size w2 w7) := Lib.hid (hbm.trans (hb7.mono hbm.size))
          rw [HCV.out]
          by_cases hz : cv = 0
          · have hz' : (cv == 0) = true := by simpa using hz
            have HS2 := Lib.hid (HSKIP.out (.inr hz))
            go_wp2
            go_roundg (g2 - 1)
            case measure => have := HK.out; omega
            case rel => exact ⟨k + 1, g, cq, out, by go_num, Lib.hid (by have := HK.out; omega), rfl, HS2, HOW2.out w7 HB7.out, Lib.hid (HB2.out.trans (HB7.out.mono HB2.out.size))⟩
          · have hz' : (cv == 0) = false := by simpa using hz
            have HPUT := Lib.hid (HPUT0.out (by omega))
            clear hbm hb7
            have hrA : Reads w7 w7.heap.size 1 (some ⟨g, 0, none⟩) out.length (out.map Value.string) := (HCAT.out.below (HB7.out)).more (HB7.out.size)
            have hrO : Reads w7 w7.heap.size 1 (some ⟨g, 0, none⟩) m ((out.take m).map Value.string) := by
              have := hrA.take hmle
              rw [Nat.mul_one, ← List.map_take] at this
              exact this
            have hmc : (m : Int) ≤ (cq : Int) := by omega
            have hbe : Below w7.heap.size w7 (w7.alloc (.cells #[] 9)) := (Below.refl _ _).alloc (Nat.le_refl _) _
            have hrO2 := hrO.below hbe
            have HRA := Lib.hid hrA
            have HZ7 := Lib.hid (Nat.le_trans (HB2.out.size) HB7.out.size)
            clear hrA hrO
            by_cases hq : cq = m
            · obtain rfl : m = cq := hq.symm
              have HD : Hid (∀ W, Below w7.heap.size w7 W → Reads W w7.heap.size 1 (some ⟨g, 0, none⟩) (out.length - m) ((out.drop m).map Value.string)) := Lib.hid (fun W _ => ⟨by rw [Nat.mul_one, List.length_map, List.length_drop], fun hp => by omega⟩)
              go_wp2_with (first
                | (at_builtin; refine wpList_append_to (w7.alloc (.cells #[] 9)) (by rfl) (.tmp 61) (.tmp 64) _ rfl w7.heap.size 9 (.string ByteArray.empty) 1 16 Try.underlying58 str_infoD rfl (by decide) (some ⟨w7.heap.size, 0, none⟩) 0 0 [] rfl (own_empty (Nat.le_refl _) (heap_alloc_new w7 _)) (some ⟨g, 0, none⟩) w7.heap.size m m ((out.take m).map Value.string) rfl hrO2 (fun h => by cases h) (strs_oneD _) m (by omega) (by unfold maxLen; omega) (by omega) (by simp) ?_; intro A4 c4 w4 hown4 hg4 hb4; simp only [List.nil_append] at hown4)
                | (at_builtin; refine wpList_append_one w4 rfl _ _ _ rfl w7.heap.size 9 (.string ByteArray.empty) 1 16 Try.underlying58 str_infoD rfl (by decide) A4 m c4 _ rfl hown4 [.string x] rfl rfl (by intro u hu; simp at hu; subst hu; rfl) (by omega) (by unfold maxLen; omega) (Nat.le_trans (by simp) hb4.size) ?_; intro A5 c5 w5 hown5 hg5 hb5; have hB5 : Below w7.heap.size w7 w5 := (hbe.trans hb4).trans hb5; have hz5 := hB5.size)
                | (at_builtin; refine wpList_append_to w5 (by rfl) (.tmp 69) (.tmp 72) _ rfl w7.heap.size 9 (.string ByteArray.empty) 1 16 Try.underlying58 str_infoD rfl (by decide) A5 (m + 1) c5 _ rfl hown5 _ w7.heap.size _ _ ((out.drop m).map Value.string) rfl (HD.out w5 hB5) (fun h => by cases h) (strs_oneD _) (out.length + 1) (by omega) (by unfold maxLen; omega) (by omega) (by omega) ?_; intro A8 c8 w8 hown8 hg8 hb8))
              obtain ⟨g8, cap8, hv8, _, _⟩ := hown8.form (by omega)
              injection hv8 with hv8
              subst hv8
              go_roundg (g2 - 1)
              case measure => have := HK.out; omega
              case rel =>
                have hln : (out.take m ++ [x] ++ out.drop m).length = out.length + 1 := by simp; omega
                refine ⟨k + 1, g8, c8, out.take m ++ [x] ++ out.drop m, by go_num, Lib.hid (by have := HK.out; omega), by rw [hln], HPUT, ?_, Lib.hid (HB2.out.trans ((HB7.out.mono HB2.out.size).trans ((hB5.mono HZ7.out).trans (hb8.mono HZ7.out))))⟩
                rw [hln, List.map_append, List.map_append]
                exact own_base hown8 HZ7.out
            · have HD : Hid (∀ W, Below w7.heap.size w7 W → Reads W w7.heap.size 1 (some ⟨g, m, none⟩) (out.length - m) ((out.drop m).map Value.string)) := Lib.hid (fun W hb => by
                have hR1 := (HRA.out.below hb).drop (m := m) (c := cq) (by omega) (by omega) rfl
                rw [if_neg hq, Nat.mul_one, Nat.zero_add, ← List.map_drop] at hR1
                exact hR1)
              go_wp2_with (first
                | (at_builtin; refine wpList_append_to (w7.alloc (.cells #[] 9)) (by rfl) (.tmp 61) (.tmp 64) _ rfl w7.heap.size 9 (.string ByteArray.empty) 1 16 Try.underlying58 str_infoD rfl (by decide) (some ⟨w7.heap.size, 0, none⟩) 0 0 [] rfl (own_empty (Nat.le_refl _) (heap_alloc_new w7 _)) (some ⟨g, 0, none⟩) w7.heap.size m cq ((out.take m).map Value.string) rfl hrO2 (fun h => by cases h) (strs_oneD _) m (by omega) (by unfold maxLen; omega) (by omega) (by simp) ?_; intro A4 c4 w4 hown4 hg4 hb4; simp only [List.nil_append] at hown4)
                | (at_builtin; refine wpList_append_one w4 rfl _ _ _ rfl w7.heap.size 9 (.string ByteArray.empty) 1 16 Try.underlying58 str_infoD rfl (by decide) A4 m c4 _ rfl hown4 [.string x] rfl rfl (by intro u hu; simp at hu; subst hu; rfl) (by omega) (by unfold maxLen; omega) (Nat.le_trans (by simp) hb4.size) ?_; intro A5 c5 w5 hown5 hg5 hb5; have hB5 : Below w7.heap.size w7 w5 := (hbe.trans hb4).trans hb5; have hz5 := hB5.size)
                | (at_builtin; refine wpList_append_to w5 (by rfl) (.tmp 69) (.tmp 72) _ rfl w7.heap.size 9 (.string ByteArray.empty) 1 16 Try.underlying58 str_infoD rfl (by decide) A5 (m + 1) c5 _ rfl hown5 _ w7.heap.size _ _ ((out.drop m).map Value.string) rfl (HD.out w5 hB5) (fun h => by cases h) (strs_oneD _) (out.length + 1) (by omega) (by unfold maxLen; omega) (by omega) (by omega) ?_; intro A8 c8 w8 hown8 hg8 hb8))
              obtain ⟨g8, cap8, hv8, _, _⟩ := hown8.form (by omega)
              injection hv8 with hv8
              subst hv8
              go_roundg (g2 - 1)
              case measure => have := HK.out; omega
              case rel =>
                have hln : (out.take m ++ [x] ++ out.drop m).length = out.length + 1 := by simp; omega
                refine ⟨k + 1, g8, c8, out.take m ++ [x] ++ out.drop m, by go_num, Lib.hid (by have := HK.out; omega), by rw [hln], HPUT, ?_, Lib.hid (HB2.out.trans ((HB7.out.mono HB2.out.size).trans ((hB5.mono HZ7.out).trans (hb8.mono HZ7.out))))⟩
                rw [hln, List.map_append, List.map_append]
                exact own_base hown8 HZ7.out
    · have hall : L.take k = L := List.take_of_length_le (by omega)
      have hfin := HO.out
      rw [hall] at hfin
      have HF := Lib.hid hfin.fin
      have HL := Lib.hid hfin.2.2
      clear hfin hall
      go_wp2
      go_ret
      exact ⟨g, cq, out, rfl, HF.out, hown, HB2.out, HL.out⟩
end Go.Proofs.Ytgahopkbgefjdaa
