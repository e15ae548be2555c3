/- The walk of HeavyCertain. -/
import Derived.Test.YtpjaolablkcpmaaHvW
import Derived.Test.YtpjaolablkcpmaaHvX
import Derived.Test.YtpjaolablkcpmaaHvK
import Derived.Test.YtpjaolablkcpmaaPut8
namespace Go.Proofs.Ytpjaolablkcpmaa
open Go.ChangeShapes Go.WideShapes Go.ChangeAt Go.RowKit Go.Shelf Go.Lib Go.Sort Go.Proofs
set_option linter.unusedVariables false
set_option linter.unusedSimpArgs false

/-- The keys that have any, as far as the adds have been looked at. -/
def KeysAt (l pre : List CntV) (K : List ByteArray) : Prop := K.Pairwise (fun x y => sLt x y = true) ∧ (∀ x, x ∈ K ↔ ∃ a ∈ pre, a.key = x ∧ 0 < truthV l x) ∧ K.length ≤ pre.length
theorem KeysAt.nil (l : List CntV) : KeysAt l [] [] := ⟨List.Pairwise.nil, by simp, by simp⟩
theorem KeysAt.skip {l pre : List CntV} {K : List ByteArray} (h : KeysAt l pre K) {a : CntV} (ha : ¬ 0 < truthV l a.key) : KeysAt l (pre ++ [a]) K := by
  refine ⟨h.1, fun x => ?_, by rw [List.length_append]; have := h.2.2; omega⟩
  rw [h.2.1]
  constructor
  · rintro ⟨b, hb, e⟩; exact ⟨b, by simp [hb], e⟩
  · rintro ⟨b, hb, e, hp⟩
    rcases List.mem_append.1 hb with hb | hb
    · exact ⟨b, hb, e, hp⟩
    · simp at hb; subst hb; rw [e] at ha; exact absurd hp ha
theorem KeysAt.put {l pre : List CntV} {K : List ByteArray} (h : KeysAt l pre K) {a : CntV} (ha : 0 < truthV l a.key) : KeysAt l (pre ++ [a]) (putV K a.key) := by
  have hn := strs_nodup h.1
  refine ⟨?_, fun x => ?_, by have := putV_len K a.key; rw [List.length_append]; have := h.2.2; simp; omega⟩
  · unfold putV
    split
    · exact h.1
    · rename_i hm
      have hm' : a.key ∉ K := fun e => hm (memB_iff.2 e)
      refine insV_sorted sLt (fun x y z => sLt_trans) _ a.key K h.1 (fun y hy => ⟨fun hp => by simpa using hp, fun hp => ?_⟩)
      have hp' : sLt y a.key = false := by simpa using hp
      cases hc : sLt a.key y with
      | true => rfl
      | false => exact absurd (sLt_total hc hp' ▸ hy) hm'
  · rw [mem_putV, h.2.1]
    constructor
    · rintro (⟨b, hb, e⟩ | rfl)
      · exact ⟨b, by simp [hb], e⟩
      · exact ⟨a, by simp, rfl, ha⟩
    · rintro ⟨b, hb, e, hp⟩
      rcases List.mem_append.1 hb with hb | hb
      · exact .inl ⟨b, hb, e, hp⟩
      · simp at hb; subst hb; exact .inr e.symm
theorem truthV_key {l : List CntV} {x : ByteArray} (h : 0 < truthV l x) : ∃ a ∈ l, a.key = x := by
  induction l with
  | nil => simp [truthV] at h
  | cons a l ih =>
    by_cases e : a.key = x
    · exact ⟨a, by simp, e⟩
    · have e2 : truthV (a :: l) x = (if a.key = x ∧ mayB a = true then a.n else 0) + truthV l x := rfl
      rw [e2, if_neg (fun h => e h.1), Int.zero_add] at h
      obtain ⟨b, hb, e3⟩ := ih h
      exact ⟨b, by simp [hb], e3⟩

/-- Where nothing was cut: the counters are the keys that have any. -/
theorem cert_keys {st : HvS} {l : List CntV} {K : List ByteArray} (hi : HvInv st) (hc : Cert st (truthV l)) (hk : KeysAt l l K) : SureOf st.S 1 K ∧ st.S.length = K.length := by
  have hmem : ∀ k, k ∈ K ↔ ∃ p ∈ st.S, p.1 = k ∧ 1 ≤ p.2 := by
    intro k
    rw [hk.2.1]
    constructor
    · rintro ⟨a, ha, rfl, hp⟩
      rw [← hc.2] at hp
      exact ⟨(a.key, lowV st.S a.key), lowV_pos (k := a.key) (by omega), rfl, by show 1 ≤ lowV st.S a.key; omega⟩
    · rintro ⟨p, hp, rfl, h1⟩
      have h2 := lowV_mem hi.nd hp
      rw [hc.2] at h2
      obtain ⟨a, ha, e⟩ := truthV_key (l := l) (x := p.1) (by omega)
      exact ⟨a, ha, e, by omega⟩
  refine ⟨⟨hk.1, hmem⟩, Nat.le_antisymm (len_keys hi.nd (ks := K) (fun p hp => (hmem p.1).2 ⟨p, hp, rfl, by have := hi.pos p hp; omega⟩)) ?_⟩
  have := nodup_len (strs_nodup hk.1) (m := st.S.map (·.1)) (fun x hx => by
    obtain ⟨p, hp, e, _⟩ := (hmem x).1 hx
    exact List.mem_map.2 ⟨p, hp, e⟩)
  rwa [List.length_map] at this
theorem cert_all {m : Int} {l : List CntV} {K : List ByteArray} (hk : KeysAt l l K) (h60 : (l.length : Int) ≤ 1000) (hm : (K.length : Int) ≤ (newH m).room) : Cert (addAll (newH m) l) (truthV l) := by
  have := (Cert.new m).all (ks := K) l (newH_inv m) (by show (0 : Int) + l.length ≤ _; omega) (fun k h => (hk.2.1 k).2 (by
    have h' : 0 < truthV l k := by simpa using h
    obtain ⟨a, ha, e⟩ := truthV_key h'
    exact ⟨a, ha, e, h'⟩)) hm
  refine ⟨this.1, fun k => ?_⟩
  have h2 := this.2 k
  simpa using h2

set_option maxRecDepth 20000 in
set_option maxHeartbeats 16000000 in
theorem certain_walk (A : Option Addr) (c : Nat) (l : List CntV) (more : Int) (key : ByteArray) (w : World) (hl : CntsAt w w.heap.size A l) (hlen : (l.length : Int) ≤ 9223372036854775807) :
    Calls Try.prog 3 #[.slice A l.length c, .int .i64 more, .string key] w fun e w' => e = .returned (.bool true) ∧ Below w.heap.size w w' := by
  have HL := Lib.hid hl
  clear hl
  by_cases g : bigB l 60 = true ∨ 100 < (key.size : Int) ∨ more < 0 ∨ 1000 < more
  · by_cases g0x : bigB l 60 = true
    · go_enter Try.func3, Try.ntmps3
      go_wp2_with fail
      refine (lives14_any _).mono ?_
      rintro e w1 ⟨rfl, hb1⟩
      go_wp2_with fail
      refine (big14_any A c l 60 _ ((HL.out.below hb1).more hb1.size) hlen (by omega)).mono ?_
      rintro e w2 ⟨rfl, hb2⟩
      rw [g0x]
      go_wp2
      go_ret
      exact ⟨rfl, hb1.trans (hb2.mono hb1.size)⟩
    · have g0' : bigB l 60 = false := by simpa using g0x
      by_cases g0 : 100 < (key.size : Int)
      · go_enter Try.func3, Try.ntmps3
        go_wp2_with fail
        refine (lives14_any _).mono ?_
        rintro e w1 ⟨rfl, hb1⟩
        go_wp2_with fail
        refine (big14_any A c l 60 _ ((HL.out.below hb1).more hb1.size) hlen (by omega)).mono ?_
        rintro e w2 ⟨rfl, hb2⟩
        rw [g0']
        go_wp2
        go_ret
        exact ⟨rfl, hb1.trans (hb2.mono hb1.size)⟩
      · by_cases g1 : more < 0
        · go_enter Try.func3, Try.ntmps3
          go_wp2_with fail
          refine (lives14_any _).mono ?_
          rintro e w1 ⟨rfl, hb1⟩
          go_wp2_with fail
          refine (big14_any A c l 60 _ ((HL.out.below hb1).more hb1.size) hlen (by omega)).mono ?_
          rintro e w2 ⟨rfl, hb2⟩
          rw [g0']
          go_wp2
          go_ret
          exact ⟨rfl, hb1.trans (hb2.mono hb1.size)⟩
        · have g2 : 1000 < more := by
            rcases g with g | g | g | g
            · exact absurd g g0x
            · exact absurd g g0
            · exact absurd g g1
            · exact g
          go_enter Try.func3, Try.ntmps3
          go_wp2_with fail
          refine (lives14_any _).mono ?_
          rintro e w1 ⟨rfl, hb1⟩
          go_wp2_with fail
          refine (big14_any A c l 60 _ ((HL.out.below hb1).more hb1.size) hlen (by omega)).mono ?_
          rintro e w2 ⟨rfl, hb2⟩
          rw [g0']
          go_wp2
          go_ret
          exact ⟨rfl, hb1.trans (hb2.mono hb1.size)⟩
  · have g1' : bigB l 60 = false := by simpa using fun h => g (.inl h)
    have g2 : ¬ 100 < (key.size : Int) := fun h => g (.inr (.inl h))
    have g3 : ¬ more < 0 := fun h => g (.inr (.inr (.inl h)))
    have g4 : ¬ 1000 < more := fun h => g (.inr (.inr (.inr h)))
    have hno := Lib.hid (bigB_no g1')
    clear g
    go_enter Try.func3, Try.ntmps3
    go_wp2_with fail
    refine (lives14_any _).mono ?_
    rintro e w1 ⟨rfl, hb1⟩
    go_wp2_with fail
    refine (big14_any A c l 60 _ ((HL.out.below hb1).more hb1.size) hlen (by omega)).mono ?_
    rintro e w2 ⟨rfl, hb2⟩
    have hB2 : Below w.heap.size w w2 := hb1.trans (hb2.mono hb1.size)
    clear hb1 hb2
    rw [g1']
    go_wp2_with fail
    have hb0 : Below w2.heap.size w2 (w2.alloc (.cells #[] 9)) := (Below.refl _ _).alloc (Nat.le_refl _) _
    have hB3 : Below w.heap.size w (w2.alloc (.cells #[] 9)) := hB2.trans (hb0.mono hB2.size)
    clear hb0 hB2
    generalize hbz : w2.heap.size = bz at *
    generalize w2.alloc (.cells #[] 9) = W0 at *
    clear hbz
    go_loopg [7, 8] l.length (fun rest q i wr => ∃ (k : Nat) (Ak : Option Addr) (ck : Nat) (K : List ByteArray), i = .int .i64 k ∧ Hid (k + rest = l.length) ∧ q = .slice Ak K.length ck ∧ Hid (KeysAt l (l.take k) K) ∧ Hid (StrsAt wr wr.heap.size Ak K) ∧ Hid (K.length ≤ ck) ∧ Hid (BaseS Ak ck) ∧ Hid (Below w.heap.size w wr))
    case atStart => exact ⟨0, _, 0, [], rfl, Lib.hid (by simp), rfl, Lib.hid (KeysAt.nil l), Lib.hid (StrsAt.nil _ _ _), Lib.hid (Nat.le_refl _), Lib.hid (.inr ⟨_, rfl⟩), Lib.hid hB3⟩
    case round =>
      clear hB3
      obtain ⟨k, Ak, ck, K, rfl, HK, rfl, HKA, HST, HCK, HBS, HB⟩ := hrel
      by_cases hk : (k : Int) < (l.length : Int)
      · have hkl : k < l.length := by omega
        obtain ⟨b, o, rfl, hbl, e1, e2⟩ := (HL.out.below HB.out).one hkl
        have hsn : l.take (k + 1) = l.take k ++ [l[k]] := List.take_succ_eq_append_getElem hkl
        have HSN := Lib.hid hsn
        have hsz := hno.out.2 _ (List.getElem_mem hkl)
        have hpl : (l.take k).length ≤ l.length := List.length_take_le' _ _
        have hK60 : (K.length : Int) ≤ 60 := by have := HKA.out.2.2; have := hno.out.1; omega
        clear hsn hpl
        generalize hy : l[k] = y at *
        have HY := Lib.hid hy
        clear hy e2
        go_wp2_with fail
        refine (truth_any (some ⟨b, o, none⟩) w.heap.size c l y.key _ (HL.out.below HB.out) HB.out.size (by have := hno.out.1; omega)).mono ?_
        rintro e w4 ⟨rfl, hb4⟩
        have hB4 : Below w.heap.size w w4 := HB.out.trans (hb4.mono HB.out.size)
        have hst4 : StrsAt w4 wr.heap.size Ak K := HST.out.below hb4
        have hz4 := hb4.size
        have e1w : w4.cell? ⟨b, o + k * 2, none⟩ = some (.string y.key) := (hb4.cell (p := ⟨b, o + k * 2, none⟩) (Nat.lt_of_lt_of_le hbl HB.out.size)).trans e1
        have HST4 := Lib.hid hst4
        have HB4 := Lib.hid hB4
        clear hst4 hB4 hb4 e1
        by_cases hp : 0 < truthV l y.key
        · have HP := Lib.hid hp
          go_wp2_with fail
          refine (put8_any Ak wr.heap.size ck K y.key _ HST4.out hz4 (by omega) (by unfold maxLen; omega) HCK.out HBS.out).mono ?_
          rintro e w5 ⟨A', c', rfl, hs5, hc5, hB5, -, hb5⟩
          have hKe : Below w.heap.size w w5 := HB4.out.trans (hb5.mono HB4.out.size)
          have hks : KeysAt l (l.take (k + 1)) (putV K y.key) := by rw [HSN.out]; exact HKA.out.put HP.out
          have HS5 := Lib.hid hs5
          have HC5 := Lib.hid hc5
          have HB5 := Lib.hid hB5
          have HKE := Lib.hid hKe
          have HKS := Lib.hid hks
          clear hs5 hc5 hB5 hKe hks hb5 hp e1w hz4
          generalize putV K y.key = K5 at *
          go_wp2
          go_roundg (gk - 1)
          case measure => have := HK.out; omega
          case rel => exact ⟨k + 1, A', c', K5, by go_num, Lib.hid (by have := HK.out; omega), rfl, HKS, HS5, HC5, HB5, HKE⟩
        · have hks : KeysAt l (l.take (k + 1)) K := by rw [HSN.out]; exact HKA.out.skip hp
          have HKS := Lib.hid hks
          have HS4 : Hid (StrsAt w4 w4.heap.size Ak K) := Lib.hid (HST4.out.more hz4)
          clear hks hz4 e1w
          go_wp2
          go_roundg (gk - 1)
          case measure => have := HK.out; omega
          case rel => exact ⟨k + 1, Ak, ck, K, by go_num, Lib.hid (by have := HK.out; omega), rfl, HKS, HS4, HCK, HBS, HB4⟩
      · have hall : l.take k = l := List.take_of_length_le (by omega)
        have hka := HKA.out
        rw [hall] at hka
        have hl60 : (l.length : Int) ≤ 60 := hno.out.1
        have hK60 : (K.length : Int) ≤ 60 := by have := hka.2.2; omega
        have HKL := Lib.hid hka
        clear hall hka HKA HK
        obtain ⟨w3, rfl⟩ : ∃ w3 : World, w3 = wr := ⟨_, rfl⟩
        go_wp2_with fail
        refine (hnew_o _ _).mono ?_
        rintro e w4 ⟨hb, F, rfl, hO, hF, hb4⟩
        have hrm : (K.length : Int) ≤ (newH ((K.length : Int) + more)).room := by show _ ≤ min (max ((K.length : Int) + more) 1) 4096; omega
        have hcert := cert_all HKL.out (by omega) hrm
        have HCERT := Lib.hid hcert
        clear hcert hrm
        generalize newH ((K.length : Int) + more) = st0 at *
        have HO := Lib.hid hO
        have HF := Lib.hid hF
        have HB4 := Lib.hid hb4
        clear hO hF hb4
        go_wp2_with fail
        go_loopg [10] l.length (fun rest i wr => ∃ (k : Nat) (F : Nat → Prop), i = .int .i64 k ∧ Hid (k + rest = l.length) ∧ Hid (HvO wr hb F (addAll st0 (l.take k))) ∧ Hid (∀ j, F j → w3.heap.size ≤ j) ∧ Hid (Below w3.heap.size w3 wr))
        case atStart => exact ⟨0, F, rfl, Lib.hid (by simp), HO, HF, HB4⟩
        case round =>
          clear HO HF HB4
          obtain ⟨k, F, rfl, HK, HO, HF, HB4⟩ := hrel
          by_cases hk : (k : Int) < (l.length : Int)
          · have hkl : k < l.length := by omega
            obtain ⟨b, o, rfl, hbl, e1, e2⟩ := (HL.out.below (HB.out.trans (HB4.out.mono HB.out.size))).one hkl
            have HKT : Hid (addAll st0 (l.take (k + 1)) = addH (addAll st0 (l.take k)) l[k].key l[k].n) := Lib.hid (by rw [List.take_succ_eq_append_getElem hkl, addAll_snoc])
            have hsz := hno.out.2 _ (List.getElem_mem hkl)
            generalize l[k] = y at *
            generalize addAll st0 (l.take k) = st at *
            have hD : Below wr.heap.size wr wr.drew := (Below.refl _ _).drew
            have hKe : Below w3.heap.size w3 wr.drew := HB4.out.drew
            have hbl3 : b < w3.heap.size := Nat.lt_of_lt_of_le hbl HB.out.size
            have e1w : w3.cell? ⟨b, o + k * 2, none⟩ = some (.string y.key) := (HB4.out.cell (p := ⟨b, o + k * 2, none⟩) hbl3).symm.trans e1
            have e2w : w3.cell? ⟨b, o + k * 2 + 1, none⟩ = some (.int .i64 y.n) := (HB4.out.cell (p := ⟨b, o + k * 2 + 1, none⟩) hbl3).symm.trans e2
            go_wp2_with fail
            refine heldStart 12 (S := fun W => W.cell? ⟨b, o + k * 2, none⟩ = some (.string y.key) ∧ W.cell? ⟨b, o + k * 2 + 1, none⟩ = some (.int .i64 y.n)) (by kernel_rfl) ?_ (fun hHeld => ?_)
            · exact ⟨(hKe.cell (p := ⟨b, o + k * 2, none⟩) hbl3).trans e1w, (hKe.cell (p := ⟨b, o + k * 2 + 1, none⟩) hbl3).trans e2w⟩
            refine heldTake 0 (v := ?_) (by simp only [List.getElem?_toArray, List.getElem?_cons_succ, List.getElem?_cons_zero]; rfl) (by kernel_rfl) (by intro _ _ _ h; exact h) (by rfl) (by assumption) ?_ ?_
            rotate_left
            · intro W hSw; (try dsimp only at hSw); go_simp; try with_reducible rfl
            simp only [Act.put, List.setIfInBounds_toArray, List.set_cons_zero, List.set_cons_succ]
            refine heldTake 1 (v := ?_) (by simp only [List.getElem?_toArray, List.getElem?_cons_succ, List.getElem?_cons_zero]; rfl) (by kernel_rfl) (by intro _ _ _ h; exact h) (by rfl) (by assumption) ?_ ?_
            rotate_left
            · intro W hSw; (try dsimp only at hSw); go_simp; try with_reducible rfl
            simp only [Act.put, List.setIfInBounds_toArray, List.set_cons_zero, List.set_cons_succ]
            refine heldTake 2 (v := ?_) (by simp only [List.getElem?_toArray, List.getElem?_cons_succ, List.getElem?_cons_zero]; rfl) (by kernel_rfl) (by intro _ _ _ h; exact h) (by rfl) (by assumption) ?_ ?_
            rotate_left
            · intro W hSw; (try dsimp only at hSw); go_simp; try with_reducible rfl
            simp only [Act.put, List.setIfInBounds_toArray, List.set_cons_zero, List.set_cons_succ]
            refine heldTake 3 (v := ?_) (by simp only [List.getElem?_toArray, List.getElem?_cons_succ, List.getElem?_cons_zero]; rfl) (by kernel_rfl) (by intro _ _ _ h; exact h) (by rfl) (by assumption) ?_ ?_
            rotate_left
            · intro W hSw; (try dsimp only at hSw); go_simp; try with_reducible rfl
            simp only [Act.put, List.setIfInBounds_toArray, List.set_cons_zero, List.set_cons_succ]
            refine heldTake 4 (v := ?_) (by simp only [List.getElem?_toArray, List.getElem?_cons_succ, List.getElem?_cons_zero]; rfl) (by kernel_rfl) (by intro _ _ _ h; exact h) (by rfl) (by assumption) ?_ ?_
            rotate_left
            · intro W hSw; (try dsimp only at hSw); go_simp; try with_reducible rfl
            simp only [Act.put, List.setIfInBounds_toArray, List.set_cons_zero, List.set_cons_succ]
            refine heldTake 5 (v := ?_) (by simp only [List.getElem?_toArray, List.getElem?_cons_succ, List.getElem?_cons_zero]; rfl) (by kernel_rfl) (by intro _ _ _ h; exact h) (by rfl) (by assumption) ?_ ?_
            rotate_left
            · intro W hSw; (try dsimp only at hSw); go_simp; try with_reducible rfl
            simp only [Act.put, List.setIfInBounds_toArray, List.set_cons_zero, List.set_cons_succ]
            refine heldTake 6 (v := ?_) (by simp only [List.getElem?_toArray, List.getElem?_cons_succ, List.getElem?_cons_zero]; rfl) (by kernel_rfl) (by intro _ _ _ h; exact h) (by rfl) (by assumption) ?_ ?_
            rotate_left
            · intro W hSw; (try dsimp only at hSw); go_simp; try with_reducible rfl
            simp only [Act.put, List.setIfInBounds_toArray, List.set_cons_zero, List.set_cons_succ]
            refine heldTake 7 (v := ?_) (by simp only [List.getElem?_toArray, List.getElem?_cons_succ, List.getElem?_cons_zero]; rfl) (by kernel_rfl) (by intro _ _ _ h; exact h) (by rfl) (by assumption) ?_ ?_
            rotate_left
            · intro W hSw; (try dsimp only at hSw); go_simp; try with_reducible rfl
            simp only [Act.put, List.setIfInBounds_toArray, List.set_cons_zero, List.set_cons_succ]
            refine heldTake 8 (v := ?_) (by simp only [List.getElem?_toArray, List.getElem?_cons_succ, List.getElem?_cons_zero]; rfl) (by kernel_rfl) (by intro _ _ _ h; exact h) (by rfl) (by assumption) ?_ ?_
            rotate_left
            · intro W hSw; (try dsimp only at hSw); go_simp; try with_reducible rfl
            simp only [Act.put, List.setIfInBounds_toArray, List.set_cons_zero, List.set_cons_succ]
            refine heldTake 9 (v := ?_) (by simp only [List.getElem?_toArray, List.getElem?_cons_succ, List.getElem?_cons_zero]; rfl) (by kernel_rfl) (by intro _ _ _ h; exact h) (by rfl) (by assumption) ?_ ?_
            rotate_left
            · intro W hSw; (try dsimp only at hSw); go_simp; try with_reducible rfl
            simp only [Act.put, List.setIfInBounds_toArray, List.set_cons_zero, List.set_cons_succ]
            refine heldTake 10 (v := ?_) (by simp only [List.getElem?_toArray, List.getElem?_cons_succ, List.getElem?_cons_zero]; rfl) (by kernel_rfl) (by intro _ _ _ h; exact h) (by rfl) (by assumption) ?_ ?_
            rotate_left
            · intro W hSw; (try dsimp only at hSw); go_simp; try with_reducible rfl
            simp only [Act.put, List.setIfInBounds_toArray, List.set_cons_zero, List.set_cons_succ]
            refine heldCall 11 (by simp only [List.getElem?_toArray, List.getElem?_cons_succ, List.getElem?_cons_zero]; rfl) (by kernel_rfl) (fun K hK => ?_)
            go_simp
            refine (hadd_any hb F st y.key y.n _ (HO.out.below hD) (by omega)).mono ?_
            rintro r w5 ⟨rfl, F5, hO5, hu5⟩
            have hF5 := hu5.base hKe.size HF.out
            have hB5 : Below w3.heap.size w3 w5 := hu5.belowB hKe (Nat.le_refl _) HF.out
            rw [← HKT.out] at hO5
            have HO5 := Lib.hid hO5
            have HF5 := Lib.hid hF5
            clear hKe hO5 hu5 hF5
            have hKe := hB5
            clear hB5
            generalize hokB st y.key y.n = bb at *
            go_wp2_with fail
            refine hK.out _ _ ?_ (fun hHeld => ?_)
            · exact ⟨(hKe.cell (p := ⟨b, o + k * 2, none⟩) hbl3).trans e1w, (hKe.cell (p := ⟨b, o + k * 2 + 1, none⟩) hbl3).trans e2w⟩
            clear hK K
            (try simp only [Act.put, List.setIfInBounds_toArray, List.set_cons_zero, List.set_cons_succ])
            refine heldDone (by kernel_rfl) ?_ _
            have HB6 := Lib.hid hKe
            clear hKe hD
            go_wp2
            go_roundg (gk - 1)
            case measure => have := HK.out; omega
            case rel => exact ⟨k + 1, F5, by go_num, Lib.hid (by have := HK.out; omega), HO5, HF5, HB6⟩
          · have hall : l.take k = l := List.take_of_length_le (by omega)
            have hO := HO.out
            rw [hall] at hO
            generalize hst : addAll st0 l = st at *
            have hO5 := Lib.hid hO
            clear hO hall HK
            obtain ⟨hsu, hln⟩ := cert_keys hO5.out.inv HCERT.out HKL.out
            have hcs := HCERT.out.1
            have hcl := HCERT.out.2
            have HSU := Lib.hid hsu
            have HLN := Lib.hid hln
            have HCS := Lib.hid hcs
            have HCL := Lib.hid hcl
            have HB5 : Hid (Below w.heap.size w wr) := Lib.hid (HB.out.trans (HB4.out.mono HB.out.size))
            have HST5 : Hid (StrsAt wr wr.heap.size Ak K) := Lib.hid ((HST.out.below HB4.out).more HB4.out.size)
            clear hsu hln hcs hcl hst HCERT HB HST HB4 HF HO
            obtain ⟨w5, rfl⟩ : ∃ w5 : World, w5 = wr := ⟨_, rfl⟩
            have htb := fun k => truthV_bd l k
            have HTB := Lib.hid htb
            clear htb
            go_wp2_with fail
            go_loopg [11] K.length (fun rest i wr => ∃ (k : Nat), i = .int .i64 k ∧ Hid (k + rest = K.length) ∧ Hid (Below w5.heap.size w5 wr))
            case atStart => exact ⟨0, rfl, Lib.hid (by simp), Lib.hid (Below.refl _ _)⟩
            case round =>
              obtain ⟨k, rfl, HK, HB6⟩ := hrel
              by_cases hk : (k : Int) < (K.length : Int)
              · have hkl : k < K.length := by omega
                obtain ⟨b, o, rfl, hbl, e1, -⟩ := (HST5.out.below HB6.out).one hkl
                have hks : (K[k].size : Int) ≤ 100 := by
                  obtain ⟨a, ha, e, _⟩ := (HKL.out.2.1 K[k]).1 (List.getElem_mem hkl)
                  rw [← e]
                  exact hno.out.2 a ha
                generalize K[k] = y at *
                have htb1 := HTB.out y
                have hlow := HCL.out y
                have HLOW := Lib.hid hlow
                have HKO : Hid (strOk y) := Lib.hid (by show y.size ≤ maxLen; unfold maxLen; omega)
                clear hlow
                have hB6 : Below w.heap.size w wr := HB5.out.trans (HB6.out.mono HB5.out.size)
                go_wp2_with fail
                refine (truth_any A w.heap.size c l y _ (HL.out.below hB6) hB6.size (by omega)).mono ?_
                rintro e w7 ⟨rfl, hb7⟩
                have hB7 : Below w5.heap.size w5 w7 := HB6.out.trans (hb7.mono HB6.out.size)
                have e1w : w7.cell? ⟨b, o + k, none⟩ = some (.string y) := (hb7.cell (p := ⟨b, o + k, none⟩) (Nat.lt_of_lt_of_le hbl HB6.out.size)).trans e1
                have HB7 := Lib.hid hB7
                clear hb7 hB7 hB6 e1
                go_wp2_with fail
                refine (hlow_o (hO5.out.below HB7.out) y HKO.out).mono ?_
                rintro e w8 ⟨rfl, rfl⟩
                rw [HLOW.out]
                go_wp2_with fail
                refine (hhigh_o (hO5.out.below HB7.out) y HKO.out).mono ?_
                rintro e w8 ⟨rfl, hb8⟩
                rw [HLOW.out, HCS.out, Int.add_zero]
                have HB8 : Hid (Below w5.heap.size w5 w8) := Lib.hid (HB7.out.trans (hb8.mono HB7.out.size))
                clear hb8
                generalize truthV l y = tv at *
                go_wp2
                go_roundg (gk - 1)
                case measure => have := HK.out; omega
                case rel => exact ⟨k + 1, by go_num, Lib.hid (by have := HK.out; omega), HB8⟩
              · have hO6 := hO5.out.below HB6.out
                have HO6 := Lib.hid hO6
                have HB7 : Hid (Below w.heap.size w wr) := Lib.hid (HB5.out.trans (HB6.out.mono HB5.out.size))
                have HST6 : Hid (StrsAt wr w5.heap.size Ak K) := Lib.hid (HST5.out.below HB6.out)
                have hz6 := HB6.out.size
                have HKO : Hid (strOk key) := Lib.hid (by show key.size ≤ maxLen; unfold maxLen; omega)
                clear hO6
                go_wp2_with fail
                refine (hslack_o HO6.out).mono ?_
                rintro e w8 ⟨rfl, rfl⟩
                rw [HCS.out]
                go_wp2_with fail
                refine (htop_o HO6.out 5000 (by omega)).mono ?_
                rintro e w8 ⟨A8, c8, ts, rfl, hts, -, hb8⟩
                have hlen8 : ts.length = K.length := by
                  obtain ⟨cs, hc, rfl⟩ := hts
                  have h1 := HLN.out
                  rw [List.length_take, hc.len]
                  unfold topM
                  omega
                rw [hlen8]
                clear hts hlen8
                go_wp2_with fail
                refine (hsure_o (HO6.out.below hb8) 1).mono ?_
                rintro e w9 ⟨A9, c9, ks, rfl, hks, hown9, hb9⟩
                have hB9 : Below wr.heap.size wr w9 := hb8.trans (hb9.mono hb8.size)
                obtain rfl : ks = K := hks.uniq HSU.out
                have hs9 : StrsAt w9 w9.heap.size A9 ks := StrsAt.of_own hown9 (fun s hs => by
                  obtain ⟨a, ha, e, _⟩ := (HKL.out.2.1 s).1 hs
                  rw [← e]
                  have := hno.out.2 a ha
                  unfold maxLen
                  omega)
                clear hown9 hks
                go_wp2_with fail
                refine (texts_any A9 Ak _ w5.heap.size c9 ck ks ks _ hs9 (HST6.out.below (hB9.mono hz6)) (Nat.le_refl _) (Nat.le_trans hz6 hB9.size) (by omega)).mono ?_
                rintro e w10 ⟨rfl, hg10⟩
                rw [decide_eq_true (rfl : ks = ks)]
                have hB10 : Below wr.heap.size wr w10 := hB9.trans (hg10.below.mono hB9.size)
                have hB11 : Below w.heap.size w w10 := HB7.out.trans (hB10.mono HB7.out.size)
                have HO10 := Lib.hid (HO6.out.below hB10)
                have HB11 := Lib.hid hB11
                have hlk := HCL.out key
                have HLK := Lib.hid hlk
                clear hB9 hB10 hB11 hg10 hs9 hlk
                go_wp2_with fail
                refine (hlow_o HO10.out key HKO.out).mono ?_
                rintro e w11 ⟨rfl, rfl⟩
                rw [HLK.out]
                go_wp2_with fail
                refine (truth_any A w.heap.size c l key _ (HL.out.below HB11.out) HB11.out.size (by omega)).mono ?_
                rintro e w12 ⟨rfl, hb12⟩
                have HB12 : Hid (Below w.heap.size w w12) := Lib.hid (HB11.out.trans (hb12.mono HB11.out.size))
                clear hb12
                generalize truthV l key = tv at *
                go_wp2
                go_ret
                exact ⟨rfl, HB12.out⟩
end Go.Proofs.Ytpjaolablkcpmaa
