/- Contract of the reference's Sample. -/
import Derived.Test.YtpbaokhlhhpiiaaDrawH
import Derived.Test.YtpbaokhlhhpiiaaKitP
import Derived.Test.YtpbaokhlhhpiiaaIns
namespace Go.Proofs.Ytpbaokhlhhpiiaa
open Go.ChangeShapes Go.WideShapes Go.ChangeAt Go.RowKit
set_option linter.unusedVariables false
set_option linter.unusedSimpArgs false

theorem strs_one' (l : List ByteArray) : ∀ u ∈ l.map Value.string, u.oneCell' = true := by
  intro u hu
  obtain ⟨n, _, rfl⟩ := List.mem_map.1 hu
  rfl
def smpGo (seed : Int) (x y : ByteArray) : Bool := !smpLt seed x y

/-- A slice of texts is handed back; what was there stays. -/
def RetS (w : World) (v : List ByteArray) (e : Ending) (w' : World) : Prop := ∃ A' c', e = .returned (.slice A' v.length c') ∧ StrsAt w' w'.heap.size A' v ∧ v.length ≤ c' ∧ (∀ b o sp, A' = some ⟨b, o, sp⟩ → w.heap.size ≤ b ∧ b < w'.heap.size) ∧ Below w.heap.size w w'

theorem insAll_sample (seed : Int) (l : List ByteArray) : insAll (smpGo seed) (onceV l) = sampleAll seed l := by
  have hp := insAll_perm (smpGo seed) (onceV l)
  refine sampleAll_unique (fun y => by rw [hp.mem_iff, mem_onceV]) (hp.nodup_iff.2 (nodup_onceV l)) (insAll_sorted (smpLt seed) (smp_trans seed) (smpGo seed) _ (nodup_onceV l) (fun x _ y _ hne => ?_))
  unfold smpGo
  refine ⟨fun h => ?_, fun h => by simpa using h⟩
  cases h' : smpLt seed y x with
  | true => rfl
  | false => exact absurd (smp_total seed x y (by simpa using h) h') hne

set_option maxRecDepth 20000 in
set_option maxHeartbeats 8000000 in
theorem rsample_any (seed n : Int) (A : Option Addr) (B c : Nat) (l : List ByteArray) (w : World) (h : StrsAt w B A l) (hB : B ≤ w.heap.size) (hl : (l.length : Int) ≤ 1000000) (hn : n ≤ 9223372036854775807) (hs8 : ∀ s ∈ l, (s.size : Int) ≤ 1000000) :
    Calls Try.prog 17 #[.int .u64 seed, .int .i64 n, .slice A l.length c] w (RetS w (sampleV seed n l)) := by
  have hlen := onceV_len l
  have hsA : ∀ s ∈ onceV l, s.size ≤ maxLen := fun s hs => h.2 s (mem_onceV.1 hs)
  have hsA8 : ∀ s ∈ onceV l, (s.size : Int) ≤ 1000000 := fun s hs => hs8 s (mem_onceV.1 hs)
  have HSA := Lib.hid hsA
  have HSA8 := Lib.hid hsA8
  clear hsA hsA8
  have hb0 : Below w.heap.size w (w.alloc (.cells #[] 9)) := (Below.refl _ _).alloc (Nat.le_refl _) _
  have h0 := (h.below (hb0.mono hB)).more (B' := (w.alloc (.cells #[] 9)).heap.size) (by simp; omega)
  go_enter Try.func17, Try.ntmps17
  go_wp2_with fail
  refine (once_any A _ c l _ h0 (Nat.le_refl _) hl).mono ?_
  rintro e w1 ⟨P1, p1, rfl, ho1, hb1⟩
  have hz1 := hb1.size
  simp at hz1
  have hb01 : Below w.heap.size w w1 := hb0.trans (hb1.mono (by simp))
  have hE : w1.ownsRow w.heap.size 9 1 (.slice (some ⟨w.heap.size, 0, none⟩) 0 0) 0 [] := own_empty (Nat.le_refl _) ((hb1.block _ (by simp)).trans (heap_alloc_new w _))
  have hr1 : StrsAt w1 w1.heap.size P1 (onceV l) := StrsAt.of_own ho1 HSA.out
  generalize hall : onceV l = all at *
  have HALL := Lib.hid hall
  clear hall hb0 h0 hb1 ho1
  go_wp2_with fail
  go_loopg [7, 9] all.length (fun rest v i wr => ∃ (k : Nat) (g3 : Nat) (c3 : Nat), i = .int .i64 k ∧ v = .slice (some ⟨g3, 0, none⟩) (insAll (smpGo seed) (all.take k)).length c3 ∧ Hid (k + rest = all.length) ∧ wr.ownsRow w.heap.size 9 1 (.slice (some ⟨g3, 0, none⟩) (insAll (smpGo seed) (all.take k)).length c3) (insAll (smpGo seed) (all.take k)).length ((insAll (smpGo seed) (all.take k)).map Value.string) ∧ Below w1.heap.size w1 wr)
  case atStart => exact ⟨0, w.heap.size, 0, rfl, rfl, Lib.hid (by simp), hE, Below.refl _ _⟩
  case round =>
    obtain ⟨k, g3, c3, rfl, rfl, HK, hown, hb⟩ := hrel
    obtain ⟨w2, rfl⟩ : ∃ w2 : World, w2 = wr := ⟨_, rfl⟩
    obtain ⟨hsp3, hcap3⟩ := own_sp hown
    have hperm := insAll_perm (smpGo seed) (all.take k)
    have holen : (insAll (smpGo seed) (all.take k)).length ≤ all.length := by rw [hperm.length_eq]; simp; omega
    have hsO : ∀ s ∈ insAll (smpGo seed) (all.take k), s ∈ all := fun s hs => List.take_subset _ _ (hperm.subset hs)
    have hrO0 : StrsAt w2 w2.heap.size (some ⟨g3, 0, none⟩) (insAll (smpGo seed) (all.take k)) := StrsAt.of_own hown (fun s hs => HSA.out s (hsO s hs))
    have hz2 := hb.size
    by_cases hk : (k : Int) < (all.length : Int)
    · have hkl : k < all.length := by omega
      have hst : insAll (smpGo seed) (all.take (k + 1)) = insV (smpGo seed all[k]) all[k] (insAll (smpGo seed) (all.take k)) := by rw [List.take_succ_eq_append_getElem hkl, insAll_snoc]
      have HST := Lib.hid hst
      obtain ⟨b, o, rfl, hbl0, hcell0, hsx⟩ := (hr1.below hb).one hkl
      have hx8 := HSA8.out _ (List.getElem_mem hkl)
      have hxm := HSA.out _ (List.getElem_mem hkl)
      have HSO := Lib.hid hsO
      clear hst hsO hperm hsx
      generalize insAll (smpGo seed) (all.take k) = out at *
      generalize all[k] = x at *
      have HQ : Hid (∀ (s : ByteArray) (b : Nat) (W : World), s.size ≤ maxLen → (s.size : Int) ≤ 1000000 → W.cell? ⟨b, 0, none⟩ = some (.string s) → Calls Try.prog 13 #[.int .u64 seed, .slice (some ⟨b, 0, none⟩) 1 1] W fun e w' => e = .returned (.int .u64 (hashV seed [s])) ∧ W = w') :=
        Lib.hid (fun s b W h1 h2 h3 => rhash_any seed (some ⟨b, 0, none⟩) (b + 1) 1 [s] W (strs_one h3 h1) (by simp) (by simpa using h2))
      go_wp2_with fail
      refine (HQ.out x _ _ hxm hx8 (by go_simp)).mono ?_
      rintro e w3 ⟨rfl, rfl⟩
      have hlt := smp_lt seed x
      have HLT := Lib.hid hlt
      clear hlt
      generalize hashV seed [x] = hx1 at *
      have hbw3 : Below w2.heap.size w2 (w2.alloc (.cells #[.string x] 9)) := (Below.refl _ _).alloc (Nat.le_refl _) _
      generalize hW3 : w2.alloc (.cells #[.string x] 9) = w3 at *
      clear hW3
      go_wp2_with fail
      go_loopg [11, 12] out.length (fun rest i g wr => ∃ m : Nat, i = .int .i64 m ∧ Hid (m + rest = out.length) ∧ Hid (∀ j (hj : j < out.length), j < m → smpGo seed x out[j] = true) ∧ Below w2.heap.size w2 wr)
      case atStart => exact ⟨0, rfl, Lib.hid (by simp), Lib.hid (by intro j _ h; omega), hbw3⟩
      case round =>
        obtain ⟨m, rfl, HM, HG, hbm⟩ := hrel
        obtain ⟨w6, rfl⟩ : ∃ w6 : World, w6 = wr := ⟨_, rfl⟩
        have hz6 := hbm.size
        by_cases hm : (m : Int) < (out.length : Int)
        · have hml : m < out.length := by omega
          obtain ⟨b3, o3, e3, hb3, hcell3, _⟩ := (hrO0.below hbm).one hml
          injection e3 with e3
          injection e3 with e31 e32
          subst e31 e32
          rw [Nat.zero_add] at hcell3
          have hym := HSA.out _ (HSO.out _ (List.getElem_mem hml))
          have hy8 := HSA8.out _ (HSO.out _ (List.getElem_mem hml))
          have hly := HLT.out out[m]
          have hgo : smpGo seed x out[m] = !smpLt seed x out[m] := rfl
          have hcell6 : w6.cell? ⟨b, o + k, none⟩ = some (.string x) := (hbm.cell (p := ⟨b, o + k, none⟩) (by show b < _; omega)).trans hcell0
          generalize hy : out[m] = y at *
          have HY := Lib.hid hy
          clear hy
          go_wp2_with fail
          refine (HQ.out y _ _ hym hy8 (by go_simp)).mono ?_
          rintro e w3' ⟨rfl, rfl⟩
          generalize hashV seed [y] = hy1 at *
          have HLY := Lib.hid hly
          have HGO := Lib.hid hgo
          clear hly hgo
          have hml' : (m : Int) < (out.length : Int) := hm
          have hg36 : g3 < w6.heap.size := by omega
          have hb36 : b < w6.heap.size := by omega
          rcases Int.lt_trichotomy hx1 hy1 with hc1 | hc1 | hc1
          · have HG2 : Hid (smpGo seed x y = false) := Lib.hid (by
              rw [HGO.out, HLY.out.2 (.inl hc1)]; rfl)
            have HAT : Hid (insAt (smpGo seed x) out = m) := Lib.hid (insAt_eq _ _ m (by omega) HG.out (fun h => by rw [HY.out]; exact HG2.out))
            go_wp2_with fail
            go_quiet (fail)
            have hbm2 : Below w2.heap.size w2 ((w6.alloc (.cells #[.string y] 9)).drewN nq) := below_drewN (hbm.alloc hz6 _) _
            go_wp2_with fail
            generalize (w6.alloc (.cells #[.string y] 9)).drewN nq = w8 at *
            clear hcell6 hcell3 hbm hz6 hm
            obtain ⟨w6, rfl⟩ : ∃ w6 : World, w6 = w8 := ⟨_, rfl⟩
            have hbm := hbm2
            have hz6 := hbm.size
            clear hbm2
            have hmle : m ≤ out.length := by omega
            have hbl : b < w6.heap.size := by omega
            have hcell : w6.cell? ⟨b, o + k, none⟩ = some (.string x) := (hbm.cell (p := ⟨b, o + k, none⟩) (by show b < _; omega)).trans hcell0
            have hrA : Reads w6 w6.heap.size 1 (some ⟨g3, 0, none⟩) out.length (out.map Value.string) := ((hrO0.below hbm).more hz6).1
            have hrO : Reads w6 w6.heap.size 1 (some ⟨g3, 0, none⟩) m ((out.take m).map Value.string) := by
              have := hrA.take hmle
              rw [Nat.mul_one, ← List.map_take] at this
              exact this
            have hmc : (m : Int) ≤ (c3 : Int) := by omega
            refine heldStart 11 (S := fun W => W.cell? ⟨b, o + k, none⟩ = some (.string x)) (by kernel_rfl) ?_ (fun hHeld => ?_)
            · exact (Below.cell (p := ⟨b, o + k, none⟩) (by repeat (first | exact Below.refl _ _ | exact hB4 | exact hB5 | refine Below.alloc ?_ (by first | (simp; done) | (have := hB4.size; simp; omega) | (have := hB4.size; omega)) _ | refine Below.drew ?_)) hbl).trans hcell
            refine heldTake 1 (v := ?_) (by simp only [List.getElem?_toArray, List.getElem?_cons_succ, List.getElem?_cons_zero]; rfl) (by kernel_rfl) (by intro _ _ _ h; exact h) (by rfl) (by assumption) ?_ ?_
            rotate_left
            · intro W hSw; (try dsimp only at hSw); go_simp; try with_reducible rfl
            simp only [Act.put, List.setIfInBounds_toArray, List.set_cons_zero, List.set_cons_succ]
            refine heldTake 2 (v := ?_) (by simp only [List.getElem?_toArray, List.getElem?_cons_succ, List.getElem?_cons_zero]; rfl) (by kernel_rfl) (by intro _ _ _ h; exact h) (by rfl) (by assumption) ?_ ?_
            rotate_left
            · intro W hSw; (try dsimp only at hSw); go_simp; try with_reducible rfl
            simp only [Act.put, List.setIfInBounds_toArray, List.set_cons_zero, List.set_cons_succ]
            refine heldTake 3 (v := ?_) (by simp only [List.getElem?_toArray, List.getElem?_cons_succ, List.getElem?_cons_zero]; rfl) (by kernel_rfl) (by intro _ _ _ h; exact h) (by rfl) (by assumption) ?_ ?_
            rotate_left
            · intro W hSw; (try dsimp only at hSw); go_simp; try with_reducible rfl
            simp only [Act.put, List.setIfInBounds_toArray, List.set_cons_zero, List.set_cons_succ]
            refine heldTake 5 (v := ?_) (by simp only [List.getElem?_toArray, List.getElem?_cons_succ, List.getElem?_cons_zero]; rfl) (by kernel_rfl) (by intro _ _ _ h; exact h) (by rfl) (by assumption) ?_ ?_
            rotate_left
            · intro W hSw; (try dsimp only at hSw); go_simp; try with_reducible rfl
            simp only [Act.put, List.setIfInBounds_toArray, List.set_cons_zero, List.set_cons_succ]
            refine heldTake 6 (v := ?_) (by simp only [List.getElem?_toArray, List.getElem?_cons_succ, List.getElem?_cons_zero]; rfl) (by kernel_rfl) (by intro _ _ _ h; exact h) (by rfl) (by assumption) ?_ ?_
            rotate_left
            · intro W hSw; (try dsimp only at hSw); go_simp; try with_reducible rfl
            simp only [Act.put, List.setIfInBounds_toArray, List.set_cons_zero, List.set_cons_succ]
            refine heldTake 7 (v := ?_) (by simp only [List.getElem?_toArray, List.getElem?_cons_succ, List.getElem?_cons_zero]; rfl) (by kernel_rfl) (by intro _ _ _ h; exact h) (by rfl) (by assumption) ?_ ?_
            rotate_left
            · intro W hSw; (try dsimp only at hSw); go_simp; try with_reducible rfl
            simp only [Act.put, List.setIfInBounds_toArray, List.set_cons_zero, List.set_cons_succ]
            refine heldTake 8 (v := ?_) (by simp only [List.getElem?_toArray, List.getElem?_cons_succ, List.getElem?_cons_zero]; rfl) (by kernel_rfl) (by intro _ _ _ h; exact h) (by rfl) (by assumption) ?_ ?_
            rotate_left
            · intro W hSw; (try dsimp only at hSw); go_simp; try with_reducible rfl
            simp only [Act.put, List.setIfInBounds_toArray, List.set_cons_zero, List.set_cons_succ]
            refine heldFork 0 9 (by kernel_rfl) ?_ ?_
            · refine heldOp 0 (by simp only [List.getElem?_toArray, List.getElem?_cons_succ, List.getElem?_cons_zero]; rfl) (fun K hK => ?_)
              go_simp
              refine hK.out _ _ ?_ (fun hHeld => ?_)
              · exact (Below.cell (p := ⟨b, o + k, none⟩) (by repeat (first | exact Below.refl _ _ | exact hB4 | exact hB5 | refine Below.alloc ?_ (by first | (simp; done) | (have := hB4.size; simp; omega) | (have := hB4.size; omega)) _ | refine Below.drew ?_)) hbl).trans hcell
              clear hK K
              (try simp only [Act.put, List.setIfInBounds_toArray, List.set_cons_zero, List.set_cons_succ])
              refine heldFork 4 9 (by kernel_rfl) ?_ ?_
              · refine heldOpLaw 4 (by simp only [List.getElem?_toArray, List.getElem?_cons_succ, List.getElem?_cons_zero]; rfl) (by rfl) (fun K hK => ?_)
                refine wp_append_to _ (.tmp 62) (.tmp 65) _ rfl w6.heap.size 9 (.string ByteArray.empty) 1 16 Try.underlying23 str_info rfl (by omega) (some ⟨_, 0, none⟩) 0 0 [] rfl (own_empty (by simp) (by first | exact heapN1 _ _ | exact heapN3 _ _ _ | exact heapN2 _ _ _)) (some ⟨g3, 0, none⟩) w6.heap.size m c3 ((out.take m).map Value.string) rfl (hrO.below (by repeat (first | exact Below.refl _ _ | exact hB4 | exact hB5 | refine Below.alloc ?_ (by first | (simp; done) | (have := hB4.size; simp; omega) | (have := hB4.size; omega)) _ | refine Below.drew ?_))) (fun h => by cases h) (strs_one' _) m (by omega) (by unfold maxLen; omega) (by omega) (by first | (simp; done) | (simp; omega)) ?_
                intro A4 c4 w4 hown4 hg4 hb4
                have hB4 : Below w6.heap.size w6 w4 := Below.trans (by repeat (first | exact Below.refl _ _ | exact hB4 | exact hB5 | refine Below.alloc ?_ (by first | (simp; done) | (have := hB4.size; simp; omega) | (have := hB4.size; omega)) _ | refine Below.drew ?_)) hb4
                simp only [List.nil_append] at hown4
                refine hK.out _ _ ?_ (fun hHeld => ?_)
                · exact (Below.cell (p := ⟨b, o + k, none⟩) (by repeat (first | exact Below.refl _ _ | exact hB4 | exact hB5 | refine Below.alloc ?_ (by first | (simp; done) | (have := hB4.size; simp; omega) | (have := hB4.size; omega)) _ | refine Below.drew ?_)) hbl).trans hcell
                clear hK K
                (try simp only [Act.put, List.setIfInBounds_toArray, List.set_cons_zero, List.set_cons_succ])
                refine heldCall 9 (by simp only [List.getElem?_toArray, List.getElem?_cons_succ, List.getElem?_cons_zero]; rfl) (by kernel_rfl) (fun K hK => ?_)
                go_simp
                refine hK.out _ _ ?_ (fun hHeld => ?_)
                · exact (Below.cell (p := ⟨b, o + k, none⟩) (by repeat (first | exact Below.refl _ _ | exact hB4 | exact hB5 | refine Below.alloc ?_ (by first | (simp; done) | (have := hB4.size; simp; omega) | (have := hB4.size; omega)) _ | refine Below.drew ?_)) hbl).trans hcell
                clear hK K
                (try simp only [Act.put, List.setIfInBounds_toArray, List.set_cons_zero, List.set_cons_succ])
                refine heldLaw 10 (by simp only [List.getElem?_toArray, List.getElem?_cons_succ, List.getElem?_cons_zero]; rfl) (by kernel_rfl) (by rfl) (fun K hK => ?_)
                refine wp_append_to _ (.tmp 66) (.tmp 71) _ rfl w6.heap.size 9 (.string ByteArray.empty) 1 16 Try.underlying23 str_info rfl (by omega) A4 m c4 ((out.take m).map Value.string) rfl (hown4.alloc _) (some ⟨_, 0, none⟩) _ 1 1 [.string x] rfl (reads_blk (t := 9) (fr := (0, 0)) (heapM1 _ _) rfl) (fun h => by cases h) (by intro u hu; simp at hu; subst hu; rfl) (m + 1) rfl (by unfold maxLen; omega) (by omega) (by have := hB4.size; simp; omega) ?_
                intro A5 c5 w5 hown5 hg5 hb5
                have hB5 : Below w6.heap.size w6 w5 := Below.trans (by repeat (first | exact Below.refl _ _ | exact hB4 | exact hB5 | refine Below.alloc ?_ (by first | (simp; done) | (have := hB4.size; simp; omega) | (have := hB4.size; omega)) _ | refine Below.drew ?_)) hb5
                refine hK.out _ _ ?_ (fun hHeld => ?_)
                · exact (Below.cell (p := ⟨b, o + k, none⟩) (by repeat (first | exact Below.refl _ _ | exact hB4 | exact hB5 | refine Below.alloc ?_ (by first | (simp; done) | (have := hB4.size; simp; omega) | (have := hB4.size; omega)) _ | refine Below.drew ?_)) hbl).trans hcell
                clear hK K
                (try simp only [Act.put, List.setIfInBounds_toArray, List.set_cons_zero, List.set_cons_succ])
                refine heldTake 11 (v := ?_) (by simp only [List.getElem?_toArray, List.getElem?_cons_succ, List.getElem?_cons_zero]; rfl) (by kernel_rfl) (by intro _ _ _ h; exact h) (by rfl) (by assumption) ?_ ?_
                rotate_left
                · intro W hSw; (try dsimp only at hSw); go_simp; try with_reducible rfl
                simp only [Act.put, List.setIfInBounds_toArray, List.set_cons_zero, List.set_cons_succ]
                refine heldDone (by kernel_rfl) ?_ _
                have hz5 := hB5.size
                have hrD := hrA.below hB5
                have hmlen : (m : Int) ≤ (out.length : Int) := by omega
                have HINS : Hid (insAll (smpGo seed) (all.take (k + 1)) = out.take m ++ [x] ++ out.drop m) := Lib.hid (by rw [HST.out]; unfold insV; rw [HAT.out])
                have HLN : Hid ((insAll (smpGo seed) (all.take (k + 1))).length = out.length + 1) := Lib.hid (by rw [HINS.out]; simp; omega)
                by_cases hq : c3 = m
                · have hR1 : Reads w5 w6.heap.size 1 (some ⟨g3, 0, none⟩) (out.length - m) ((out.drop m).map Value.string) := ⟨by simp, fun hp => by omega⟩
                  have hR2 : Reads w5 w6.heap.size 1 (some ⟨g3, 0, none⟩) 0 ((out.drop m).map Value.string) := ⟨by simp; omega, fun hp => by omega⟩
                  go_wp2_with (at_builtin; refine wpList_append_to w5 (by rfl) (.tmp 73) (.tmp 76) _ rfl w6.heap.size 9 (.string ByteArray.empty) 1 16 Try.underlying23 str_info rfl (by omega) A5 (m + 1) c5 _ rfl hown5 _ w6.heap.size _ _ ((out.drop m).map Value.string) rfl (by first | exact hR1 | exact hR2) (fun h => by cases h) (strs_one' _) (out.length + 1) (by omega) (by unfold maxLen; omega) (by omega) (by omega) ?_; intro A7 c7 w7 hown7 hg7 hb7)
                  obtain ⟨g7, cap7, hv7, _, _⟩ := hown7.form (by omega)
                  injection hv7 with hv7
                  subst hv7
                  go_roundg (all.length - k - 1)
                  case measure => have := HK.out; omega
                  case rel =>
                    refine ⟨k + 1, g7, c7, by go_num, by rw [HLN.out], Lib.hid (by have := HK.out; omega), ?_, ((hb.trans (hbm.mono hz2)).trans (hB5.mono (by omega))).trans (hb7.mono (by omega))⟩
                    rw [HLN.out, HINS.out, List.map_append, List.map_append]
                    exact own_base hown7 (by omega)
                · have hR1 : Reads w5 w6.heap.size 1 (some ⟨g3, m, none⟩) (out.length - m) ((out.drop m).map Value.string) := by
                    have := hrD.drop (m := m) (c := c3) (by omega) (by omega) rfl
                    rw [if_neg hq, Nat.mul_one, Nat.zero_add, ← List.map_drop] at this
                    exact this
                  have hR2 := hR1
                  go_wp2_with (at_builtin; refine wpList_append_to w5 (by rfl) (.tmp 73) (.tmp 76) _ rfl w6.heap.size 9 (.string ByteArray.empty) 1 16 Try.underlying23 str_info rfl (by omega) A5 (m + 1) c5 _ rfl hown5 _ w6.heap.size _ _ ((out.drop m).map Value.string) rfl (by first | exact hR1 | exact hR2) (fun h => by cases h) (strs_one' _) (out.length + 1) (by omega) (by unfold maxLen; omega) (by omega) (by omega) ?_; intro A7 c7 w7 hown7 hg7 hb7)
                  obtain ⟨g7, cap7, hv7, _, _⟩ := hown7.form (by omega)
                  injection hv7 with hv7
                  subst hv7
                  go_roundg (all.length - k - 1)
                  case measure => have := HK.out; omega
                  case rel =>
                    refine ⟨k + 1, g7, c7, by go_num, by rw [HLN.out], Lib.hid (by have := HK.out; omega), ?_, ((hb.trans (hbm.mono hz2)).trans (hB5.mono (by omega))).trans (hb7.mono (by omega))⟩
                    rw [HLN.out, HINS.out, List.map_append, List.map_append]
                    exact own_base hown7 (by omega)
              · refine heldOp 9 (by simp only [List.getElem?_toArray, List.getElem?_cons_succ, List.getElem?_cons_zero]; rfl) (fun K hK => ?_)
                go_simp
                refine hK.out _ _ ?_ (fun hHeld => ?_)
                · exact (Below.cell (p := ⟨b, o + k, none⟩) (by repeat (first | exact Below.refl _ _ | exact hB4 | exact hB5 | refine Below.alloc ?_ (by first | (simp; done) | (have := hB4.size; simp; omega) | (have := hB4.size; omega)) _ | refine Below.drew ?_)) hbl).trans hcell
                clear hK K
                (try simp only [Act.put, List.setIfInBounds_toArray, List.set_cons_zero, List.set_cons_succ])
                refine heldLaw 4 (by simp only [List.getElem?_toArray, List.getElem?_cons_succ, List.getElem?_cons_zero]; rfl) (by kernel_rfl) (by rfl) (fun K hK => ?_)
                refine wp_append_to _ (.tmp 62) (.tmp 65) _ rfl w6.heap.size 9 (.string ByteArray.empty) 1 16 Try.underlying23 str_info rfl (by omega) (some ⟨_, 0, none⟩) 0 0 [] rfl (own_empty (by simp) (by first | exact heapN1 _ _ | exact heapN3 _ _ _ | exact heapN2 _ _ _)) (some ⟨g3, 0, none⟩) w6.heap.size m c3 ((out.take m).map Value.string) rfl (hrO.below (by repeat (first | exact Below.refl _ _ | exact hB4 | exact hB5 | refine Below.alloc ?_ (by first | (simp; done) | (have := hB4.size; simp; omega) | (have := hB4.size; omega)) _ | refine Below.drew ?_))) (fun h => by cases h) (strs_one' _) m (by omega) (by unfold maxLen; omega) (by omega) (by first | (simp; done) | (simp; omega)) ?_
                intro A4 c4 w4 hown4 hg4 hb4
                have hB4 : Below w6.heap.size w6 w4 := Below.trans (by repeat (first | exact Below.refl _ _ | exact hB4 | exact hB5 | refine Below.alloc ?_ (by first | (simp; done) | (have := hB4.size; simp; omega) | (have := hB4.size; omega)) _ | refine Below.drew ?_)) hb4
                simp only [List.nil_append] at hown4
                refine hK.out _ _ ?_ (fun hHeld => ?_)
                · exact (Below.cell (p := ⟨b, o + k, none⟩) (by repeat (first | exact Below.refl _ _ | exact hB4 | exact hB5 | refine Below.alloc ?_ (by first | (simp; done) | (have := hB4.size; simp; omega) | (have := hB4.size; omega)) _ | refine Below.drew ?_)) hbl).trans hcell
                clear hK K
                (try simp only [Act.put, List.setIfInBounds_toArray, List.set_cons_zero, List.set_cons_succ])
                refine heldLaw 10 (by simp only [List.getElem?_toArray, List.getElem?_cons_succ, List.getElem?_cons_zero]; rfl) (by kernel_rfl) (by rfl) (fun K hK => ?_)
                refine wp_append_to _ (.tmp 66) (.tmp 71) _ rfl w6.heap.size 9 (.string ByteArray.empty) 1 16 Try.underlying23 str_info rfl (by omega) A4 m c4 ((out.take m).map Value.string) rfl (hown4) (some ⟨_, 0, none⟩) _ 1 1 [.string x] rfl (reads_blk (t := 9) (fr := (0, 0)) ((hg4.block _ (by simp) (by simp [Value.ownBlock])).trans (by first | exact heapN2 _ _ _ | exact heapN3 _ _ _)) rfl) (fun h => by cases h) (by intro u hu; simp at hu; subst hu; rfl) (m + 1) rfl (by unfold maxLen; omega) (by omega) (by have := hB4.size; simp; omega) ?_
                intro A5 c5 w5 hown5 hg5 hb5
                have hB5 : Below w6.heap.size w6 w5 := Below.trans (by repeat (first | exact Below.refl _ _ | exact hB4 | exact hB5 | refine Below.alloc ?_ (by first | (simp; done) | (have := hB4.size; simp; omega) | (have := hB4.size; omega)) _ | refine Below.drew ?_)) hb5
                refine hK.out _ _ ?_ (fun hHeld => ?_)
                · exact (Below.cell (p := ⟨b, o + k, none⟩) (by repeat (first | exact Below.refl _ _ | exact hB4 | exact hB5 | refine Below.alloc ?_ (by first | (simp; done) | (have := hB4.size; simp; omega) | (have := hB4.size; omega)) _ | refine Below.drew ?_)) hbl).trans hcell
                clear hK K
                (try simp only [Act.put, List.setIfInBounds_toArray, List.set_cons_zero, List.set_cons_succ])
                refine heldTake 11 (v := ?_) (by simp only [List.getElem?_toArray, List.getElem?_cons_succ, List.getElem?_cons_zero]; rfl) (by kernel_rfl) (by intro _ _ _ h; exact h) (by rfl) (by assumption) ?_ ?_
                rotate_left
                · intro W hSw; (try dsimp only at hSw); go_simp; try with_reducible rfl
                simp only [Act.put, List.setIfInBounds_toArray, List.set_cons_zero, List.set_cons_succ]
                refine heldDone (by kernel_rfl) ?_ _
                have hz5 := hB5.size
                have hrD := hrA.below hB5
                have hmlen : (m : Int) ≤ (out.length : Int) := by omega
                have HINS : Hid (insAll (smpGo seed) (all.take (k + 1)) = out.take m ++ [x] ++ out.drop m) := Lib.hid (by rw [HST.out]; unfold insV; rw [HAT.out])
                have HLN : Hid ((insAll (smpGo seed) (all.take (k + 1))).length = out.length + 1) := Lib.hid (by rw [HINS.out]; simp; omega)
                by_cases hq : c3 = m
                · have hR1 : Reads w5 w6.heap.size 1 (some ⟨g3, 0, none⟩) (out.length - m) ((out.drop m).map Value.string) := ⟨by simp, fun hp => by omega⟩
                  have hR2 : Reads w5 w6.heap.size 1 (some ⟨g3, 0, none⟩) 0 ((out.drop m).map Value.string) := ⟨by simp; omega, fun hp => by omega⟩
                  go_wp2_with (at_builtin; refine wpList_append_to w5 (by rfl) (.tmp 73) (.tmp 76) _ rfl w6.heap.size 9 (.string ByteArray.empty) 1 16 Try.underlying23 str_info rfl (by omega) A5 (m + 1) c5 _ rfl hown5 _ w6.heap.size _ _ ((out.drop m).map Value.string) rfl (by first | exact hR1 | exact hR2) (fun h => by cases h) (strs_one' _) (out.length + 1) (by omega) (by unfold maxLen; omega) (by omega) (by omega) ?_; intro A7 c7 w7 hown7 hg7 hb7)
                  obtain ⟨g7, cap7, hv7, _, _⟩ := hown7.form (by omega)
                  injection hv7 with hv7
                  subst hv7
                  go_roundg (all.length - k - 1)
                  case measure => have := HK.out; omega
                  case rel =>
                    refine ⟨k + 1, g7, c7, by go_num, by rw [HLN.out], Lib.hid (by have := HK.out; omega), ?_, ((hb.trans (hbm.mono hz2)).trans (hB5.mono (by omega))).trans (hb7.mono (by omega))⟩
                    rw [HLN.out, HINS.out, List.map_append, List.map_append]
                    exact own_base hown7 (by omega)
                · have hR1 : Reads w5 w6.heap.size 1 (some ⟨g3, m, none⟩) (out.length - m) ((out.drop m).map Value.string) := by
                    have := hrD.drop (m := m) (c := c3) (by omega) (by omega) rfl
                    rw [if_neg hq, Nat.mul_one, Nat.zero_add, ← List.map_drop] at this
                    exact this
                  have hR2 := hR1
                  go_wp2_with (at_builtin; refine wpList_append_to w5 (by rfl) (.tmp 73) (.tmp 76) _ rfl w6.heap.size 9 (.string ByteArray.empty) 1 16 Try.underlying23 str_info rfl (by omega) A5 (m + 1) c5 _ rfl hown5 _ w6.heap.size _ _ ((out.drop m).map Value.string) rfl (by first | exact hR1 | exact hR2) (fun h => by cases h) (strs_one' _) (out.length + 1) (by omega) (by unfold maxLen; omega) (by omega) (by omega) ?_; intro A7 c7 w7 hown7 hg7 hb7)
                  obtain ⟨g7, cap7, hv7, _, _⟩ := hown7.form (by omega)
                  injection hv7 with hv7
                  subst hv7
                  go_roundg (all.length - k - 1)
                  case measure => have := HK.out; omega
                  case rel =>
                    refine ⟨k + 1, g7, c7, by go_num, by rw [HLN.out], Lib.hid (by have := HK.out; omega), ?_, ((hb.trans (hbm.mono hz2)).trans (hB5.mono (by omega))).trans (hb7.mono (by omega))⟩
                    rw [HLN.out, HINS.out, List.map_append, List.map_append]
                    exact own_base hown7 (by omega)
            · refine heldOp 9 (by simp only [List.getElem?_toArray, List.getElem?_cons_succ, List.getElem?_cons_zero]; rfl) (fun K hK => ?_)
              go_simp
              refine hK.out _ _ ?_ (fun hHeld => ?_)
              · exact (Below.cell (p := ⟨b, o + k, none⟩) (by repeat (first | exact Below.refl _ _ | exact hB4 | exact hB5 | refine Below.alloc ?_ (by first | (simp; done) | (have := hB4.size; simp; omega) | (have := hB4.size; omega)) _ | refine Below.drew ?_)) hbl).trans hcell
              clear hK K
              (try simp only [Act.put, List.setIfInBounds_toArray, List.set_cons_zero, List.set_cons_succ])
              refine heldCall 0 (by simp only [List.getElem?_toArray, List.getElem?_cons_succ, List.getElem?_cons_zero]; rfl) (by kernel_rfl) (fun K hK => ?_)
              go_simp
              refine hK.out _ _ ?_ (fun hHeld => ?_)
              · exact (Below.cell (p := ⟨b, o + k, none⟩) (by repeat (first | exact Below.refl _ _ | exact hB4 | exact hB5 | refine Below.alloc ?_ (by first | (simp; done) | (have := hB4.size; simp; omega) | (have := hB4.size; omega)) _ | refine Below.drew ?_)) hbl).trans hcell
              clear hK K
              (try simp only [Act.put, List.setIfInBounds_toArray, List.set_cons_zero, List.set_cons_succ])
              refine heldLaw 4 (by simp only [List.getElem?_toArray, List.getElem?_cons_succ, List.getElem?_cons_zero]; rfl) (by kernel_rfl) (by rfl) (fun K hK => ?_)
              refine wp_append_to _ (.tmp 62) (.tmp 65) _ rfl w6.heap.size 9 (.string ByteArray.empty) 1 16 Try.underlying23 str_info rfl (by omega) (some ⟨_, 0, none⟩) 0 0 [] rfl (own_empty (by simp) (by first | exact heapN1 _ _ | exact heapN3 _ _ _ | exact heapN2 _ _ _)) (some ⟨g3, 0, none⟩) w6.heap.size m c3 ((out.take m).map Value.string) rfl (hrO.below (by repeat (first | exact Below.refl _ _ | exact hB4 | exact hB5 | refine Below.alloc ?_ (by first | (simp; done) | (have := hB4.size; simp; omega) | (have := hB4.size; omega)) _ | refine Below.drew ?_))) (fun h => by cases h) (strs_one' _) m (by omega) (by unfold maxLen; omega) (by omega) (by first | (simp; done) | (simp; omega)) ?_
              intro A4 c4 w4 hown4 hg4 hb4
              have hB4 : Below w6.heap.size w6 w4 := Below.trans (by repeat (first | exact Below.refl _ _ | exact hB4 | exact hB5 | refine Below.alloc ?_ (by first | (simp; done) | (have := hB4.size; simp; omega) | (have := hB4.size; omega)) _ | refine Below.drew ?_)) hb4
              simp only [List.nil_append] at hown4
              refine hK.out _ _ ?_ (fun hHeld => ?_)
              · exact (Below.cell (p := ⟨b, o + k, none⟩) (by repeat (first | exact Below.refl _ _ | exact hB4 | exact hB5 | refine Below.alloc ?_ (by first | (simp; done) | (have := hB4.size; simp; omega) | (have := hB4.size; omega)) _ | refine Below.drew ?_)) hbl).trans hcell
              clear hK K
              (try simp only [Act.put, List.setIfInBounds_toArray, List.set_cons_zero, List.set_cons_succ])
              refine heldLaw 10 (by simp only [List.getElem?_toArray, List.getElem?_cons_succ, List.getElem?_cons_zero]; rfl) (by kernel_rfl) (by rfl) (fun K hK => ?_)
              refine wp_append_to _ (.tmp 66) (.tmp 71) _ rfl w6.heap.size 9 (.string ByteArray.empty) 1 16 Try.underlying23 str_info rfl (by omega) A4 m c4 ((out.take m).map Value.string) rfl (hown4) (some ⟨_, 0, none⟩) _ 1 1 [.string x] rfl (reads_blk (t := 9) (fr := (0, 0)) ((hg4.block _ (by simp; omega) (by simp [Value.ownBlock])).trans (by first | exact heapN2 _ _ _ | exact heapN3 _ _ _)) rfl) (fun h => by cases h) (by intro u hu; simp at hu; subst hu; rfl) (m + 1) rfl (by unfold maxLen; omega) (by omega) (by have := hB4.size; simp; omega) ?_
              intro A5 c5 w5 hown5 hg5 hb5
              have hB5 : Below w6.heap.size w6 w5 := Below.trans (by repeat (first | exact Below.refl _ _ | exact hB4 | exact hB5 | refine Below.alloc ?_ (by first | (simp; done) | (have := hB4.size; simp; omega) | (have := hB4.size; omega)) _ | refine Below.drew ?_)) hb5
              refine hK.out _ _ ?_ (fun hHeld => ?_)
              · exact (Below.cell (p := ⟨b, o + k, none⟩) (by repeat (first | exact Below.refl _ _ | exact hB4 | exact hB5 | refine Below.alloc ?_ (by first | (simp; done) | (have := hB4.size; simp; omega) | (have := hB4.size; omega)) _ | refine Below.drew ?_)) hbl).trans hcell
              clear hK K
              (try simp only [Act.put, List.setIfInBounds_toArray, List.set_cons_zero, List.set_cons_succ])
              refine heldTake 11 (v := ?_) (by simp only [List.getElem?_toArray, List.getElem?_cons_succ, List.getElem?_cons_zero]; rfl) (by kernel_rfl) (by intro _ _ _ h; exact h) (by rfl) (by assumption) ?_ ?_
              rotate_left
              · intro W hSw; (try dsimp only at hSw); go_simp; try with_reducible rfl
              simp only [Act.put, List.setIfInBounds_toArray, List.set_cons_zero, List.set_cons_succ]
              refine heldDone (by kernel_rfl) ?_ _
              have hz5 := hB5.size
              have hrD := hrA.below hB5
              have hmlen : (m : Int) ≤ (out.length : Int) := by omega
              have HINS : Hid (insAll (smpGo seed) (all.take (k + 1)) = out.take m ++ [x] ++ out.drop m) := Lib.hid (by rw [HST.out]; unfold insV; rw [HAT.out])
              have HLN : Hid ((insAll (smpGo seed) (all.take (k + 1))).length = out.length + 1) := Lib.hid (by rw [HINS.out]; simp; omega)
              by_cases hq : c3 = m
              · have hR1 : Reads w5 w6.heap.size 1 (some ⟨g3, 0, none⟩) (out.length - m) ((out.drop m).map Value.string) := ⟨by simp, fun hp => by omega⟩
                have hR2 : Reads w5 w6.heap.size 1 (some ⟨g3, 0, none⟩) 0 ((out.drop m).map Value.string) := ⟨by simp; omega, fun hp => by omega⟩
                go_wp2_with (at_builtin; refine wpList_append_to w5 (by rfl) (.tmp 73) (.tmp 76) _ rfl w6.heap.size 9 (.string ByteArray.empty) 1 16 Try.underlying23 str_info rfl (by omega) A5 (m + 1) c5 _ rfl hown5 _ w6.heap.size _ _ ((out.drop m).map Value.string) rfl (by first | exact hR1 | exact hR2) (fun h => by cases h) (strs_one' _) (out.length + 1) (by omega) (by unfold maxLen; omega) (by omega) (by omega) ?_; intro A7 c7 w7 hown7 hg7 hb7)
                obtain ⟨g7, cap7, hv7, _, _⟩ := hown7.form (by omega)
                injection hv7 with hv7
                subst hv7
                go_roundg (all.length - k - 1)
                case measure => have := HK.out; omega
                case rel =>
                  refine ⟨k + 1, g7, c7, by go_num, by rw [HLN.out], Lib.hid (by have := HK.out; omega), ?_, ((hb.trans (hbm.mono hz2)).trans (hB5.mono (by omega))).trans (hb7.mono (by omega))⟩
                  rw [HLN.out, HINS.out, List.map_append, List.map_append]
                  exact own_base hown7 (by omega)
              · have hR1 : Reads w5 w6.heap.size 1 (some ⟨g3, m, none⟩) (out.length - m) ((out.drop m).map Value.string) := by
                  have := hrD.drop (m := m) (c := c3) (by omega) (by omega) rfl
                  rw [if_neg hq, Nat.mul_one, Nat.zero_add, ← List.map_drop] at this
                  exact this
                have hR2 := hR1
                go_wp2_with (at_builtin; refine wpList_append_to w5 (by rfl) (.tmp 73) (.tmp 76) _ rfl w6.heap.size 9 (.string ByteArray.empty) 1 16 Try.underlying23 str_info rfl (by omega) A5 (m + 1) c5 _ rfl hown5 _ w6.heap.size _ _ ((out.drop m).map Value.string) rfl (by first | exact hR1 | exact hR2) (fun h => by cases h) (strs_one' _) (out.length + 1) (by omega) (by unfold maxLen; omega) (by omega) (by omega) ?_; intro A7 c7 w7 hown7 hg7 hb7)
                obtain ⟨g7, cap7, hv7, _, _⟩ := hown7.form (by omega)
                injection hv7 with hv7
                subst hv7
                go_roundg (all.length - k - 1)
                case measure => have := HK.out; omega
                case rel =>
                  refine ⟨k + 1, g7, c7, by go_num, by rw [HLN.out], Lib.hid (by have := HK.out; omega), ?_, ((hb.trans (hbm.mono hz2)).trans (hB5.mono (by omega))).trans (hb7.mono (by omega))⟩
                  rw [HLN.out, HINS.out, List.map_append, List.map_append]
                  exact own_base hown7 (by omega)
          · subst hc1
            have hd1 : decide (hx1 < hx1) = false := by simp
            have hd2 : (hx1 == hx1) = true := by simp
            cases hs1 : sLt x y with
            | true =>
              have HG2 : Hid (smpGo seed x y = false) := Lib.hid (by
                rw [HGO.out, HLY.out.2 (.inr ⟨rfl, hs1⟩)]; rfl)
              have hs2 : Op.bytesLess y.toList x.toList = false := sLt_asymm hs1
              have hs3 : (y.toList == x.toList) = false := by
                rw [str_beq]
                have : ¬ y = x := fun e => by subst e; rw [sLt_irrefl] at hs1; cases hs1
                simp [this]
              clear hs1
              have HAT : Hid (insAt (smpGo seed x) out = m) := Lib.hid (insAt_eq _ _ m (by omega) HG.out (fun h => by rw [HY.out]; exact HG2.out))
              go_wp2_with fail
              go_quiet (fail)
              have hbm2 : Below w2.heap.size w2 ((w6.alloc (.cells #[.string y] 9)).drewN nq) := below_drewN (hbm.alloc hz6 _) _
              go_wp2_with fail
              generalize (w6.alloc (.cells #[.string y] 9)).drewN nq = w8 at *
              clear hcell6 hcell3 hbm hz6 hm
              obtain ⟨w6, rfl⟩ : ∃ w6 : World, w6 = w8 := ⟨_, rfl⟩
              have hbm := hbm2
              have hz6 := hbm.size
              clear hbm2
              have hmle : m ≤ out.length := by omega
              have hbl : b < w6.heap.size := by omega
              have hcell : w6.cell? ⟨b, o + k, none⟩ = some (.string x) := (hbm.cell (p := ⟨b, o + k, none⟩) (by show b < _; omega)).trans hcell0
              have hrA : Reads w6 w6.heap.size 1 (some ⟨g3, 0, none⟩) out.length (out.map Value.string) := ((hrO0.below hbm).more hz6).1
              have hrO : Reads w6 w6.heap.size 1 (some ⟨g3, 0, none⟩) m ((out.take m).map Value.string) := by
                have := hrA.take hmle
                rw [Nat.mul_one, ← List.map_take] at this
                exact this
              have hmc : (m : Int) ≤ (c3 : Int) := by omega
              refine heldStart 11 (S := fun W => W.cell? ⟨b, o + k, none⟩ = some (.string x)) (by kernel_rfl) ?_ (fun hHeld => ?_)
              · exact (Below.cell (p := ⟨b, o + k, none⟩) (by repeat (first | exact Below.refl _ _ | exact hB4 | exact hB5 | refine Below.alloc ?_ (by first | (simp; done) | (have := hB4.size; simp; omega) | (have := hB4.size; omega)) _ | refine Below.drew ?_)) hbl).trans hcell
              refine heldTake 1 (v := ?_) (by simp only [List.getElem?_toArray, List.getElem?_cons_succ, List.getElem?_cons_zero]; rfl) (by kernel_rfl) (by intro _ _ _ h; exact h) (by rfl) (by assumption) ?_ ?_
              rotate_left
              · intro W hSw; (try dsimp only at hSw); go_simp; try with_reducible rfl
              simp only [Act.put, List.setIfInBounds_toArray, List.set_cons_zero, List.set_cons_succ]
              refine heldTake 2 (v := ?_) (by simp only [List.getElem?_toArray, List.getElem?_cons_succ, List.getElem?_cons_zero]; rfl) (by kernel_rfl) (by intro _ _ _ h; exact h) (by rfl) (by assumption) ?_ ?_
              rotate_left
              · intro W hSw; (try dsimp only at hSw); go_simp; try with_reducible rfl
              simp only [Act.put, List.setIfInBounds_toArray, List.set_cons_zero, List.set_cons_succ]
              refine heldTake 3 (v := ?_) (by simp only [List.getElem?_toArray, List.getElem?_cons_succ, List.getElem?_cons_zero]; rfl) (by kernel_rfl) (by intro _ _ _ h; exact h) (by rfl) (by assumption) ?_ ?_
              rotate_left
              · intro W hSw; (try dsimp only at hSw); go_simp; try with_reducible rfl
              simp only [Act.put, List.setIfInBounds_toArray, List.set_cons_zero, List.set_cons_succ]
              refine heldTake 5 (v := ?_) (by simp only [List.getElem?_toArray, List.getElem?_cons_succ, List.getElem?_cons_zero]; rfl) (by kernel_rfl) (by intro _ _ _ h; exact h) (by rfl) (by assumption) ?_ ?_
              rotate_left
              · intro W hSw; (try dsimp only at hSw); go_simp; try with_reducible rfl
              simp only [Act.put, List.setIfInBounds_toArray, List.set_cons_zero, List.set_cons_succ]
              refine heldTake 6 (v := ?_) (by simp only [List.getElem?_toArray, List.getElem?_cons_succ, List.getElem?_cons_zero]; rfl) (by kernel_rfl) (by intro _ _ _ h; exact h) (by rfl) (by assumption) ?_ ?_
              rotate_left
              · intro W hSw; (try dsimp only at hSw); go_simp; try with_reducible rfl
              simp only [Act.put, List.setIfInBounds_toArray, List.set_cons_zero, List.set_cons_succ]
              refine heldTake 7 (v := ?_) (by simp only [List.getElem?_toArray, List.getElem?_cons_succ, List.getElem?_cons_zero]; rfl) (by kernel_rfl) (by intro _ _ _ h; exact h) (by rfl) (by assumption) ?_ ?_
              rotate_left
              · intro W hSw; (try dsimp only at hSw); go_simp; try with_reducible rfl
              simp only [Act.put, List.setIfInBounds_toArray, List.set_cons_zero, List.set_cons_succ]
              refine heldTake 8 (v := ?_) (by simp only [List.getElem?_toArray, List.getElem?_cons_succ, List.getElem?_cons_zero]; rfl) (by kernel_rfl) (by intro _ _ _ h; exact h) (by rfl) (by assumption) ?_ ?_
              rotate_left
              · intro W hSw; (try dsimp only at hSw); go_simp; try with_reducible rfl
              simp only [Act.put, List.setIfInBounds_toArray, List.set_cons_zero, List.set_cons_succ]
              refine heldFork 0 9 (by kernel_rfl) ?_ ?_
              · refine heldOp 0 (by simp only [List.getElem?_toArray, List.getElem?_cons_succ, List.getElem?_cons_zero]; rfl) (fun K hK => ?_)
                go_simp
                refine hK.out _ _ ?_ (fun hHeld => ?_)
                · exact (Below.cell (p := ⟨b, o + k, none⟩) (by repeat (first | exact Below.refl _ _ | exact hB4 | exact hB5 | refine Below.alloc ?_ (by first | (simp; done) | (have := hB4.size; simp; omega) | (have := hB4.size; omega)) _ | refine Below.drew ?_)) hbl).trans hcell
                clear hK K
                (try simp only [Act.put, List.setIfInBounds_toArray, List.set_cons_zero, List.set_cons_succ])
                refine heldFork 4 9 (by kernel_rfl) ?_ ?_
                · refine heldOpLaw 4 (by simp only [List.getElem?_toArray, List.getElem?_cons_succ, List.getElem?_cons_zero]; rfl) (by rfl) (fun K hK => ?_)
                  refine wp_append_to _ (.tmp 62) (.tmp 65) _ rfl w6.heap.size 9 (.string ByteArray.empty) 1 16 Try.underlying23 str_info rfl (by omega) (some ⟨_, 0, none⟩) 0 0 [] rfl (own_empty (by simp) (by first | exact heapN1 _ _ | exact heapN3 _ _ _ | exact heapN2 _ _ _)) (some ⟨g3, 0, none⟩) w6.heap.size m c3 ((out.take m).map Value.string) rfl (hrO.below (by repeat (first | exact Below.refl _ _ | exact hB4 | exact hB5 | refine Below.alloc ?_ (by first | (simp; done) | (have := hB4.size; simp; omega) | (have := hB4.size; omega)) _ | refine Below.drew ?_))) (fun h => by cases h) (strs_one' _) m (by omega) (by unfold maxLen; omega) (by omega) (by first | (simp; done) | (simp; omega)) ?_
                  intro A4 c4 w4 hown4 hg4 hb4
                  have hB4 : Below w6.heap.size w6 w4 := Below.trans (by repeat (first | exact Below.refl _ _ | exact hB4 | exact hB5 | refine Below.alloc ?_ (by first | (simp; done) | (have := hB4.size; simp; omega) | (have := hB4.size; omega)) _ | refine Below.drew ?_)) hb4
                  simp only [List.nil_append] at hown4
                  refine hK.out _ _ ?_ (fun hHeld => ?_)
                  · exact (Below.cell (p := ⟨b, o + k, none⟩) (by repeat (first | exact Below.refl _ _ | exact hB4 | exact hB5 | refine Below.alloc ?_ (by first | (simp; done) | (have := hB4.size; simp; omega) | (have := hB4.size; omega)) _ | refine Below.drew ?_)) hbl).trans hcell
                  clear hK K
                  (try simp only [Act.put, List.setIfInBounds_toArray, List.set_cons_zero, List.set_cons_succ])
                  refine heldCall 9 (by simp only [List.getElem?_toArray, List.getElem?_cons_succ, List.getElem?_cons_zero]; rfl) (by kernel_rfl) (fun K hK => ?_)
                  go_simp
                  refine hK.out _ _ ?_ (fun hHeld => ?_)
                  · exact (Below.cell (p := ⟨b, o + k, none⟩) (by repeat (first | exact Below.refl _ _ | exact hB4 | exact hB5 | refine Below.alloc ?_ (by first | (simp; done) | (have := hB4.size; simp; omega) | (have := hB4.size; omega)) _ | refine Below.drew ?_)) hbl).trans hcell
                  clear hK K
                  (try simp only [Act.put, List.setIfInBounds_toArray, List.set_cons_zero, List.set_cons_succ])
                  refine heldLaw 10 (by simp only [List.getElem?_toArray, List.getElem?_cons_succ, List.getElem?_cons_zero]; rfl) (by kernel_rfl) (by rfl) (fun K hK => ?_)
                  refine wp_append_to _ (.tmp 66) (.tmp 71) _ rfl w6.heap.size 9 (.string ByteArray.empty) 1 16 Try.underlying23 str_info rfl (by omega) A4 m c4 ((out.take m).map Value.string) rfl (hown4.alloc _) (some ⟨_, 0, none⟩) _ 1 1 [.string x] rfl (reads_blk (t := 9) (fr := (0, 0)) (heapM1 _ _) rfl) (fun h => by cases h) (by intro u hu; simp at hu; subst hu; rfl) (m + 1) rfl (by unfold maxLen; omega) (by omega) (by have := hB4.size; simp; omega) ?_
                  intro A5 c5 w5 hown5 hg5 hb5
                  have hB5 : Below w6.heap.size w6 w5 := Below.trans (by repeat (first | exact Below.refl _ _ | exact hB4 | exact hB5 | refine Below.alloc ?_ (by first | (simp; done) | (have := hB4.size; simp; omega) | (have := hB4.size; omega)) _ | refine Below.drew ?_)) hb5
                  refine hK.out _ _ ?_ (fun hHeld => ?_)
                  · exact (Below.cell (p := ⟨b, o + k, none⟩) (by repeat (first | exact Below.refl _ _ | exact hB4 | exact hB5 | refine Below.alloc ?_ (by first | (simp; done) | (have := hB4.size; simp; omega) | (have := hB4.size; omega)) _ | refine Below.drew ?_)) hbl).trans hcell
                  clear hK K
                  (try simp only [Act.put, List.setIfInBounds_toArray, List.set_cons_zero, List.set_cons_succ])
                  refine heldTake 11 (v := ?_) (by simp only [List.getElem?_toArray, List.getElem?_cons_succ, List.getElem?_cons_zero]; rfl) (by kernel_rfl) (by intro _ _ _ h; exact h) (by rfl) (by assumption) ?_ ?_
                  rotate_left
                  · intro W hSw; (try dsimp only at hSw); go_simp; try with_reducible rfl
                  simp only [Act.put, List.setIfInBounds_toArray, List.set_cons_zero, List.set_cons_succ]
                  refine heldDone (by kernel_rfl) ?_ _
                  have hz5 := hB5.size
                  have hrD := hrA.below hB5
                  have hmlen : (m : Int) ≤ (out.length : Int) := by omega
                  have HINS : Hid (insAll (smpGo seed) (all.take (k + 1)) = out.take m ++ [x] ++ out.drop m) := Lib.hid (by rw [HST.out]; unfold insV; rw [HAT.out])
                  have HLN : Hid ((insAll (smpGo seed) (all.take (k + 1))).length = out.length + 1) := Lib.hid (by rw [HINS.out]; simp; omega)
                  by_cases hq : c3 = m
                  · have hR1 : Reads w5 w6.heap.size 1 (some ⟨g3, 0, none⟩) (out.length - m) ((out.drop m).map Value.string) := ⟨by simp, fun hp => by omega⟩
                    have hR2 : Reads w5 w6.heap.size 1 (some ⟨g3, 0, none⟩) 0 ((out.drop m).map Value.string) := ⟨by simp; omega, fun hp => by omega⟩
                    go_wp2_with (at_builtin; refine wpList_append_to w5 (by rfl) (.tmp 73) (.tmp 76) _ rfl w6.heap.size 9 (.string ByteArray.empty) 1 16 Try.underlying23 str_info rfl (by omega) A5 (m + 1) c5 _ rfl hown5 _ w6.heap.size _ _ ((out.drop m).map Value.string) rfl (by first | exact hR1 | exact hR2) (fun h => by cases h) (strs_one' _) (out.length + 1) (by omega) (by unfold maxLen; omega) (by omega) (by omega) ?_; intro A7 c7 w7 hown7 hg7 hb7)
                    obtain ⟨g7, cap7, hv7, _, _⟩ := hown7.form (by omega)
                    injection hv7 with hv7
                    subst hv7
                    go_roundg (all.length - k - 1)
                    case measure => have := HK.out; omega
                    case rel =>
                      refine ⟨k + 1, g7, c7, by go_num, by rw [HLN.out], Lib.hid (by have := HK.out; omega), ?_, ((hb.trans (hbm.mono hz2)).trans (hB5.mono (by omega))).trans (hb7.mono (by omega))⟩
                      rw [HLN.out, HINS.out, List.map_append, List.map_append]
                      exact own_base hown7 (by omega)
                  · have hR1 : Reads w5 w6.heap.size 1 (some ⟨g3, m, none⟩) (out.length - m) ((out.drop m).map Value.string) := by
                      have := hrD.drop (m := m) (c := c3) (by omega) (by omega) rfl
                      rw [if_neg hq, Nat.mul_one, Nat.zero_add, ← List.map_drop] at this
                      exact this
                    have hR2 := hR1
                    go_wp2_with (at_builtin; refine wpList_append_to w5 (by rfl) (.tmp 73) (.tmp 76) _ rfl w6.heap.size 9 (.string ByteArray.empty) 1 16 Try.underlying23 str_info rfl (by omega) A5 (m + 1) c5 _ rfl hown5 _ w6.heap.size _ _ ((out.drop m).map Value.string) rfl (by first | exact hR1 | exact hR2) (fun h => by cases h) (strs_one' _) (out.length + 1) (by omega) (by unfold maxLen; omega) (by omega) (by omega) ?_; intro A7 c7 w7 hown7 hg7 hb7)
                    obtain ⟨g7, cap7, hv7, _, _⟩ := hown7.form (by omega)
                    injection hv7 with hv7
                    subst hv7
                    go_roundg (all.length - k - 1)
                    case measure => have := HK.out; omega
                    case rel =>
                      refine ⟨k + 1, g7, c7, by go_num, by rw [HLN.out], Lib.hid (by have := HK.out; omega), ?_, ((hb.trans (hbm.mono hz2)).trans (hB5.mono (by omega))).trans (hb7.mono (by omega))⟩
                      rw [HLN.out, HINS.out, List.map_append, List.map_append]
                      exact own_base hown7 (by omega)
                · refine heldOp 9 (by simp only [List.getElem?_toArray, List.getElem?_cons_succ, List.getElem?_cons_zero]; rfl) (fun K hK => ?_)
                  go_simp
                  refine hK.out _ _ ?_ (fun hHeld => ?_)
                  · exact (Below.cell (p := ⟨b, o + k, none⟩) (by repeat (first | exact Below.refl _ _ | exact hB4 | exact hB5 | refine Below.alloc ?_ (by first | (simp; done) | (have := hB4.size; simp; omega) | (have := hB4.size; omega)) _ | refine Below.drew ?_)) hbl).trans hcell
                  clear hK K
                  (try simp only [Act.put, List.setIfInBounds_toArray, List.set_cons_zero, List.set_cons_succ])
                  refine heldLaw 4 (by simp only [List.getElem?_toArray, List.getElem?_cons_succ, List.getElem?_cons_zero]; rfl) (by kernel_rfl) (by rfl) (fun K hK => ?_)
                  refine wp_append_to _ (.tmp 62) (.tmp 65) _ rfl w6.heap.size 9 (.string ByteArray.empty) 1 16 Try.underlying23 str_info rfl (by omega) (some ⟨_, 0, none⟩) 0 0 [] rfl (own_empty (by simp) (by first | exact heapN1 _ _ | exact heapN3 _ _ _ | exact heapN2 _ _ _)) (some ⟨g3, 0, none⟩) w6.heap.size m c3 ((out.take m).map Value.string) rfl (hrO.below (by repeat (first | exact Below.refl _ _ | exact hB4 | exact hB5 | refine Below.alloc ?_ (by first | (simp; done) | (have := hB4.size; simp; omega) | (have := hB4.size; omega)) _ | refine Below.drew ?_))) (fun h => by cases h) (strs_one' _) m (by omega) (by unfold maxLen; omega) (by omega) (by first | (simp; done) | (simp; omega)) ?_
                  intro A4 c4 w4 hown4 hg4 hb4
                  have hB4 : Below w6.heap.size w6 w4 := Below.trans (by repeat (first | exact Below.refl _ _ | exact hB4 | exact hB5 | refine Below.alloc ?_ (by first | (simp; done) | (have := hB4.size; simp; omega) | (have := hB4.size; omega)) _ | refine Below.drew ?_)) hb4
                  simp only [List.nil_append] at hown4
                  refine hK.out _ _ ?_ (fun hHeld => ?_)
                  · exact (Below.cell (p := ⟨b, o + k, none⟩) (by repeat (first | exact Below.refl _ _ | exact hB4 | exact hB5 | refine Below.alloc ?_ (by first | (simp; done) | (have := hB4.size; simp; omega) | (have := hB4.size; omega)) _ | refine Below.drew ?_)) hbl).trans hcell
                  clear hK K
                  (try simp only [Act.put, List.setIfInBounds_toArray, List.set_cons_zero, List.set_cons_succ])
                  refine heldLaw 10 (by simp only [List.getElem?_toArray, List.getElem?_cons_succ, List.getElem?_cons_zero]; rfl) (by kernel_rfl) (by rfl) (fun K hK => ?_)
                  refine wp_append_to _ (.tmp 66) (.tmp 71) _ rfl w6.heap.size 9 (.string ByteArray.empty) 1 16 Try.underlying23 str_info rfl (by omega) A4 m c4 ((out.take m).map Value.string) rfl (hown4) (some ⟨_, 0, none⟩) _ 1 1 [.string x] rfl (reads_blk (t := 9) (fr := (0, 0)) ((hg4.block _ (by simp) (by simp [Value.ownBlock])).trans (by first | exact heapN2 _ _ _ | exact heapN3 _ _ _)) rfl) (fun h => by cases h) (by intro u hu; simp at hu; subst hu; rfl) (m + 1) rfl (by unfold maxLen; omega) (by omega) (by have := hB4.size; simp; omega) ?_
                  intro A5 c5 w5 hown5 hg5 hb5
                  have hB5 : Below w6.heap.size w6 w5 := Below.trans (by repeat (first | exact Below.refl _ _ | exact hB4 | exact hB5 | refine Below.alloc ?_ (by first | (simp; done) | (have := hB4.size; simp; omega) | (have := hB4.size; omega)) _ | refine Below.drew ?_)) hb5
                  refine hK.out _ _ ?_ (fun hHeld => ?_)
                  · exact (Below.cell (p := ⟨b, o + k, none⟩) (by repeat (first | exact Below.refl _ _ | exact hB4 | exact hB5 | refine Below.alloc ?_ (by first | (simp; done) | (have := hB4.size; simp; omega) | (have := hB4.size; omega)) _ | refine Below.drew ?_)) hbl).trans hcell
                  clear hK K
                  (try simp only [Act.put, List.setIfInBounds_toArray, List.set_cons_zero, List.set_cons_succ])
                  refine heldTake 11 (v := ?_) (by simp only [List.getElem?_toArray, List.getElem?_cons_succ, List.getElem?_cons_zero]; rfl) (by kernel_rfl) (by intro _ _ _ h; exact h) (by rfl) (by assumption) ?_ ?_
                  rotate_left
                  · intro W hSw; (try dsimp only at hSw); go_simp; try with_reducible rfl
                  simp only [Act.put, List.setIfInBounds_toArray, List.set_cons_zero, List.set_cons_succ]
                  refine heldDone (by kernel_rfl) ?_ _
                  have hz5 := hB5.size
                  have hrD := hrA.below hB5
                  have hmlen : (m : Int) ≤ (out.length : Int) := by omega
                  have HINS : Hid (insAll (smpGo seed) (all.take (k + 1)) = out.take m ++ [x] ++ out.drop m) := Lib.hid (by rw [HST.out]; unfold insV; rw [HAT.out])
                  have HLN : Hid ((insAll (smpGo seed) (all.take (k + 1))).length = out.length + 1) := Lib.hid (by rw [HINS.out]; simp; omega)
                  by_cases hq : c3 = m
                  · have hR1 : Reads w5 w6.heap.size 1 (some ⟨g3, 0, none⟩) (out.length - m) ((out.drop m).map Value.string) := ⟨by simp, fun hp => by omega⟩
                    have hR2 : Reads w5 w6.heap.size 1 (some ⟨g3, 0, none⟩) 0 ((out.drop m).map Value.string) := ⟨by simp; omega, fun hp => by omega⟩
                    go_wp2_with (at_builtin; refine wpList_append_to w5 (by rfl) (.tmp 73) (.tmp 76) _ rfl w6.heap.size 9 (.string ByteArray.empty) 1 16 Try.underlying23 str_info rfl (by omega) A5 (m + 1) c5 _ rfl hown5 _ w6.heap.size _ _ ((out.drop m).map Value.string) rfl (by first | exact hR1 | exact hR2) (fun h => by cases h) (strs_one' _) (out.length + 1) (by omega) (by unfold maxLen; omega) (by omega) (by omega) ?_; intro A7 c7 w7 hown7 hg7 hb7)
                    obtain ⟨g7, cap7, hv7, _, _⟩ := hown7.form (by omega)
                    injection hv7 with hv7
                    subst hv7
                    go_roundg (all.length - k - 1)
                    case measure => have := HK.out; omega
                    case rel =>
                      refine ⟨k + 1, g7, c7, by go_num, by rw [HLN.out], Lib.hid (by have := HK.out; omega), ?_, ((hb.trans (hbm.mono hz2)).trans (hB5.mono (by omega))).trans (hb7.mono (by omega))⟩
                      rw [HLN.out, HINS.out, List.map_append, List.map_append]
                      exact own_base hown7 (by omega)
                  · have hR1 : Reads w5 w6.heap.size 1 (some ⟨g3, m, none⟩) (out.length - m) ((out.drop m).map Value.string) := by
                      have := hrD.drop (m := m) (c := c3) (by omega) (by omega) rfl
                      rw [if_neg hq, Nat.mul_one, Nat.zero_add, ← List.map_drop] at this
                      exact this
                    have hR2 := hR1
                    go_wp2_with (at_builtin; refine wpList_append_to w5 (by rfl) (.tmp 73) (.tmp 76) _ rfl w6.heap.size 9 (.string ByteArray.empty) 1 16 Try.underlying23 str_info rfl (by omega) A5 (m + 1) c5 _ rfl hown5 _ w6.heap.size _ _ ((out.drop m).map Value.string) rfl (by first | exact hR1 | exact hR2) (fun h => by cases h) (strs_one' _) (out.length + 1) (by omega) (by unfold maxLen; omega) (by omega) (by omega) ?_; intro A7 c7 w7 hown7 hg7 hb7)
                    obtain ⟨g7, cap7, hv7, _, _⟩ := hown7.form (by omega)
                    injection hv7 with hv7
                    subst hv7
                    go_roundg (all.length - k - 1)
                    case measure => have := HK.out; omega
                    case rel =>
                      refine ⟨k + 1, g7, c7, by go_num, by rw [HLN.out], Lib.hid (by have := HK.out; omega), ?_, ((hb.trans (hbm.mono hz2)).trans (hB5.mono (by omega))).trans (hb7.mono (by omega))⟩
                      rw [HLN.out, HINS.out, List.map_append, List.map_append]
                      exact own_base hown7 (by omega)
              · refine heldOp 9 (by simp only [List.getElem?_toArray, List.getElem?_cons_succ, List.getElem?_cons_zero]; rfl) (fun K hK => ?_)
                go_simp
                refine hK.out _ _ ?_ (fun hHeld => ?_)
                · exact (Below.cell (p := ⟨b, o + k, none⟩) (by repeat (first | exact Below.refl _ _ | exact hB4 | exact hB5 | refine Below.alloc ?_ (by first | (simp; done) | (have := hB4.size; simp; omega) | (have := hB4.size; omega)) _ | refine Below.drew ?_)) hbl).trans hcell
                clear hK K
                (try simp only [Act.put, List.setIfInBounds_toArray, List.set_cons_zero, List.set_cons_succ])
                refine heldCall 0 (by simp only [List.getElem?_toArray, List.getElem?_cons_succ, List.getElem?_cons_zero]; rfl) (by kernel_rfl) (fun K hK => ?_)
                go_simp
                refine hK.out _ _ ?_ (fun hHeld => ?_)
                · exact (Below.cell (p := ⟨b, o + k, none⟩) (by repeat (first | exact Below.refl _ _ | exact hB4 | exact hB5 | refine Below.alloc ?_ (by first | (simp; done) | (have := hB4.size; simp; omega) | (have := hB4.size; omega)) _ | refine Below.drew ?_)) hbl).trans hcell
                clear hK K
                (try simp only [Act.put, List.setIfInBounds_toArray, List.set_cons_zero, List.set_cons_succ])
                refine heldLaw 4 (by simp only [List.getElem?_toArray, List.getElem?_cons_succ, List.getElem?_cons_zero]; rfl) (by kernel_rfl) (by rfl) (fun K hK => ?_)
                refine wp_append_to _ (.tmp 62) (.tmp 65) _ rfl w6.heap.size 9 (.string ByteArray.empty) 1 16 Try.underlying23 str_info rfl (by omega) (some ⟨_, 0, none⟩) 0 0 [] rfl (own_empty (by simp) (by first | exact heapN1 _ _ | exact heapN3 _ _ _ | exact heapN2 _ _ _)) (some ⟨g3, 0, none⟩) w6.heap.size m c3 ((out.take m).map Value.string) rfl (hrO.below (by repeat (first | exact Below.refl _ _ | exact hB4 | exact hB5 | refine Below.alloc ?_ (by first | (simp; done) | (have := hB4.size; simp; omega) | (have := hB4.size; omega)) _ | refine Below.drew ?_))) (fun h => by cases h) (strs_one' _) m (by omega) (by unfold maxLen; omega) (by omega) (by first | (simp; done) | (simp; omega)) ?_
                intro A4 c4 w4 hown4 hg4 hb4
                have hB4 : Below w6.heap.size w6 w4 := Below.trans (by repeat (first | exact Below.refl _ _ | exact hB4 | exact hB5 | refine Below.alloc ?_ (by first | (simp; done) | (have := hB4.size; simp; omega) | (have := hB4.size; omega)) _ | refine Below.drew ?_)) hb4
                simp only [List.nil_append] at hown4
                refine hK.out _ _ ?_ (fun hHeld => ?_)
                · exact (Below.cell (p := ⟨b, o + k, none⟩) (by repeat (first | exact Below.refl _ _ | exact hB4 | exact hB5 | refine Below.alloc ?_ (by first | (simp; done) | (have := hB4.size; simp; omega) | (have := hB4.size; omega)) _ | refine Below.drew ?_)) hbl).trans hcell
                clear hK K
                (try simp only [Act.put, List.setIfInBounds_toArray, List.set_cons_zero, List.set_cons_succ])
                refine heldLaw 10 (by simp only [List.getElem?_toArray, List.getElem?_cons_succ, List.getElem?_cons_zero]; rfl) (by kernel_rfl) (by rfl) (fun K hK => ?_)
                refine wp_append_to _ (.tmp 66) (.tmp 71) _ rfl w6.heap.size 9 (.string ByteArray.empty) 1 16 Try.underlying23 str_info rfl (by omega) A4 m c4 ((out.take m).map Value.string) rfl (hown4) (some ⟨_, 0, none⟩) _ 1 1 [.string x] rfl (reads_blk (t := 9) (fr := (0, 0)) ((hg4.block _ (by simp; omega) (by simp [Value.ownBlock])).trans (by first | exact heapN2 _ _ _ | exact heapN3 _ _ _)) rfl) (fun h => by cases h) (by intro u hu; simp at hu; subst hu; rfl) (m + 1) rfl (by unfold maxLen; omega) (by omega) (by have := hB4.size; simp; omega) ?_
                intro A5 c5 w5 hown5 hg5 hb5
                have hB5 : Below w6.heap.size w6 w5 := Below.trans (by repeat (first | exact Below.refl _ _ | exact hB4 | exact hB5 | refine Below.alloc ?_ (by first | (simp; done) | (have := hB4.size; simp; omega) | (have := hB4.size; omega)) _ | refine Below.drew ?_)) hb5
                refine hK.out _ _ ?_ (fun hHeld => ?_)
                · exact (Below.cell (p := ⟨b, o + k, none⟩) (by repeat (first | exact Below.refl _ _ | exact hB4 | exact hB5 | refine Below.alloc ?_ (by first | (simp; done) | (have := hB4.size; simp; omega) | (have := hB4.size; omega)) _ | refine Below.drew ?_)) hbl).trans hcell
                clear hK K
                (try simp only [Act.put, List.setIfInBounds_toArray, List.set_cons_zero, List.set_cons_succ])
                refine heldTake 11 (v := ?_) (by simp only [List.getElem?_toArray, List.getElem?_cons_succ, List.getElem?_cons_zero]; rfl) (by kernel_rfl) (by intro _ _ _ h; exact h) (by rfl) (by assumption) ?_ ?_
                rotate_left
                · intro W hSw; (try dsimp only at hSw); go_simp; try with_reducible rfl
                simp only [Act.put, List.setIfInBounds_toArray, List.set_cons_zero, List.set_cons_succ]
                refine heldDone (by kernel_rfl) ?_ _
                have hz5 := hB5.size
                have hrD := hrA.below hB5
                have hmlen : (m : Int) ≤ (out.length : Int) := by omega
                have HINS : Hid (insAll (smpGo seed) (all.take (k + 1)) = out.take m ++ [x] ++ out.drop m) := Lib.hid (by rw [HST.out]; unfold insV; rw [HAT.out])
                have HLN : Hid ((insAll (smpGo seed) (all.take (k + 1))).length = out.length + 1) := Lib.hid (by rw [HINS.out]; simp; omega)
                by_cases hq : c3 = m
                · have hR1 : Reads w5 w6.heap.size 1 (some ⟨g3, 0, none⟩) (out.length - m) ((out.drop m).map Value.string) := ⟨by simp, fun hp => by omega⟩
                  have hR2 : Reads w5 w6.heap.size 1 (some ⟨g3, 0, none⟩) 0 ((out.drop m).map Value.string) := ⟨by simp; omega, fun hp => by omega⟩
                  go_wp2_with (at_builtin; refine wpList_append_to w5 (by rfl) (.tmp 73) (.tmp 76) _ rfl w6.heap.size 9 (.string ByteArray.empty) 1 16 Try.underlying23 str_info rfl (by omega) A5 (m + 1) c5 _ rfl hown5 _ w6.heap.size _ _ ((out.drop m).map Value.string) rfl (by first | exact hR1 | exact hR2) (fun h => by cases h) (strs_one' _) (out.length + 1) (by omega) (by unfold maxLen; omega) (by omega) (by omega) ?_; intro A7 c7 w7 hown7 hg7 hb7)
                  obtain ⟨g7, cap7, hv7, _, _⟩ := hown7.form (by omega)
                  injection hv7 with hv7
                  subst hv7
                  go_roundg (all.length - k - 1)
                  case measure => have := HK.out; omega
                  case rel =>
                    refine ⟨k + 1, g7, c7, by go_num, by rw [HLN.out], Lib.hid (by have := HK.out; omega), ?_, ((hb.trans (hbm.mono hz2)).trans (hB5.mono (by omega))).trans (hb7.mono (by omega))⟩
                    rw [HLN.out, HINS.out, List.map_append, List.map_append]
                    exact own_base hown7 (by omega)
                · have hR1 : Reads w5 w6.heap.size 1 (some ⟨g3, m, none⟩) (out.length - m) ((out.drop m).map Value.string) := by
                    have := hrD.drop (m := m) (c := c3) (by omega) (by omega) rfl
                    rw [if_neg hq, Nat.mul_one, Nat.zero_add, ← List.map_drop] at this
                    exact this
                  have hR2 := hR1
                  go_wp2_with (at_builtin; refine wpList_append_to w5 (by rfl) (.tmp 73) (.tmp 76) _ rfl w6.heap.size 9 (.string ByteArray.empty) 1 16 Try.underlying23 str_info rfl (by omega) A5 (m + 1) c5 _ rfl hown5 _ w6.heap.size _ _ ((out.drop m).map Value.string) rfl (by first | exact hR1 | exact hR2) (fun h => by cases h) (strs_one' _) (out.length + 1) (by omega) (by unfold maxLen; omega) (by omega) (by omega) ?_; intro A7 c7 w7 hown7 hg7 hb7)
                  obtain ⟨g7, cap7, hv7, _, _⟩ := hown7.form (by omega)
                  injection hv7 with hv7
                  subst hv7
                  go_roundg (all.length - k - 1)
                  case measure => have := HK.out; omega
                  case rel =>
                    refine ⟨k + 1, g7, c7, by go_num, by rw [HLN.out], Lib.hid (by have := HK.out; omega), ?_, ((hb.trans (hbm.mono hz2)).trans (hB5.mono (by omega))).trans (hb7.mono (by omega))⟩
                    rw [HLN.out, HINS.out, List.map_append, List.map_append]
                    exact own_base hown7 (by omega)

            | false =>
              have HG2 : Hid (smpGo seed x y = true) := Lib.hid (by
                rw [HGO.out]
                cases hh : smpLt seed x y with
                | false => rfl
                | true =>
                  rcases HLY.out.1 hh with h1 | h1
                  · omega
                  · rw [hs1] at h1; cases h1.2)
              have hs4 : (!(Op.bytesLess y.toList x.toList || y.toList == x.toList)) = false := by rw [gtr_eq]; exact hs1
              clear hs1
              cases hs2 : Op.bytesLess y.toList x.toList with
              | true =>
                clear hs4
                go_wp2_with fail
                go_quiet (fail)
                go_wp2
                go_roundg (gk - 1)
                case measure => have := HM.out; omega
                case rel => exact ⟨m + 1, by go_num, Lib.hid (by have := HM.out; omega), Lib.hid (fun j hj hjm => by
                    by_cases e : j = m
                    · subst e; rw [HY.out]; exact HG2.out
                    · exact HG.out j hj (by omega)), below_drewN (hbm.alloc hz6 _) _⟩
              | false =>
                have hs3 : (y.toList == x.toList) = true := by rw [hs2] at hs4; simpa using hs4
                clear hs4
                go_wp2_with fail
                go_quiet (fail)
                go_wp2
                go_roundg (gk - 1)
                case measure => have := HM.out; omega
                case rel => exact ⟨m + 1, by go_num, Lib.hid (by have := HM.out; omega), Lib.hid (fun j hj hjm => by
                    by_cases e : j = m
                    · subst e; rw [HY.out]; exact HG2.out
                    · exact HG.out j hj (by omega)), below_drewN (hbm.alloc hz6 _) _⟩
          · have hd1 : decide (hx1 < hy1) = false := by simp; omega
            have hd2 : (hy1 == hx1) = false := by rw [beq_eq_false_iff_ne]; omega
            have HG2 : Hid (smpGo seed x y = true) := Lib.hid (by
              rw [HGO.out]
              cases hh : smpLt seed x y with
              | false => rfl
              | true => have := HLY.out.1 hh; omega)
            go_wp2_with fail
            go_quiet (fail)
            go_wp2
            go_roundg (gk - 1)
            case measure => have := HM.out; omega
            case rel => exact ⟨m + 1, by go_num, Lib.hid (by have := HM.out; omega), Lib.hid (fun j hj hjm => by
                by_cases e : j = m
                · subst e; rw [HY.out]; exact HG2.out
                · exact HG.out j hj (by omega)), below_drewN (hbm.alloc hz6 _) _⟩
        · have hmle : m ≤ out.length := by have := HM.out; omega
          have HAT : Hid (insAt (smpGo seed x) out = m) := Lib.hid (insAt_eq _ _ m hmle HG.out (fun h => by omega))
          go_wp2_with fail
          have hbl : b < w6.heap.size := by omega
          have hcell : w6.cell? ⟨b, o + k, none⟩ = some (.string x) := (hbm.cell (p := ⟨b, o + k, none⟩) (by show b < _; omega)).trans hcell0
          have hrA : Reads w6 w6.heap.size 1 (some ⟨g3, 0, none⟩) out.length (out.map Value.string) := ((hrO0.below hbm).more hz6).1
          have hrO : Reads w6 w6.heap.size 1 (some ⟨g3, 0, none⟩) m ((out.take m).map Value.string) := by
            have := hrA.take hmle
            rw [Nat.mul_one, ← List.map_take] at this
            exact this
          have hmc : (m : Int) ≤ (c3 : Int) := by omega
          refine heldStart 11 (S := fun W => W.cell? ⟨b, o + k, none⟩ = some (.string x)) (by kernel_rfl) ?_ (fun hHeld => ?_)
          · exact (Below.cell (p := ⟨b, o + k, none⟩) (by repeat (first | exact Below.refl _ _ | exact hB4 | exact hB5 | refine Below.alloc ?_ (by first | (simp; done) | (have := hB4.size; simp; omega) | (have := hB4.size; omega)) _ | refine Below.drew ?_)) hbl).trans hcell
          refine heldTake 1 (v := ?_) (by simp only [List.getElem?_toArray, List.getElem?_cons_succ, List.getElem?_cons_zero]; rfl) (by kernel_rfl) (by intro _ _ _ h; exact h) (by rfl) (by assumption) ?_ ?_
          rotate_left
          · intro W hSw; (try dsimp only at hSw); go_simp; try with_reducible rfl
          simp only [Act.put, List.setIfInBounds_toArray, List.set_cons_zero, List.set_cons_succ]
          refine heldTake 2 (v := ?_) (by simp only [List.getElem?_toArray, List.getElem?_cons_succ, List.getElem?_cons_zero]; rfl) (by kernel_rfl) (by intro _ _ _ h; exact h) (by rfl) (by assumption) ?_ ?_
          rotate_left
          · intro W hSw; (try dsimp only at hSw); go_simp; try with_reducible rfl
          simp only [Act.put, List.setIfInBounds_toArray, List.set_cons_zero, List.set_cons_succ]
          refine heldTake 3 (v := ?_) (by simp only [List.getElem?_toArray, List.getElem?_cons_succ, List.getElem?_cons_zero]; rfl) (by kernel_rfl) (by intro _ _ _ h; exact h) (by rfl) (by assumption) ?_ ?_
          rotate_left
          · intro W hSw; (try dsimp only at hSw); go_simp; try with_reducible rfl
          simp only [Act.put, List.setIfInBounds_toArray, List.set_cons_zero, List.set_cons_succ]
          refine heldTake 5 (v := ?_) (by simp only [List.getElem?_toArray, List.getElem?_cons_succ, List.getElem?_cons_zero]; rfl) (by kernel_rfl) (by intro _ _ _ h; exact h) (by rfl) (by assumption) ?_ ?_
          rotate_left
          · intro W hSw; (try dsimp only at hSw); go_simp; try with_reducible rfl
          simp only [Act.put, List.setIfInBounds_toArray, List.set_cons_zero, List.set_cons_succ]
          refine heldTake 6 (v := ?_) (by simp only [List.getElem?_toArray, List.getElem?_cons_succ, List.getElem?_cons_zero]; rfl) (by kernel_rfl) (by intro _ _ _ h; exact h) (by rfl) (by assumption) ?_ ?_
          rotate_left
          · intro W hSw; (try dsimp only at hSw); go_simp; try with_reducible rfl
          simp only [Act.put, List.setIfInBounds_toArray, List.set_cons_zero, List.set_cons_succ]
          refine heldTake 7 (v := ?_) (by simp only [List.getElem?_toArray, List.getElem?_cons_succ, List.getElem?_cons_zero]; rfl) (by kernel_rfl) (by intro _ _ _ h; exact h) (by rfl) (by assumption) ?_ ?_
          rotate_left
          · intro W hSw; (try dsimp only at hSw); go_simp; try with_reducible rfl
          simp only [Act.put, List.setIfInBounds_toArray, List.set_cons_zero, List.set_cons_succ]
          refine heldTake 8 (v := ?_) (by simp only [List.getElem?_toArray, List.getElem?_cons_succ, List.getElem?_cons_zero]; rfl) (by kernel_rfl) (by intro _ _ _ h; exact h) (by rfl) (by assumption) ?_ ?_
          rotate_left
          · intro W hSw; (try dsimp only at hSw); go_simp; try with_reducible rfl
          simp only [Act.put, List.setIfInBounds_toArray, List.set_cons_zero, List.set_cons_succ]
          refine heldFork 0 9 (by kernel_rfl) ?_ ?_
          · refine heldOp 0 (by simp only [List.getElem?_toArray, List.getElem?_cons_succ, List.getElem?_cons_zero]; rfl) (fun K hK => ?_)
            go_simp
            refine hK.out _ _ ?_ (fun hHeld => ?_)
            · exact (Below.cell (p := ⟨b, o + k, none⟩) (by repeat (first | exact Below.refl _ _ | exact hB4 | exact hB5 | refine Below.alloc ?_ (by first | (simp; done) | (have := hB4.size; simp; omega) | (have := hB4.size; omega)) _ | refine Below.drew ?_)) hbl).trans hcell
            clear hK K
            (try simp only [Act.put, List.setIfInBounds_toArray, List.set_cons_zero, List.set_cons_succ])
            refine heldFork 4 9 (by kernel_rfl) ?_ ?_
            · refine heldOpLaw 4 (by simp only [List.getElem?_toArray, List.getElem?_cons_succ, List.getElem?_cons_zero]; rfl) (by rfl) (fun K hK => ?_)
              refine wp_append_to _ (.tmp 62) (.tmp 65) _ rfl w6.heap.size 9 (.string ByteArray.empty) 1 16 Try.underlying23 str_info rfl (by omega) (some ⟨_, 0, none⟩) 0 0 [] rfl (own_empty (by simp) (by first | exact heapN1 _ _ | exact heapN3 _ _ _ | exact heapN2 _ _ _)) (some ⟨g3, 0, none⟩) w6.heap.size m c3 ((out.take m).map Value.string) rfl (hrO.below (by repeat (first | exact Below.refl _ _ | exact hB4 | exact hB5 | refine Below.alloc ?_ (by first | (simp; done) | (have := hB4.size; simp; omega) | (have := hB4.size; omega)) _ | refine Below.drew ?_))) (fun h => by cases h) (strs_one' _) m (by omega) (by unfold maxLen; omega) (by omega) (by first | (simp; done) | (simp; omega)) ?_
              intro A4 c4 w4 hown4 hg4 hb4
              have hB4 : Below w6.heap.size w6 w4 := Below.trans (by repeat (first | exact Below.refl _ _ | exact hB4 | exact hB5 | refine Below.alloc ?_ (by first | (simp; done) | (have := hB4.size; simp; omega) | (have := hB4.size; omega)) _ | refine Below.drew ?_)) hb4
              simp only [List.nil_append] at hown4
              refine hK.out _ _ ?_ (fun hHeld => ?_)
              · exact (Below.cell (p := ⟨b, o + k, none⟩) (by repeat (first | exact Below.refl _ _ | exact hB4 | exact hB5 | refine Below.alloc ?_ (by first | (simp; done) | (have := hB4.size; simp; omega) | (have := hB4.size; omega)) _ | refine Below.drew ?_)) hbl).trans hcell
              clear hK K
              (try simp only [Act.put, List.setIfInBounds_toArray, List.set_cons_zero, List.set_cons_succ])
              refine heldCall 9 (by simp only [List.getElem?_toArray, List.getElem?_cons_succ, List.getElem?_cons_zero]; rfl) (by kernel_rfl) (fun K hK => ?_)
              go_simp
              refine hK.out _ _ ?_ (fun hHeld => ?_)
              · exact (Below.cell (p := ⟨b, o + k, none⟩) (by repeat (first | exact Below.refl _ _ | exact hB4 | exact hB5 | refine Below.alloc ?_ (by first | (simp; done) | (have := hB4.size; simp; omega) | (have := hB4.size; omega)) _ | refine Below.drew ?_)) hbl).trans hcell
              clear hK K
              (try simp only [Act.put, List.setIfInBounds_toArray, List.set_cons_zero, List.set_cons_succ])
              refine heldLaw 10 (by simp only [List.getElem?_toArray, List.getElem?_cons_succ, List.getElem?_cons_zero]; rfl) (by kernel_rfl) (by rfl) (fun K hK => ?_)
              refine wp_append_to _ (.tmp 66) (.tmp 71) _ rfl w6.heap.size 9 (.string ByteArray.empty) 1 16 Try.underlying23 str_info rfl (by omega) A4 m c4 ((out.take m).map Value.string) rfl (hown4.alloc _) (some ⟨_, 0, none⟩) _ 1 1 [.string x] rfl (reads_blk (t := 9) (fr := (0, 0)) (heapM1 _ _) rfl) (fun h => by cases h) (by intro u hu; simp at hu; subst hu; rfl) (m + 1) rfl (by unfold maxLen; omega) (by omega) (by have := hB4.size; simp; omega) ?_
              intro A5 c5 w5 hown5 hg5 hb5
              have hB5 : Below w6.heap.size w6 w5 := Below.trans (by repeat (first | exact Below.refl _ _ | exact hB4 | exact hB5 | refine Below.alloc ?_ (by first | (simp; done) | (have := hB4.size; simp; omega) | (have := hB4.size; omega)) _ | refine Below.drew ?_)) hb5
              refine hK.out _ _ ?_ (fun hHeld => ?_)
              · exact (Below.cell (p := ⟨b, o + k, none⟩) (by repeat (first | exact Below.refl _ _ | exact hB4 | exact hB5 | refine Below.alloc ?_ (by first | (simp; done) | (have := hB4.size; simp; omega) | (have := hB4.size; omega)) _ | refine Below.drew ?_)) hbl).trans hcell
              clear hK K
              (try simp only [Act.put, List.setIfInBounds_toArray, List.set_cons_zero, List.set_cons_succ])
              refine heldTake 11 (v := ?_) (by simp only [List.getElem?_toArray, List.getElem?_cons_succ, List.getElem?_cons_zero]; rfl) (by kernel_rfl) (by intro _ _ _ h; exact h) (by rfl) (by assumption) ?_ ?_
              rotate_left
              · intro W hSw; (try dsimp only at hSw); go_simp; try with_reducible rfl
              simp only [Act.put, List.setIfInBounds_toArray, List.set_cons_zero, List.set_cons_succ]
              refine heldDone (by kernel_rfl) ?_ _
              have hz5 := hB5.size
              have hrD := hrA.below hB5
              have hmlen : (m : Int) ≤ (out.length : Int) := by omega
              have HINS : Hid (insAll (smpGo seed) (all.take (k + 1)) = out.take m ++ [x] ++ out.drop m) := Lib.hid (by rw [HST.out]; unfold insV; rw [HAT.out])
              have HLN : Hid ((insAll (smpGo seed) (all.take (k + 1))).length = out.length + 1) := Lib.hid (by rw [HINS.out]; simp; omega)
              by_cases hq : c3 = m
              · have hR1 : Reads w5 w6.heap.size 1 (some ⟨g3, 0, none⟩) (out.length - m) ((out.drop m).map Value.string) := ⟨by simp, fun hp => by omega⟩
                have hR2 : Reads w5 w6.heap.size 1 (some ⟨g3, 0, none⟩) 0 ((out.drop m).map Value.string) := ⟨by simp; omega, fun hp => by omega⟩
                go_wp2_with (at_builtin; refine wpList_append_to w5 (by rfl) (.tmp 73) (.tmp 76) _ rfl w6.heap.size 9 (.string ByteArray.empty) 1 16 Try.underlying23 str_info rfl (by omega) A5 (m + 1) c5 _ rfl hown5 _ w6.heap.size _ _ ((out.drop m).map Value.string) rfl (by first | exact hR1 | exact hR2) (fun h => by cases h) (strs_one' _) (out.length + 1) (by omega) (by unfold maxLen; omega) (by omega) (by omega) ?_; intro A7 c7 w7 hown7 hg7 hb7)
                obtain ⟨g7, cap7, hv7, _, _⟩ := hown7.form (by omega)
                injection hv7 with hv7
                subst hv7
                go_roundg (all.length - k - 1)
                case measure => have := HK.out; omega
                case rel =>
                  refine ⟨k + 1, g7, c7, by go_num, by rw [HLN.out], Lib.hid (by have := HK.out; omega), ?_, ((hb.trans (hbm.mono hz2)).trans (hB5.mono (by omega))).trans (hb7.mono (by omega))⟩
                  rw [HLN.out, HINS.out, List.map_append, List.map_append]
                  exact own_base hown7 (by omega)
              · have hR1 : Reads w5 w6.heap.size 1 (some ⟨g3, m, none⟩) (out.length - m) ((out.drop m).map Value.string) := by
                  have := hrD.drop (m := m) (c := c3) (by omega) (by omega) rfl
                  rw [if_neg hq, Nat.mul_one, Nat.zero_add, ← List.map_drop] at this
                  exact this
                have hR2 := hR1
                go_wp2_with (at_builtin; refine wpList_append_to w5 (by rfl) (.tmp 73) (.tmp 76) _ rfl w6.heap.size 9 (.string ByteArray.empty) 1 16 Try.underlying23 str_info rfl (by omega) A5 (m + 1) c5 _ rfl hown5 _ w6.heap.size _ _ ((out.drop m).map Value.string) rfl (by first | exact hR1 | exact hR2) (fun h => by cases h) (strs_one' _) (out.length + 1) (by omega) (by unfold maxLen; omega) (by omega) (by omega) ?_; intro A7 c7 w7 hown7 hg7 hb7)
                obtain ⟨g7, cap7, hv7, _, _⟩ := hown7.form (by omega)
                injection hv7 with hv7
                subst hv7
                go_roundg (all.length - k - 1)
                case measure => have := HK.out; omega
                case rel =>
                  refine ⟨k + 1, g7, c7, by go_num, by rw [HLN.out], Lib.hid (by have := HK.out; omega), ?_, ((hb.trans (hbm.mono hz2)).trans (hB5.mono (by omega))).trans (hb7.mono (by omega))⟩
                  rw [HLN.out, HINS.out, List.map_append, List.map_append]
                  exact own_base hown7 (by omega)
            · refine heldOp 9 (by simp only [List.getElem?_toArray, List.getElem?_cons_succ, List.getElem?_cons_zero]; rfl) (fun K hK => ?_)
              go_simp
              refine hK.out _ _ ?_ (fun hHeld => ?_)
              · exact (Below.cell (p := ⟨b, o + k, none⟩) (by repeat (first | exact Below.refl _ _ | exact hB4 | exact hB5 | refine Below.alloc ?_ (by first | (simp; done) | (have := hB4.size; simp; omega) | (have := hB4.size; omega)) _ | refine Below.drew ?_)) hbl).trans hcell
              clear hK K
              (try simp only [Act.put, List.setIfInBounds_toArray, List.set_cons_zero, List.set_cons_succ])
              refine heldLaw 4 (by simp only [List.getElem?_toArray, List.getElem?_cons_succ, List.getElem?_cons_zero]; rfl) (by kernel_rfl) (by rfl) (fun K hK => ?_)
              refine wp_append_to _ (.tmp 62) (.tmp 65) _ rfl w6.heap.size 9 (.string ByteArray.empty) 1 16 Try.underlying23 str_info rfl (by omega) (some ⟨_, 0, none⟩) 0 0 [] rfl (own_empty (by simp) (by first | exact heapN1 _ _ | exact heapN3 _ _ _ | exact heapN2 _ _ _)) (some ⟨g3, 0, none⟩) w6.heap.size m c3 ((out.take m).map Value.string) rfl (hrO.below (by repeat (first | exact Below.refl _ _ | exact hB4 | exact hB5 | refine Below.alloc ?_ (by first | (simp; done) | (have := hB4.size; simp; omega) | (have := hB4.size; omega)) _ | refine Below.drew ?_))) (fun h => by cases h) (strs_one' _) m (by omega) (by unfold maxLen; omega) (by omega) (by first | (simp; done) | (simp; omega)) ?_
              intro A4 c4 w4 hown4 hg4 hb4
              have hB4 : Below w6.heap.size w6 w4 := Below.trans (by repeat (first | exact Below.refl _ _ | exact hB4 | exact hB5 | refine Below.alloc ?_ (by first | (simp; done) | (have := hB4.size; simp; omega) | (have := hB4.size; omega)) _ | refine Below.drew ?_)) hb4
              simp only [List.nil_append] at hown4
              refine hK.out _ _ ?_ (fun hHeld => ?_)
              · exact (Below.cell (p := ⟨b, o + k, none⟩) (by repeat (first | exact Below.refl _ _ | exact hB4 | exact hB5 | refine Below.alloc ?_ (by first | (simp; done) | (have := hB4.size; simp; omega) | (have := hB4.size; omega)) _ | refine Below.drew ?_)) hbl).trans hcell
              clear hK K
              (try simp only [Act.put, List.setIfInBounds_toArray, List.set_cons_zero, List.set_cons_succ])
              refine heldLaw 10 (by simp only [List.getElem?_toArray, List.getElem?_cons_succ, List.getElem?_cons_zero]; rfl) (by kernel_rfl) (by rfl) (fun K hK => ?_)
              refine wp_append_to _ (.tmp 66) (.tmp 71) _ rfl w6.heap.size 9 (.string ByteArray.empty) 1 16 Try.underlying23 str_info rfl (by omega) A4 m c4 ((out.take m).map Value.string) rfl (hown4) (some ⟨_, 0, none⟩) _ 1 1 [.string x] rfl (reads_blk (t := 9) (fr := (0, 0)) ((hg4.block _ (by simp) (by simp [Value.ownBlock])).trans (by first | exact heapN2 _ _ _ | exact heapN3 _ _ _)) rfl) (fun h => by cases h) (by intro u hu; simp at hu; subst hu; rfl) (m + 1) rfl (by unfold maxLen; omega) (by omega) (by have := hB4.size; simp; omega) ?_
              intro A5 c5 w5 hown5 hg5 hb5
              have hB5 : Below w6.heap.size w6 w5 := Below.trans (by repeat (first | exact Below.refl _ _ | exact hB4 | exact hB5 | refine Below.alloc ?_ (by first | (simp; done) | (have := hB4.size; simp; omega) | (have := hB4.size; omega)) _ | refine Below.drew ?_)) hb5
              refine hK.out _ _ ?_ (fun hHeld => ?_)
              · exact (Below.cell (p := ⟨b, o + k, none⟩) (by repeat (first | exact Below.refl _ _ | exact hB4 | exact hB5 | refine Below.alloc ?_ (by first | (simp; done) | (have := hB4.size; simp; omega) | (have := hB4.size; omega)) _ | refine Below.drew ?_)) hbl).trans hcell
              clear hK K
              (try simp only [Act.put, List.setIfInBounds_toArray, List.set_cons_zero, List.set_cons_succ])
              refine heldTake 11 (v := ?_) (by simp only [List.getElem?_toArray, List.getElem?_cons_succ, List.getElem?_cons_zero]; rfl) (by kernel_rfl) (by intro _ _ _ h; exact h) (by rfl) (by assumption) ?_ ?_
              rotate_left
              · intro W hSw; (try dsimp only at hSw); go_simp; try with_reducible rfl
              simp only [Act.put, List.setIfInBounds_toArray, List.set_cons_zero, List.set_cons_succ]
              refine heldDone (by kernel_rfl) ?_ _
              have hz5 := hB5.size
              have hrD := hrA.below hB5
              have hmlen : (m : Int) ≤ (out.length : Int) := by omega
              have HINS : Hid (insAll (smpGo seed) (all.take (k + 1)) = out.take m ++ [x] ++ out.drop m) := Lib.hid (by rw [HST.out]; unfold insV; rw [HAT.out])
              have HLN : Hid ((insAll (smpGo seed) (all.take (k + 1))).length = out.length + 1) := Lib.hid (by rw [HINS.out]; simp; omega)
              by_cases hq : c3 = m
              · have hR1 : Reads w5 w6.heap.size 1 (some ⟨g3, 0, none⟩) (out.length - m) ((out.drop m).map Value.string) := ⟨by simp, fun hp => by omega⟩
                have hR2 : Reads w5 w6.heap.size 1 (some ⟨g3, 0, none⟩) 0 ((out.drop m).map Value.string) := ⟨by simp; omega, fun hp => by omega⟩
                go_wp2_with (at_builtin; refine wpList_append_to w5 (by rfl) (.tmp 73) (.tmp 76) _ rfl w6.heap.size 9 (.string ByteArray.empty) 1 16 Try.underlying23 str_info rfl (by omega) A5 (m + 1) c5 _ rfl hown5 _ w6.heap.size _ _ ((out.drop m).map Value.string) rfl (by first | exact hR1 | exact hR2) (fun h => by cases h) (strs_one' _) (out.length + 1) (by omega) (by unfold maxLen; omega) (by omega) (by omega) ?_; intro A7 c7 w7 hown7 hg7 hb7)
                obtain ⟨g7, cap7, hv7, _, _⟩ := hown7.form (by omega)
                injection hv7 with hv7
                subst hv7
                go_roundg (all.length - k - 1)
                case measure => have := HK.out; omega
                case rel =>
                  refine ⟨k + 1, g7, c7, by go_num, by rw [HLN.out], Lib.hid (by have := HK.out; omega), ?_, ((hb.trans (hbm.mono hz2)).trans (hB5.mono (by omega))).trans (hb7.mono (by omega))⟩
                  rw [HLN.out, HINS.out, List.map_append, List.map_append]
                  exact own_base hown7 (by omega)
              · have hR1 : Reads w5 w6.heap.size 1 (some ⟨g3, m, none⟩) (out.length - m) ((out.drop m).map Value.string) := by
                  have := hrD.drop (m := m) (c := c3) (by omega) (by omega) rfl
                  rw [if_neg hq, Nat.mul_one, Nat.zero_add, ← List.map_drop] at this
                  exact this
                have hR2 := hR1
                go_wp2_with (at_builtin; refine wpList_append_to w5 (by rfl) (.tmp 73) (.tmp 76) _ rfl w6.heap.size 9 (.string ByteArray.empty) 1 16 Try.underlying23 str_info rfl (by omega) A5 (m + 1) c5 _ rfl hown5 _ w6.heap.size _ _ ((out.drop m).map Value.string) rfl (by first | exact hR1 | exact hR2) (fun h => by cases h) (strs_one' _) (out.length + 1) (by omega) (by unfold maxLen; omega) (by omega) (by omega) ?_; intro A7 c7 w7 hown7 hg7 hb7)
                obtain ⟨g7, cap7, hv7, _, _⟩ := hown7.form (by omega)
                injection hv7 with hv7
                subst hv7
                go_roundg (all.length - k - 1)
                case measure => have := HK.out; omega
                case rel =>
                  refine ⟨k + 1, g7, c7, by go_num, by rw [HLN.out], Lib.hid (by have := HK.out; omega), ?_, ((hb.trans (hbm.mono hz2)).trans (hB5.mono (by omega))).trans (hb7.mono (by omega))⟩
                  rw [HLN.out, HINS.out, List.map_append, List.map_append]
                  exact own_base hown7 (by omega)
          · refine heldOp 9 (by simp only [List.getElem?_toArray, List.getElem?_cons_succ, List.getElem?_cons_zero]; rfl) (fun K hK => ?_)
            go_simp
            refine hK.out _ _ ?_ (fun hHeld => ?_)
            · exact (Below.cell (p := ⟨b, o + k, none⟩) (by repeat (first | exact Below.refl _ _ | exact hB4 | exact hB5 | refine Below.alloc ?_ (by first | (simp; done) | (have := hB4.size; simp; omega) | (have := hB4.size; omega)) _ | refine Below.drew ?_)) hbl).trans hcell
            clear hK K
            (try simp only [Act.put, List.setIfInBounds_toArray, List.set_cons_zero, List.set_cons_succ])
            refine heldCall 0 (by simp only [List.getElem?_toArray, List.getElem?_cons_succ, List.getElem?_cons_zero]; rfl) (by kernel_rfl) (fun K hK => ?_)
            go_simp
            refine hK.out _ _ ?_ (fun hHeld => ?_)
            · exact (Below.cell (p := ⟨b, o + k, none⟩) (by repeat (first | exact Below.refl _ _ | exact hB4 | exact hB5 | refine Below.alloc ?_ (by first | (simp; done) | (have := hB4.size; simp; omega) | (have := hB4.size; omega)) _ | refine Below.drew ?_)) hbl).trans hcell
            clear hK K
            (try simp only [Act.put, List.setIfInBounds_toArray, List.set_cons_zero, List.set_cons_succ])
            refine heldLaw 4 (by simp only [List.getElem?_toArray, List.getElem?_cons_succ, List.getElem?_cons_zero]; rfl) (by kernel_rfl) (by rfl) (fun K hK => ?_)
            refine wp_append_to _ (.tmp 62) (.tmp 65) _ rfl w6.heap.size 9 (.string ByteArray.empty) 1 16 Try.underlying23 str_info rfl (by omega) (some ⟨_, 0, none⟩) 0 0 [] rfl (own_empty (by simp) (by first | exact heapN1 _ _ | exact heapN3 _ _ _ | exact heapN2 _ _ _)) (some ⟨g3, 0, none⟩) w6.heap.size m c3 ((out.take m).map Value.string) rfl (hrO.below (by repeat (first | exact Below.refl _ _ | exact hB4 | exact hB5 | refine Below.alloc ?_ (by first | (simp; done) | (have := hB4.size; simp; omega) | (have := hB4.size; omega)) _ | refine Below.drew ?_))) (fun h => by cases h) (strs_one' _) m (by omega) (by unfold maxLen; omega) (by omega) (by first | (simp; done) | (simp; omega)) ?_
            intro A4 c4 w4 hown4 hg4 hb4
            have hB4 : Below w6.heap.size w6 w4 := Below.trans (by repeat (first | exact Below.refl _ _ | exact hB4 | exact hB5 | refine Below.alloc ?_ (by first | (simp; done) | (have := hB4.size; simp; omega) | (have := hB4.size; omega)) _ | refine Below.drew ?_)) hb4
            simp only [List.nil_append] at hown4
            refine hK.out _ _ ?_ (fun hHeld => ?_)
            · exact (Below.cell (p := ⟨b, o + k, none⟩) (by repeat (first | exact Below.refl _ _ | exact hB4 | exact hB5 | refine Below.alloc ?_ (by first | (simp; done) | (have := hB4.size; simp; omega) | (have := hB4.size; omega)) _ | refine Below.drew ?_)) hbl).trans hcell
            clear hK K
            (try simp only [Act.put, List.setIfInBounds_toArray, List.set_cons_zero, List.set_cons_succ])
            refine heldLaw 10 (by simp only [List.getElem?_toArray, List.getElem?_cons_succ, List.getElem?_cons_zero]; rfl) (by kernel_rfl) (by rfl) (fun K hK => ?_)
            refine wp_append_to _ (.tmp 66) (.tmp 71) _ rfl w6.heap.size 9 (.string ByteArray.empty) 1 16 Try.underlying23 str_info rfl (by omega) A4 m c4 ((out.take m).map Value.string) rfl (hown4) (some ⟨_, 0, none⟩) _ 1 1 [.string x] rfl (reads_blk (t := 9) (fr := (0, 0)) ((hg4.block _ (by simp; omega) (by simp [Value.ownBlock])).trans (by first | exact heapN2 _ _ _ | exact heapN3 _ _ _)) rfl) (fun h => by cases h) (by intro u hu; simp at hu; subst hu; rfl) (m + 1) rfl (by unfold maxLen; omega) (by omega) (by have := hB4.size; simp; omega) ?_
            intro A5 c5 w5 hown5 hg5 hb5
            have hB5 : Below w6.heap.size w6 w5 := Below.trans (by repeat (first | exact Below.refl _ _ | exact hB4 | exact hB5 | refine Below.alloc ?_ (by first | (simp; done) | (have := hB4.size; simp; omega) | (have := hB4.size; omega)) _ | refine Below.drew ?_)) hb5
            refine hK.out _ _ ?_ (fun hHeld => ?_)
            · exact (Below.cell (p := ⟨b, o + k, none⟩) (by repeat (first | exact Below.refl _ _ | exact hB4 | exact hB5 | refine Below.alloc ?_ (by first | (simp; done) | (have := hB4.size; simp; omega) | (have := hB4.size; omega)) _ | refine Below.drew ?_)) hbl).trans hcell
            clear hK K
            (try simp only [Act.put, List.setIfInBounds_toArray, List.set_cons_zero, List.set_cons_succ])
            refine heldTake 11 (v := ?_) (by simp only [List.getElem?_toArray, List.getElem?_cons_succ, List.getElem?_cons_zero]; rfl) (by kernel_rfl) (by intro _ _ _ h; exact h) (by rfl) (by assumption) ?_ ?_
            rotate_left
            · intro W hSw; (try dsimp only at hSw); go_simp; try with_reducible rfl
            simp only [Act.put, List.setIfInBounds_toArray, List.set_cons_zero, List.set_cons_succ]
            refine heldDone (by kernel_rfl) ?_ _
            have hz5 := hB5.size
            have hrD := hrA.below hB5
            have hmlen : (m : Int) ≤ (out.length : Int) := by omega
            have HINS : Hid (insAll (smpGo seed) (all.take (k + 1)) = out.take m ++ [x] ++ out.drop m) := Lib.hid (by rw [HST.out]; unfold insV; rw [HAT.out])
            have HLN : Hid ((insAll (smpGo seed) (all.take (k + 1))).length = out.length + 1) := Lib.hid (by rw [HINS.out]; simp; omega)
            by_cases hq : c3 = m
            · have hR1 : Reads w5 w6.heap.size 1 (some ⟨g3, 0, none⟩) (out.length - m) ((out.drop m).map Value.string) := ⟨by simp, fun hp => by omega⟩
              have hR2 : Reads w5 w6.heap.size 1 (some ⟨g3, 0, none⟩) 0 ((out.drop m).map Value.string) := ⟨by simp; omega, fun hp => by omega⟩
              go_wp2_with (at_builtin; refine wpList_append_to w5 (by rfl) (.tmp 73) (.tmp 76) _ rfl w6.heap.size 9 (.string ByteArray.empty) 1 16 Try.underlying23 str_info rfl (by omega) A5 (m + 1) c5 _ rfl hown5 _ w6.heap.size _ _ ((out.drop m).map Value.string) rfl (by first | exact hR1 | exact hR2) (fun h => by cases h) (strs_one' _) (out.length + 1) (by omega) (by unfold maxLen; omega) (by omega) (by omega) ?_; intro A7 c7 w7 hown7 hg7 hb7)
              obtain ⟨g7, cap7, hv7, _, _⟩ := hown7.form (by omega)
              injection hv7 with hv7
              subst hv7
              go_roundg (all.length - k - 1)
              case measure => have := HK.out; omega
              case rel =>
                refine ⟨k + 1, g7, c7, by go_num, by rw [HLN.out], Lib.hid (by have := HK.out; omega), ?_, ((hb.trans (hbm.mono hz2)).trans (hB5.mono (by omega))).trans (hb7.mono (by omega))⟩
                rw [HLN.out, HINS.out, List.map_append, List.map_append]
                exact own_base hown7 (by omega)
            · have hR1 : Reads w5 w6.heap.size 1 (some ⟨g3, m, none⟩) (out.length - m) ((out.drop m).map Value.string) := by
                have := hrD.drop (m := m) (c := c3) (by omega) (by omega) rfl
                rw [if_neg hq, Nat.mul_one, Nat.zero_add, ← List.map_drop] at this
                exact this
              have hR2 := hR1
              go_wp2_with (at_builtin; refine wpList_append_to w5 (by rfl) (.tmp 73) (.tmp 76) _ rfl w6.heap.size 9 (.string ByteArray.empty) 1 16 Try.underlying23 str_info rfl (by omega) A5 (m + 1) c5 _ rfl hown5 _ w6.heap.size _ _ ((out.drop m).map Value.string) rfl (by first | exact hR1 | exact hR2) (fun h => by cases h) (strs_one' _) (out.length + 1) (by omega) (by unfold maxLen; omega) (by omega) (by omega) ?_; intro A7 c7 w7 hown7 hg7 hb7)
              obtain ⟨g7, cap7, hv7, _, _⟩ := hown7.form (by omega)
              injection hv7 with hv7
              subst hv7
              go_roundg (all.length - k - 1)
              case measure => have := HK.out; omega
              case rel =>
                refine ⟨k + 1, g7, c7, by go_num, by rw [HLN.out], Lib.hid (by have := HK.out; omega), ?_, ((hb.trans (hbm.mono hz2)).trans (hB5.mono (by omega))).trans (hb7.mono (by omega))⟩
                rw [HLN.out, HINS.out, List.map_append, List.map_append]
                exact own_base hown7 (by omega)
    · have hkl : k = all.length := by have := HK.out; omega
      have hfin : insAll (smpGo seed) (all.take k) = sampleAll seed l := by rw [hkl, List.take_length, ← HALL.out]; exact insAll_sample seed l
      clear hperm hsO hkl
      generalize insAll (smpGo seed) (all.take k) = out0 at *
      subst hfin
      have hvl : (sampleV seed n l).length = min n.toNat (sampleAll seed l).length := by unfold sampleV; exact List.length_take
      have hst := hrO0.take n.toNat
      have hbw : Below w.heap.size w w2 := hb01.trans (hb.mono (by omega))
      have HVL := Lib.hid hvl
      have EV : Hid (sampleV seed n l = (sampleAll seed l).take n.toNat) := Lib.hid rfl
      have HLE : Hid ((sampleAll seed l).length ≤ n.toNat → sampleV seed n l = sampleAll seed l) := Lib.hid (fun h => by rw [EV.out, List.take_of_length_le h])
      clear hvl
      generalize sampleAll seed l = out at *
      have hfresh : ∀ b o sp, (some ⟨g3, 0, none⟩ : Option Addr) = some ⟨b, o, sp⟩ → w.heap.size ≤ b ∧ b < w2.heap.size := fun b o sp e => by
        injection e with e
        injection e with e1
        subst e1
        exact hown.lt _ rfl
      have fin : ∀ v : Nat, v = (sampleV seed n l).length → RetS w (sampleV seed n l) (.returned (.slice (some ⟨g3, 0, none⟩) v c3)) w2 := fun v hv => ⟨some ⟨g3, 0, none⟩, c3, by rw [hv], by rw [EV.out]; exact hst, by rw [HVL.out]; omega, hfresh, hbw⟩
      have FIN := Lib.hid fin
      clear fin
      by_cases hn0 : n < 0
      · by_cases hlo : 0 < (out.length : Int)
        · have HV : Hid (0 = (sampleV seed n l).length) := Lib.hid (by rw [HVL.out]; omega)
          go_wp2
          refine bodyPost_ret (results_tmp rfl _ _ _) rfl ?_
          exact FIN.out _ HV.out
        · have HV : Hid (out.length = (sampleV seed n l).length) := Lib.hid (by rw [HVL.out]; omega)
          go_wp2
          refine bodyPost_ret (results_tmp rfl _ _ _) rfl ?_
          exact FIN.out _ HV.out
      · by_cases hlo : n < (out.length : Int)
        · have hnc : n ≤ (c3 : Int) := by omega
          have HV : Hid (n.toNat = (sampleV seed n l).length) := Lib.hid (by rw [HVL.out]; omega)
          go_wp2
          refine bodyPost_ret (results_tmp rfl _ _ _) rfl ?_
          exact FIN.out _ HV.out
        · have HV : Hid (out.length = (sampleV seed n l).length) := Lib.hid (by rw [HVL.out]; omega)
          go_wp2
          refine bodyPost_ret (results_tmp rfl _ _ _) rfl ?_
          exact FIN.out _ HV.out
end Go.Proofs.Ytpbaokhlhhpiiaa
