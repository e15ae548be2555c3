/- Contracts of Ranges, Sources, Count; what is put to bytes, in plain words. -/
import Derived.Test.YtcladmcbhnmhiaaDdD
import Derived.Test.YtcladmcbhnmhiaaLayD
import Derived.Test.YtcladmcbhnmhiaaKitSd
import Derived.Test.YtcladmcbhnmhiaaKitI
import Derived.Test.YtcladmcbhnmhiaaKitZ
namespace Go.Proofs.Ytcladmcbhnmhiaa
open Go.ChangeShapes Go.WideShapes Go.ChangeAt Go.RowKit Go.Shelf Go.Lib Go.Sort Go.Proofs
set_option linter.unusedVariables false
set_option linter.unusedSimpArgs false

set_option maxHeartbeats 4000000 in
set_option maxRecDepth 100000 in
theorem ranges_any (sb : Nat) (G : Nat → Prop) (F : RowsF) (key : ByteArray) (w : World) (h : SetObj w sb G F) (hok : key.size ≤ maxLen) (hl : (F key).length < 900000) :
    Calls Try.prog 21 #[.pointer (some ⟨sb, 0, none⟩), .string key] w fun e w' => ∃ A c, e = .returned (.slice A (F key).length c) ∧ Reads w' w'.heap.size 2 A (F key).length (rgsCells (F key)) ∧ Below w.heap.size w w' := by
  obtain ⟨mb, D, hD, -⟩ := h
  have c1 := hD.cells
  have hlo := look_rows hD.mp hok
  obtain ⟨A, c, hv, hown, -⟩ := hD.row key
  rw [hv] at hlo
  have hrd := own_reads hown
  generalize F key = R at *
  have q := clone_all (P := Try.prog) Try.cloneR (z := .agg #[.int .i64 0, .int .i64 0]) (size := 2) (bytes := 16) i_rg rfl (by omega) sz_rg A w.heap.size R.length c (rgsCells R) w hrd (by unfold maxLen; omega) (by omega) (rgsCells_one _)
  have Q := Lib.hid q
  clear q hown hv hD hrd
  go_enter Try.func21, Try.ntmps21
  go_wp2_with fail
  refine Calls.mono Q.out ?_
  rintro e w1 ⟨A', c', rfl, ho, hb⟩
  have hr := Reads.of_own ho
  have HR := Lib.hid hr
  have HB := Lib.hid hb
  clear hr hb ho
  go_wp2
  go_ret
  exact ⟨_, _, rfl, HR.out, HB.out⟩

theorem ownsRow_base {w : World} {b b' : Nat} {e : TypeId} {size n : Nat} {v : Value} {xs : List Value} (h : w.ownsRow b e size v n xs) (hb : b' ≤ b) : w.ownsRow b' e size v n xs := by
  refine ⟨h.1, h.2.imp id ?_⟩
  rintro ⟨g, cap, cur, h1, h2, h3⟩
  exact ⟨g, cap, cur, h1, Nat.le_trans hb h2, h3⟩
theorem enters_keysN : ∀ args w, (callFunc (Try.keysN_ren.f 10) args).run Try.prog w = .ok (.enter (Try.keysN_ren.f 10) args) w := by
  intro args w; kernel_rfl

/-- The keys of a set's rows, in order. -/
def KeysF (F : RowsF) (ks : List ByteArray) : Prop := ks.Pairwise (fun x y => sLt x y = true) ∧ ∀ k, k ∈ ks ↔ F k ≠ []
set_option maxHeartbeats 4000000 in
set_option maxRecDepth 100000 in
theorem sorted07_any (Bm b : Nat) (S : SlotL) (w : World) (hm : w.cell? ⟨Bm, 0, none⟩ = some (.map (some b))) (hBm : Bm < w.heap.size) (hS : MapIs w strKf slotVf strOk b S) (hN : (S.length : Int) ≤ 1000000) :
    Calls Try.prog 36 #[.func (.func 51) #[] #[.pointer (some ⟨Bm, 0, none⟩)]] w fun e w' => ∃ A' c' m, e = .returned (.slice A' (List.length m) c') ∧ m.Perm (S.map (·.1)) ∧ m.Pairwise (fun x y => sLt y x = false) ∧ w'.ownsRow w.heap.size 9 1 (.slice A' m.length c') m.length (m.map Value.string) ∧ Below w.heap.size w w' := by
  have H := Lib.hid (collectKeys_any (P := Try.prog) (ρ := Try.keysN_ren) { Try.keysN with } Try.collS enters_keysN Bm b S w hBm hm hS hN)
  clear hm hS
  go_enter Try.func36, Try.ntmps36
  go_wp2_with fail
  refine Calls.mono H.out ?_
  rintro e w1 ⟨A', c', xs, rfl, hpm, h1, h2⟩
  have hxl : (xs.length : Int) ≤ 1000000 := by have := hpm.length_eq; simp at this; omega
  have q := sortStrD (P := Try.prog) Try.sortStrs w.heap.size 9 A' c' xs w1 h1 (by omega)
  have hbase := fun j (hj : (Value.slice A' xs.length c').ownBlock = some j) => (h1.lt j hj).1
  have Q := Lib.hid q
  have HB := Lib.hid hbase
  have HPM := Lib.hid hpm
  clear q h1 hbase hpm
  go_wp2_with fail
  refine Q.out.mono ?_
  rintro e w2 ⟨rfl, m, hp, hs, ho, hk⟩
  have hb := h2.trans (hk.toBelow h2.size (fun j hj => HB.out j hj))
  have HO := Lib.hid ho
  have HS := Lib.hid hs
  have HP := Lib.hid hp
  clear ho hs hp hk
  go_wp2
  go_ret
  exact ⟨A', c', m, by rw [HP.out.length_eq]; rfl, HP.out.symm.trans HPM.out, HS.out, by rw [← HP.out.length_eq]; exact HO.out, hb⟩

theorem SetAt.keys {w : World} {sb mb : Nat} {D : SlotL} {F : RowsF} (h : SetAt w sb mb D F) {m : List ByteArray} (hp : m.Perm (D.map (·.1))) (hs : m.Pairwise (fun x y => sLt y x = false)) : KeysF F m := by
  have hn : m.Nodup := hp.nodup_iff.2 h.mp.nodup
  refine ⟨?_, fun k => ?_⟩
  · refine List.Pairwise.imp ?_ (List.Pairwise.and hs hn)
    rintro x y ⟨h1, h2⟩
    cases h : sLt x y with
    | true => rfl
    | false => exact absurd (sLt_total h h1) h2
  · rw [hp.mem_iff, List.mem_map]
    constructor
    · rintro ⟨p, hp, rfl⟩
      exact (h.rows p hp).2
    · intro hk
      cases hm : mget D k with
      | none => exact absurd (h.no k hm) hk
      | some s => exact ⟨(k, s), mget_some_mem hm, rfl⟩

set_option maxHeartbeats 4000000 in
set_option maxRecDepth 100000 in
theorem sources_any (sb : Nat) (G : Nat → Prop) (F : RowsF) (w : World) (h : SetObj w sb G F) (hN : ∀ ks, KeysF F ks → (ks.length : Int) ≤ 1000000) :
    Calls Try.prog 22 #[.pointer (some ⟨sb, 0, none⟩)] w fun e w' => ∃ A c ks, e = .returned (.slice A (List.length ks) c) ∧ KeysF F ks ∧ (StrsAt w' w'.heap.size A ks ∧ w'.ownsRow w.heap.size 9 1 (.slice A ks.length c) ks.length (ks.map Value.string)) ∧ Below w.heap.size w w' := by
  obtain ⟨mb, D, hD, -⟩ := h
  have c1 := hD.cells
  have hlenD : (D.length : Int) ≤ 1000000 := by
    have hks := hD.keys (m := (D.map (·.1)).mergeSort (fun x y => !sLt y x)) (List.mergeSort_perm _ _) (by
      have := List.pairwise_mergeSort (le := fun x y => !sLt y x) (fun a b c h1 h2 => by
        cases h3 : sLt c a with
        | false => rfl
        | true =>
          exfalso
          simp at h1 h2
          cases h4 : sLt a b with
          | true => have := sLt_trans h3 h4; rw [this] at h2; cases h2
          | false => have := sLt_total h4 h1; subst this; rw [h3] at h2; cases h2) (fun a b => by
        cases h1 : sLt b a with
        | false => rfl
        | true => simp [sLt_asymm h1]) (D.map (·.1))
      exact this.imp (fun h => by simpa using h))
    have := hN _ hks
    rw [List.length_mergeSort, List.length_map] at this
    exact this
  have q1 := mapsKeys_any (P := Try.prog) Try.keysN (some mb) w
  have hm1 : MapIs (w.alloc (.cells #[.map (some mb)] 64)) strKf slotVf strOk mb D := hD.mp.alloc _
  have q2 := sorted07_any w.heap.size mb D (w.alloc (.cells #[.map (some mb)] 64)) (by simp) (by simp) hm1 hlenD
  have Q1 := Lib.hid q1
  have Q2 := Lib.hid q2
  have HD := Lib.hid hD
  have hsz : ∀ p ∈ D, p.1.size ≤ maxLen := hD.mp.ok
  have HSZ := Lib.hid hsz
  clear q1 q2 hm1 hD hsz
  go_enter Try.func22, Try.ntmps22
  go_wp2_with fail
  refine Calls.mono Q1.out ?_
  rintro e w1 ⟨rfl, rfl⟩
  go_wp2_with fail
  refine Calls.mono Q2.out ?_
  rintro e w2 ⟨A', c', m, rfl, hpm, hso, ho, hb2⟩
  have hst : StrsAt w2 w2.heap.size A' m := StrsAt.of_own ho (fun k hk => by
    obtain ⟨p, hp, e⟩ := List.mem_map.1 (hpm.mem_iff.1 hk)
    exact e ▸ HSZ.out p hp)
  have hks := HD.out.keys hpm hso
  have HST := Lib.hid (And.intro hst (ownsRow_base ho (show w.heap.size ≤ (w.alloc (.cells #[.map (some mb)] 64)).heap.size by simp)))
  have HKS := Lib.hid hks
  have hbb : Below w.heap.size w w2 := ((Below.refl _ w).alloc (Nat.le_refl _) _).trans (hb2.mono (by simp))
  have HBB := Lib.hid hbb
  clear hst hks hbb hb2 ho hpm hso
  go_wp2
  go_ret
  exact ⟨_, _, m, rfl, HKS.out, HST.out, HBB.out⟩
end Go.Proofs.Ytcladmcbhnmhiaa
