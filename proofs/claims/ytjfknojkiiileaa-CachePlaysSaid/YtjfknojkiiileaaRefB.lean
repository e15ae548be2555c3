/- The reference's Touch and Keys (ciceroneref29). -/
import Derived.Test.YtjfknojkiiileaaRefA
namespace Go.Proofs.Ytjfknojkiiileaa
open Go.ChangeShapes Go.WideShapes Go.ChangeAt Go.RowKit
set_option linter.unusedVariables false
set_option linter.unusedSimpArgs false

def rtouchV (l : List REnt) (ds : List ByteArray) : List REnt := l.filter fun e => !(ds.any fun d => memB d e.deps.l)
theorem rtouch_snoc {l : List REnt} {ds : List ByteArray} {k : Nat} (hk : k < l.length) : rtouchV (l.take (k + 1)) ds = rtouchV (l.take k) ds ++ (if (ds.any fun d => memB d l[k].deps.l) = true then [] else [l[k]]) := by
  unfold rtouchV
  rw [List.take_succ_eq_append_getElem hk, List.filter_append]
  congr 1
  cases h : (ds.any fun d => memB d l[k].deps.l) <;> simp [h]

theorem rkeys_info : (Try.prog.info? 9).map (fun i => (i.zero, i.size, i.bytes)) = some (some (.string ByteArray.empty), 1, 16) := by kernel_rfl

def RowK (w : World) (l : List ByteArray) (e : Ending) (w' : World) : Prop := ∃ A' c', e = .returned (.slice A' l.length c') ∧ w'.ownsRow w.heap.size 9 1 (.slice A' l.length c') l.length (l.map Value.string) ∧ Below w.heap.size w w'

set_option maxRecDepth 20000 in
set_option maxHeartbeats 2000000 in
theorem rkeys29_any {w : World} {A : Option Addr} {c : Nat} {l : List REnt} (h : EntsAt w A c l) (hl : (l.length : Int) ≤ 1000000) :
    Calls Try.prog 21 #[.slice A l.length c] w (RowK w (l.map (·.key))) := by
  go_enter Try.func21, Try.ntmps21
  go_wp2_with fail
  go_loopg [3, 4] l.length (fun rest v i wr => ∃ (k : Nat) (A3 : Option Addr) (c3 : Nat), v = .slice A3 k c3 ∧ i = .int .i64 k ∧ Hid (k + rest = l.length) ∧ wr.ownsRow w.heap.size 9 1 (.slice A3 k c3) k (((l.take k).map (·.key)).map Value.string) ∧ Below w.heap.size w wr)
  case atStart => exact ⟨0, some ⟨w.heap.size, 0, none⟩, 0, rfl, rfl, Lib.hid (by simp), own_empty (Nat.le_refl _) (heap_alloc_new w _), (Below.refl _ _).alloc (Nat.le_refl _) _⟩
  case round =>
    obtain ⟨k, A3, c3, rfl, rfl, HK, hown, hb⟩ := hrel
    have hkl' : (k : Int) ≤ (l.length : Int) := by have := HK.out; omega
    by_cases hk : (k : Int) < (l.length : Int)
    · have hkl : k < l.length := by omega
      obtain ⟨b, o, rfl, hbl, c0, c1, c2⟩ := (h.below hb).one hkl
      have HT : Hid (((l.take (k + 1)).map (·.key)).map Value.string = ((l.take k).map (·.key)).map Value.string ++ [.string l[k].key]) := Lib.hid (by rw [List.take_succ_eq_append_getElem hkl, List.map_append, List.map_append]; rfl)
      generalize l[k] = x at *
      have hz := hb.size
      go_wp2_with (at_builtin; refine wpList_append_cell wr rfl _ _ 27 rfl w.heap.size 9 (.string ByteArray.empty) 16 Try.underlying27 rkeys_info rfl A3 k c3 _ rfl hown (.string x.key) rfl rfl (by omega) (by unfold maxLen; omega) hz ?_; intro A4 c4 w4 hown4 hg4 hb4)
      rw [← HT.out] at hown4
      go_roundg (gk - 1)
      case measure => have := HK.out; omega
      case rel => exact ⟨k + 1, A4, c4, rfl, by go_num, Lib.hid (by have := HK.out; omega), hown4, hb.trans hb4⟩
    · have hkn : k = l.length := by omega
      subst hkn
      rw [List.take_length] at hown
      go_wp2
      refine bodyPost_ret (results_tmp rfl _ _ _) rfl ?_
      refine ⟨A3, c3, by rw [List.length_map]; rfl, ?_, hb⟩
      rw [List.length_map]
      exact hown

set_option maxRecDepth 20000 in
set_option maxHeartbeats 4000000 in
theorem rtouch29_any {w : World} {A DA : Option Addr} {c dc : Nat} {l : List REnt} {ds : List ByteArray} (h : EntsAt w A c l) (hl : (l.length : Int) ≤ 1000000) (hd : StrsAt w w.heap.size DA ds) (hdl : (ds.length : Int) ≤ 1000000) (hes : ∀ e ∈ l, StrsAt w w.heap.size e.deps.adr e.deps.l ∧ (e.deps.l.length : Int) ≤ 1000000) :
    Calls Try.prog 17 #[.slice A l.length c, .slice DA ds.length dc] w (RowE w (rtouchV l ds)) := by
  have HES := Lib.hid hes
  clear hes
  go_enter Try.func17, Try.ntmps17
  go_wp2_with fail
  go_loopg [5, 6] l.length (fun rest v i wr => ∃ (k : Nat) (A3 : Option Addr) (c3 : Nat), v = .slice A3 (rtouchV (l.take k) ds).length c3 ∧ i = .int .i64 k ∧ Hid (k + rest = l.length) ∧ wr.ownsRow w.heap.size 41 3 (.slice A3 (rtouchV (l.take k) ds).length c3) (rtouchV (l.take k) ds).length ((rtouchV (l.take k) ds).flatMap rentCells) ∧ Below w.heap.size w wr)
  case atStart => exact ⟨0, some ⟨w.heap.size, 0, none⟩, 0, rfl, rfl, Lib.hid (by simp), own_empty (Nat.le_refl _) (heap_alloc_new w _), (Below.refl _ _).alloc (Nat.le_refl _) _⟩
  case round =>
    obtain ⟨k, A3, c3, rfl, rfl, HK, hown, hb⟩ := hrel
    obtain ⟨w1, rfl⟩ : ∃ w1 : World, w1 = wr := ⟨_, rfl⟩
    have hkl' : (k : Int) ≤ (l.length : Int) := by have := HK.out; omega
    have htl : ((rtouchV (l.take k) ds).length : Int) ≤ (k : Int) := by
      have := List.length_filter_le (fun e : REnt => !(ds.any fun d => memB d e.deps.l)) (l.take k)
      unfold rtouchV
      simp at this ⊢
      omega
    by_cases hk : (k : Int) < (l.length : Int)
    · have hkl : k < l.length := by omega
      have hE1 := h.below hb
      have HD1 := Lib.hid (hd.below hb)
      obtain ⟨b, o, rfl, hbl, c0, c1, c2⟩ := hE1.one hkl
      have HSN := Lib.hid (rtouch_snoc (ds := ds) hkl)
      have hx := HES.out _ (List.getElem_mem hkl)
      have HX := Lib.hid (hx.1.below hb)
      have hxl := hx.2
      generalize l[k] = x at *
      generalize rtouchV (l.take k) ds = T at *
      clear hx hE1
      have HGK := HK
      go_wp2_with fail
      go_loopg [7, 8] ds.length (fun rest tt jj wx => ∃ (j : Nat) (t : Bool), tt = .bool t ∧ jj = .int .i64 j ∧ Hid (j + rest = ds.length) ∧ Hid (t = (ds.take j).any fun d => memB d x.deps.l) ∧ Below w1.heap.size w1 wx)
      case atStart => exact ⟨0, false, rfl, rfl, Lib.hid (by simp), Lib.hid (by simp), Below.refl _ _⟩
      case round =>
        obtain ⟨j, t, rfl, rfl, HJ, HT, hbx⟩ := hrel
        obtain ⟨w2, rfl⟩ : ∃ w2 : World, w2 = wr := ⟨_, rfl⟩
        have d0 := (hbx.cell (p := ⟨b, o + k * 3, none⟩) hbl).trans c0
        have d1 := (hbx.cell (p := ⟨b, o + k * 3 + 1, none⟩) hbl).trans c1
        have d2 := (hbx.cell (p := ⟨b, o + k * 3 + 1 + 1, none⟩) hbl).trans c2
        have hz1 := hb.size
        have hD2 := HD1.out.below (hbx.mono hz1)
        have hX2 := HX.out.below (hbx.mono hz1)
        by_cases hj : (j : Int) < (ds.length : Int)
        · have hjl : j < ds.length := by omega
          obtain ⟨bj, oj, rfl, hbj, cj, hsj⟩ := hD2.one hjl
          have HS : Hid ((ds.take (j + 1)).any (fun d => memB d x.deps.l) = ((ds.take j).any (fun d => memB d x.deps.l) || memB ds[j] x.deps.l)) := Lib.hid (by rw [List.take_succ_eq_append_getElem hjl, List.any_append]; simp)
          generalize ds[j] = y at *
          have hin := fun q => in8_any x.deps.adr w.heap.size x.deps.cap x.deps.l y (w2.drewN q) (hX2.below (below_drewN (Below.refl _ _) q)) (by omega)
          have QI := Lib.hid (fun q => (hin q).mono (R' := fun e w' => e = .returned (.bool (memB y x.deps.l)) ∧ w' = w2.drewN q) (fun e w' h => ⟨h.1, h.2.symm⟩))
          clear hin hX2 hD2
          cases t with
          | true =>
            go_wp2_with fail
            go_quiet (fail)
            go_wp2
            go_roundg (gk - 1)
            case measure => have := HJ.out; omega
            case rel => exact ⟨j + 1, true, rfl, by go_num, Lib.hid (by have := HJ.out; omega), Lib.hid (by rw [HS.out, ← HT.out]; rfl), below_drewN hbx _⟩
          | false =>
            go_wp2_with fail
            go_quiet ((go_at_call 13; exact Calls.quiet_of_same (QI.out _)))
            go_wp2
            go_roundg (gk - 1)
            case measure => have := HJ.out; omega
            case rel => exact ⟨j + 1, memB y x.deps.l, rfl, by go_num, Lib.hid (by have := HJ.out; omega), Lib.hid (by rw [HS.out, ← HT.out]; rfl), below_drewN hbx _⟩
        · have HTE : Hid ((ds.any fun d => memB d x.deps.l) = t) := Lib.hid (by rw [HT.out, List.take_of_length_le (by omega)])
          have hown2 : w2.ownsRow w.heap.size 41 3 (.slice A3 T.length c3) T.length (T.flatMap rentCells) := (Keeps.ofBelow hbx (fun _ => False)).own hown (fun _ _ e => e)
          have hb2 : Below w.heap.size w w2 := hb.trans (hbx.mono hz1)
          have hz2 := hb2.size
          clear hD2 hX2 hown
          cases t with
          | true =>
            have HSN2 : Hid (rtouchV (l.take (k + 1)) ds = T) := Lib.hid (by rw [HSN.out, if_pos HTE.out, List.append_nil])
            go_wp2
            go_roundg (l.length - (k + 1))
            case measure => have := HGK.out; omega
            case rel => exact ⟨k + 1, A3, c3, by rw [HSN2.out], by go_num, Lib.hid (by have := HGK.out; omega), by rw [HSN2.out]; exact hown2, hb2⟩
          | false =>
            have HSN2 : Hid (rtouchV (l.take (k + 1)) ds = T ++ [x]) := Lib.hid (by rw [HSN.out, if_neg (by rw [HTE.out]; simp)])
            go_wp2_with (at_builtin; refine wpList_append_one w2 rfl _ _ 37 rfl w.heap.size 41 (.agg #[.string ByteArray.empty, .string ByteArray.empty, .slice none 0 0]) 3 56 Try.underlying37 rent_info rfl (by omega) A3 T.length c3 _ rfl hown2 [.string x.key, .string x.val, .slice x.deps.adr x.deps.l.length x.deps.cap] rfl rfl (rent_one1 _) (by omega) (by unfold maxLen; omega) hz2 ?_; intro A4 c4 w4 hown4 hg4 hb4)
            go_roundg (l.length - (k + 1))
            case measure => have := HGK.out; omega
            case rel =>
              refine ⟨k + 1, A4, c4, by rw [HSN2.out]; simp, by go_num, Lib.hid (by have := HGK.out; omega), ?_, hb2.trans hb4⟩
              rw [HSN2.out, show (T ++ [x]).length = T.length + 1 by simp, List.flatMap_append]
              simpa [rentCells] using hown4
    · have hkn : l.take k = l := List.take_of_length_le (by omega)
      rw [hkn] at hown ⊢
      have HP : Hid (RowE w (rtouchV l ds) (.returned (.slice A3 (rtouchV l ds).length c3)) w1) := Lib.hid ⟨A3, c3, rfl, EntsAt.of_own hown, own_new hown, hb⟩
      clear hkn hown
      generalize (rtouchV l ds).length = n at *
      go_wp2
      refine bodyPost_ret (results_tmp rfl _ _ _) rfl ?_
      exact HP.out
end Go.Proofs.Ytjfknojkiiileaa
