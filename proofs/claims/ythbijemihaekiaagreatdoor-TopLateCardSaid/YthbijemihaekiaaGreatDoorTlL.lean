/- Contracts of event.Tags and event.listing at the texts of a tale's listings. -/
import Derived.Test.YthbijemihaekiaaGreatDoorTlH
import Derived.Test.YthbijemihaekiaaGreatDoorLayM
import Derived.Test.YthbijemihaekiaaGreatDoorNam
import Derived.Test.YthbijemihaekiaaGreatDoorKitV
namespace Go.Proofs.YthbijemihaekiaaGreatDoor
open Go.ChangeShapes Go.WideShapes Go.ChangeAt Go.RowKit
set_option linter.unusedVariables false
set_option linter.unusedSimpArgs false

/-- The library's bound of short texts is a number. -/
def MxAt (w : World) : Prop := ∃ m, w.cell? ⟨1, 0, none⟩ = some (.int .i64 m)
theorem MxAt.below {w w' : World} {B : Nat} (h : MxAt w) (hb : Below B w w') (hB : 1 < B) : MxAt w' := by
  obtain ⟨m, hm⟩ := h
  exact ⟨m, (hb.cell (p := ⟨_, 0, none⟩) hB).trans hm⟩
theorem MxAt.lt {w : World} (h : MxAt w) : 1 < w.heap.size := by
  obtain ⟨m, hm⟩ := h
  exact World.block_lt_of_cell? _ _ hm
theorem MxAt.next {w w' : World} (h : MxAt w) (hb : Below w.heap.size w w') : MxAt w' := h.below hb h.lt

def restL (x y z : Bool) : ByteArray := ⟨(Lib.join ((tagsL x y z).map (·.data.toList)) [44]).toArray⟩
theorem m3 {m : Int} (h : 0 ≤ m ∧ m ≤ 2) : m = 0 ∨ m = 1 ∨ m = 2 := by omega
theorem cut_plain {m : Int} (h : 0 ≤ m ∧ m ≤ 2) (x y z : Bool) : Lib.cut (lstT m x y z).data.toList [59] = ((nm 109 m).data.toList, (restL x y z).data.toList, true) := by
  rcases m3 h with rfl | rfl | rfl <;> cases x <;> cases y <;> cases z <;> decide
theorem lst_size {m : Int} (h : 0 ≤ m ∧ m ≤ 2) (x y z : Bool) : (lstT m x y z).size ≤ 20 := by
  rcases m3 h with rfl | rfl | rfl <;> cases x <;> cases y <;> cases z <;> decide
theorem rest_size (x y z : Bool) : (restL x y z).size ≤ 12 := by cases x <;> cases y <;> cases z <;> decide
theorem split_plain (x y z : Bool) (h : (x || y || z) = true) : Lib.splitB ⟨#[44]⟩ 0 (Lib.countB (restL x y z) ⟨#[44]⟩) (restL x y z) = tagsL x y z := by
  cases x <;> cases y <;> cases z <;> first | (cases h; done) | rfl
theorem split_len (x y z : Bool) (h : (x || y || z) = true) : Lib.countB (restL x y z) ⟨#[44]⟩ + 1 = (tagsL x y z).length := by
  cases x <;> cases y <;> cases z <;> first | (cases h; done) | rfl
theorem tags_name (x y z : Bool) : ∀ t ∈ tagsL x y z, nameB t = true := by
  cases x <;> cases y <;> cases z <;> decide
theorem tags_len (x y z : Bool) : (tagsL x y z).length ≤ 3 := by cases x <;> cases y <;> cases z <;> decide
theorem sLt_data (a b : ByteArray) : sLt a b = Op.bytesLess a.data.toList b.data.toList := by unfold sLt; rw [toList_data, toList_data]
theorem tags_up (x y z : Bool) : (tagsL x y z).Pairwise (fun a b => sLt a b = true) := by
  have h : (tagsL x y z).Pairwise (fun a b => Op.bytesLess a.data.toList b.data.toList = true) := by cases x <;> cases y <;> cases z <;> decide
  exact h.imp (fun h => by rw [sLt_data]; exact h)

theorem cut_any {m : Int} (h : 0 ≤ m ∧ m ≤ 2) (x y z : Bool) (w : World) (hm : MxAt w) :
    Calls Tryz.prog 56 #[.string (lstT m x y z), .string ⟨#[59]⟩] w fun e w' => e = .returned (.tuple #[.string (nm 109 m), .string (restL x y z), .bool true]) ∧ Below w.heap.size w w' := by
  obtain ⟨k, hk⟩ := hm
  refine (Any.strings_Cut Tryz.cut (lstT m x y z) ⟨#[59]⟩ k w (by have := lst_size h x y z; omega) hk).mono ?_
  rintro e w' ⟨rfl, n, rfl⟩
  refine ⟨?_, below_drewN (Below.refl _ _) n⟩
  have e := cut_plain h x y z
  have e2 : (⟨#[59]⟩ : ByteArray).data.toList = [59] := rfl
  rw [e2, e]
theorem s_info2 : (Tryz.prog.info? (Tryz.split_ren.t 9)).map (fun i => (i.zero, i.size, i.bytes)) = some (some (.string ByteArray.empty), 1, 16) := by kernel_rfl
theorem split_any (x y z : Bool) (h : (x || y || z) = true) (w : World) (hm : MxAt w) :
    Calls Tryz.prog 70 #[.string (restL x y z), .string ⟨#[44]⟩] w fun e w' => (∃ b c, e = .returned (.slice (some ⟨b, 0, none⟩) (tagsL x y z).length c) ∧ Reads w' w'.heap.size 1 (some ⟨b, 0, none⟩) (tagsL x y z).length ((tagsL x y z).map Value.string)) ∧ Below w.heap.size w w' := by
  obtain ⟨k, hk⟩ := hm
  refine (Any.strings_Split Tryz.split s_info2 (restL x y z) ⟨#[44]⟩ k w (by have := rest_size x y z; omega) hk (by decide)).mono ?_
  rintro e w' ⟨rfl, rfl⟩
  rw [split_len x y z h, split_plain x y z h]
  refine ⟨⟨w.heap.size, _, rfl, by simp, fun _ => ⟨w.heap.size, 0, rfl, by simp, fun j u hu => ?_⟩⟩, (Below.refl _ w).alloc (Nat.le_refl _) _⟩
  rw [cell_of_row _ w.heap.size (0 + j) _ _ _ (heap_alloc_new w _), Nat.zero_add]
  simpa using hu
def TagsNew (T : List ByteArray) (w : World) (e : Ending) (w' : World) : Prop := ∃ A c, e = .returned (.slice A T.length c) ∧ Reads w' w'.heap.size 1 A T.length (T.map Value.string) ∧ Below w.heap.size w w'

set_option maxRecDepth 20000 in
set_option maxHeartbeats 2000000 in
theorem tags_any {m : Int} (h : 0 ≤ m ∧ m ≤ 2) (x y z : Bool) (w : World) (hm : MxAt w) : Calls Tryz.prog 57 #[.string (lstT m x y z)] w (TagsNew (tagsL x y z) w) := by
  have QC := Lib.hid (cut_any h x y z w hm)
  have HM := Lib.hid hm
  obtain ⟨s, hs⟩ : ∃ s, s = lstT m x y z := ⟨_, rfl⟩
  rw [← hs] at QC ⊢
  obtain ⟨mk, hmk⟩ : ∃ mk, mk = nm 109 m := ⟨_, rfl⟩
  rw [← hmk] at QC
  by_cases hn : (x || y || z) = true
  · have hne : ((restL x y z).toList == []) = false := by rw [toList_data]; revert hn; cases x <;> cases y <;> cases z <;> first | (intro h; cases h; done) | (intro _; decide)
    have QS := fun w2 h2 => split_any x y z hn w2 h2
    obtain ⟨r, hr⟩ : ∃ r, r = restL x y z := ⟨_, rfl⟩
    rw [← hr] at QC QS hne
    have QS := Lib.hid QS
    clear hs hmk hr hm h hn
    go_enter Tryz.func57, Tryz.ntmps57
    go_wp2_with fail
    refine QC.out.mono ?_
    rintro e w2 ⟨rfl, hb⟩
    have HB := Lib.hid hb
    clear hb
    go_wp2_with fail
    refine (QS.out w2 (HM.out.next HB.out)).mono ?_
    rintro e w3 ⟨⟨b, c, rfl, hr⟩, hb⟩
    have HR := Lib.hid hr
    have HB3 := Lib.hid hb
    clear hr hb
    go_wp2
    go_ret
    exact ⟨_, c, rfl, HR.out, HB.out.trans (HB3.out.mono HB.out.size)⟩
  · have ht : tagsL x y z = [] ∧ restL x y z = ⟨#[]⟩ := by revert hn; cases x <;> cases y <;> cases z <;> first | (intro h; exact absurd rfl h) | (intro _; exact ⟨rfl, rfl⟩)
    rw [ht.1]
    rw [ht.2] at QC
    clear hs hmk hm h hn ht
    go_enter Tryz.func57, Tryz.ntmps57
    go_wp2_with fail
    refine QC.out.mono ?_
    rintro e w2 ⟨rfl, hb⟩
    have HB := Lib.hid hb
    clear hb
    go_wp2
    go_ret
    exact ⟨none, 0, rfl, Reads.none_, HB.out⟩

def El1 (W : World) (T : List ByteArray) (rest : Nat) (i : Value) (wr : World) : Prop := ∃ k : Nat, i = .int .i64 k ∧ k + rest = T.length ∧ wr = W
set_option maxRecDepth 20000 in
set_option maxHeartbeats 2000000 in
theorem elisting_any {m : Int} (h : 0 ≤ m ∧ m ≤ 2) (x y z : Bool) (w : World) (hm : MxAt w) : Calls Tryz.prog 41 #[.string (lstT m x y z)] w fun e w' => e = .returned (.bool true) ∧ Below w.heap.size w w' := by
  have QC := Lib.hid (cut_any h x y z w hm)
  have HM := Lib.hid hm
  have hmn : nameB (nm 109 m) = true := by rcases m3 h with rfl | rfl | rfl <;> decide
  have QN := fun w2 => name_any (nm 109 m) w2 (by rw [nm_size]; unfold maxLen; omega)
  rw [hmn] at QN
  have QN := Lib.hid QN
  have QT := Lib.hid (fun w2 h2 => tags_any h x y z w2 h2)
  have hT3 := tags_len x y z
  have HTN := Lib.hid (tags_name x y z)
  have HTU := Lib.hid (tags_up x y z)
  generalize tagsL x y z = T at *
  generalize lstT m x y z = s at *
  generalize nm 109 m = mk at *
  generalize restL x y z = r at *
  clear h hm hmn
  go_enter Tryz.func41, Tryz.ntmps41
  go_wp2_with fail
  refine QC.out.mono ?_
  rintro e w2 ⟨rfl, hb⟩
  have HB := Lib.hid hb
  clear hb QC
  go_wp2_with fail
  refine (QN.out w2).mono ?_
  rintro e w3 ⟨rfl, rfl⟩
  go_wp2_with fail
  refine (QT.out w2 (HM.out.next HB.out)).mono ?_
  rintro e w4 ⟨A, c, rfl, hr, hb⟩
  have HR := Lib.hid hr
  have HB4 := Lib.hid (HB.out.trans (hb.mono HB.out.size))
  clear hr hb HB
  go_wp2_with fail
  go_loopg [29] T.length (El1 w4 T)
  case atStart => exact ⟨0, rfl, by omega, rfl⟩
  case round =>
    obtain ⟨k, rfl, hk, rfl⟩ := hrel
    by_cases hkl : k < T.length
    · have hkl2 : (k : Int) < (T.length : Int) := by omega
      obtain ⟨b, o, rfl, hbB, hc⟩ := HR.out.2 (by omega)
      have c0 := hc k (.string T[k]) (by rw [List.getElem?_map, List.getElem?_eq_getElem hkl]; rfl)
      have QK := name_any T[k] wr (by have := HTN.out T[k] (List.getElem_mem hkl); unfold nameB at this; simp at this; unfold maxLen; omega)
      rw [HTN.out T[k] (List.getElem_mem hkl)] at QK
      have QK := Lib.hid QK
      by_cases hk0 : k = 0
      · subst hk0
        generalize T[0] = t at *
        rw [Nat.add_zero] at c0
        clear hc
        go_wp2_with fail
        refine QK.out.mono ?_
        rintro e w5 ⟨rfl, rfl⟩
        go_wp2_with fail
        go_roundg (gk - 1)
        case measure => omega
        case rel => exact ⟨1, rfl, by omega, rfl⟩
      · have c1 := hc (k - 1) (.string T[k - 1]) (by rw [List.getElem?_map, List.getElem?_eq_getElem (by omega)]; rfl)
        have hlt : sLt T[k - 1] T[k] = true := List.pairwise_iff_getElem.1 HTU.out (k - 1) k (by omega) hkl (by omega)
        generalize T[k - 1] = t0 at *
        generalize T[k] = t at *
        clear hc
        unfold sLt at hlt
        have p1 : (0 : Int) < (k : Int) := by omega
        have p2 : 0 < k := by omega
        have p3 : ((k : Int) - 1).toNat = k - 1 := by omega
        have p5 : IntKind.i64.wrap ((k : Int) - 1) = (k : Int) - 1 := IntWalk.i64_in _ (by omega)
        have p4 : wrap64 ((k : Int) - 1) = (k : Int) - 1 := by unfold wrap64; omega
        have p6 : (k : Int) - 1 < (T.length : Int) := by omega
        have p7 : (1 : Int) ≤ (k : Int) := by omega
        go_wp2_with fail
        refine QK.out.mono ?_
        rintro e w5 ⟨rfl, rfl⟩
        go_wp2_with fail
        go_roundg (gk - 1)
        case measure => omega
        case rel => exact ⟨k + 1, by go_num, by omega, rfl⟩
    · have hkl2 : ¬ (k : Int) < (T.length : Int) := by omega
      go_wp2_with fail
      go_ret
      exact ⟨rfl, HB4.out⟩
end Go.Proofs.YthbijemihaekiaaGreatDoor
