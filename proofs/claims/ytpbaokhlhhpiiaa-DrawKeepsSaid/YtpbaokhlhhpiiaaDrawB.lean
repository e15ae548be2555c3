/- Contracts of draw.unlike, the reference's Once and Hash, the statements' big. -/
import Derived.Test.YtpbaokhlhhpiiaaDrawA
import Derived.Test.YtpbaokhlhhpiiaaIn26
import Derived.Test.YtpbaokhlhhpiiaaOnce
import Derived.Test.YtpbaokhlhhpiiaaKitY
import Derived.MapViews
namespace Go.Proofs.Ytpbaokhlhhpiiaa
open Go.ChangeShapes Go.WideShapes Go.ChangeAt Go.RowKit
set_option linter.unusedVariables false
set_option linter.unusedSimpArgs false

theorem str_info : (Try.prog.info? 9).map (fun i => (i.zero, i.size, i.bytes)) = some (some (.string ByteArray.empty), 1, 16) := by kernel_rfl

set_option maxHeartbeats 1000000 in
theorem once_any (A : Option Addr) (B c : Nat) (l : List ByteArray) (w : World) (h : StrsAt w B A l) (hB : B ≤ w.heap.size) (hl : (l.length : Int) ≤ 1000000) :
    Calls Try.prog 20 #[.slice A l.length c] w fun e w' => ∃ A' c', e = .returned (.slice A' (onceV l).length c') ∧ w'.ownsRow w.heap.size 9 1 (.slice A' (onceV l).length c') (onceV l).length ((onceV l).map Value.string) ∧ Below w.heap.size w w' := by
  have hs0 := h.2
  go_enter Try.func20, Try.ntmps20
  go_wp2
  go_loopg [3, 4] l.length (fun rest v i wr => ∃ (k : Nat) (A' : Option Addr) (c' : Nat), i = .int .i64 k ∧ v = .slice A' (onceV (l.take k)).length c' ∧ Hid (k + rest = l.length) ∧ wr.ownsRow w.heap.size 9 1 (.slice A' (onceV (l.take k)).length c') (onceV (l.take k)).length ((onceV (l.take k)).map Value.string) ∧ Below w.heap.size w wr)
  case atStart => exact ⟨0, _, 0, rfl, rfl, Lib.hid (by simp), own_empty (Nat.le_refl _) (heap_alloc_new w _), (Below.refl _ _).alloc (Nat.le_refl _) _⟩
  case round =>
    obtain ⟨k, A', c', rfl, rfl, HK, hown, hb⟩ := hrel
    have hlen := onceV_len (l.take k)
    have hlen' : ((onceV (l.take k)).length : Int) ≤ 1000000 := by simp at hlen; omega
    by_cases hk : (k : Int) < (l.length : Int)
    · have hkl : k < l.length := by omega
      obtain ⟨b, o, rfl, hbl, hcell, hs⟩ := (h.below (hb.mono hB)).one hkl
      have hst : onceV (l.take (k + 1)) = onceStep (onceV (l.take k)) l[k] := by unfold onceV; rw [List.take_succ_eq_append_getElem hkl, onceFrom_snoc]
      have HST := Lib.hid hst
      clear hst
      have hmem : ∀ s ∈ onceV (l.take k), s.size ≤ maxLen := fun s hs => hs0 s (List.take_subset _ _ (mem_onceV.1 hs))
      have hin := in26_any A' wr.heap.size c' (onceV (l.take k)) l[k] wr (StrsAt.of_own hown hmem) (by omega)
      have HM := Lib.hid hmem
      clear hmem
      generalize onceV (l.take k) = acc at *
      generalize l[k] = x at *
      cases hm : memB x acc with
      | true =>
        rw [hm] at hin
        have HE : Hid (onceV (l.take (k + 1)) = acc) := Lib.hid (by rw [HST.out]; unfold onceStep; rw [if_pos hm])
        have HIN := Lib.hid hin
        clear hin hm
        go_wp2_with fail
        refine HIN.out.mono ?_
        rintro e w1 ⟨rfl, rfl⟩
        clear HIN
        go_wp2
        go_roundg (gk - 1)
        case measure => have := HK.out; omega
        case rel => exact ⟨k + 1, A', c', by go_num, by rw [HE.out], Lib.hid (by have := HK.out; omega), by rw [HE.out]; exact hown, hb⟩
      | false =>
        rw [hm] at hin
        have HE : Hid (onceV (l.take (k + 1)) = acc ++ [x]) := Lib.hid (by rw [HST.out]; unfold onceStep; rw [if_neg (by simp [hm])])
        have HIN := Lib.hid hin
        clear hin hm
        go_wp2_with fail
        refine HIN.out.mono ?_
        rintro e w1 ⟨rfl, rfl⟩
        clear HIN
        go_wp2_with (at_builtin; refine wpList_append_cell wr rfl _ _ _ rfl w.heap.size 9 (.string ByteArray.empty) 16 Try.underlying23 str_info rfl A' acc.length c' _ rfl hown (.string x) rfl rfl (by omega) (by unfold maxLen; omega) (by have := hb.size; simpa using this) ?_; intro A2 c2 w2 hown2 hg2 hb2)
        go_roundg (gk - 1)
        case measure => have := HK.out; omega
        case rel => exact ⟨k + 1, A2, c2, by go_num, by rw [HE.out]; simp, Lib.hid (by have := HK.out; omega), by rw [HE.out]; simpa using hown2, hb.trans hb2⟩
    · have hkl : k = l.length := by have := HK.out; omega
      subst hkl
      rw [List.take_length] at *
      go_wp2
      refine bodyPost_ret (results_tmp rfl _ _ _) rfl ?_
      exact ⟨A', c', rfl, hown, hb⟩
/-! ### unlike -/
def strKf (s : ByteArray) : Value := .string s
def strOk (s : ByteArray) : Prop := s.size ≤ maxLen
def boolVf (b : Bool) : Value := .bool b
theorem strKey : KeyFn Try.prog 9 strKf strOk := keyFn_string Try.underlying9
theorem zero_bool (w : World) : (zeroValue 4).run Try.prog w = .ok (.bool false) w := by kernel_rfl
def setL (acc : List ByteArray) : List (ByteArray × Bool) := acc.map (fun x => (x, true))
theorem mget_setL (acc : List ByteArray) (x : ByteArray) : mget (setL acc) x = if memB x acc = true then some true else none := by
  induction acc with
  | nil => rfl
  | cons a acc ih =>
    show (if x = a then some true else mget (setL acc) x) = _
    by_cases h : x = a
    · subst h; simp [memB]
    · have h2 : ¬ a = x := Ne.symm h
      have e : memB x (a :: acc) = memB x acc := by simp [memB, h2]
      rw [if_neg h, e, ih]
theorem mput_setL {acc : List ByteArray} {x : ByteArray} (h : memB x acc = false) : mput (setL acc) x true = setL (acc ++ [x]) := by
  unfold mput
  rw [mget_setL, h]
  simp [setL]
theorem look_set {W : World} {b : Nat} {acc : List ByteArray} (h : MapIs W strKf boolVf strOk b (setL acc)) {x : ByteArray} (hok : x.size ≤ maxLen) :
    (Instr.lookup 53 (.map (some b)) (.string x) false).run Try.prog W = .ok (.bool (memB x acc)) W := by
  have := h.look strKey Try.underlying53 zero_bool hok
  rw [mget_setL] at this
  have e : ((if memB x acc = true then some true else none).map boolVf).getD (.bool false) = .bool (memB x acc) := by cases memB x acc <;> rfl
  rw [e] at this
  exact this

set_option maxHeartbeats 1000000 in
theorem unlike_any (A : Option Addr) (B c : Nat) (l : List ByteArray) (w : World) (h : StrsAt w B A l) (hB : B ≤ w.heap.size) (hl : (l.length : Int) ≤ 1000000) :
    Calls Try.prog 25 #[.slice A l.length c] w fun e w' => ∃ A' c', e = .returned (.slice A' (onceV l).length c') ∧ w'.ownsRow w.heap.size 9 1 (.slice A' (onceV l).length c') (onceV l).length ((onceV l).map Value.string) ∧ Below w.heap.size w w' := by
  have hs0 := h.2
  have hmm := @run_makeMap Try.prog
  go_enter Try.func25, Try.ntmps25
  go_wp2
  clear hmm
  go_loopg [4, 10] l.length (fun rest v i wr => ∃ (k : Nat) (A' : Option Addr) (c' : Nat), i = .int .i64 k ∧ v = .slice A' (onceV (l.take k)).length c' ∧ Hid (k + rest = l.length) ∧ wr.ownsRow (w.heap.size + 1) 9 1 (.slice A' (onceV (l.take k)).length c') (onceV (l.take k)).length ((onceV (l.take k)).map Value.string) ∧ MapIs wr strKf boolVf strOk w.heap.size (setL (onceV (l.take k))) ∧ Below w.heap.size w wr)
  case atStart => exact ⟨0, _, 0, rfl, rfl, Lib.hid (by simp), ⟨rfl, .inl ⟨rfl, rfl⟩⟩, MapIs.made w _ _ _, (Below.refl _ _).alloc (Nat.le_refl _) _⟩
  case round =>
    obtain ⟨k, A', c', rfl, rfl, HK, hown, hmap, hb⟩ := hrel
    have hlen := onceV_len (l.take k)
    have hlen' : ((onceV (l.take k)).length : Int) ≤ 1000000 := by simp at hlen; omega
    by_cases hk : (k : Int) < (l.length : Int)
    · have hkl : k < l.length := by omega
      obtain ⟨b, o, rfl, hbl, hcell, hs⟩ := (h.below (hb.mono hB)).one hkl
      have hst : onceV (l.take (k + 1)) = onceStep (onceV (l.take k)) l[k] := by unfold onceV; rw [List.take_succ_eq_append_getElem hkl, onceFrom_snoc]
      have HST := Lib.hid hst
      clear hst
      have hok : l[k].size ≤ maxLen := hs0 _ (List.getElem_mem hkl)
      have hlo := look_set hmap hok
      generalize onceV (l.take k) = acc at *
      generalize l[k] = x at *
      have hz := hmap.lt
      cases hm : memB x acc with
      | true =>
        rw [hm] at hlo
        have HE : Hid (onceV (l.take (k + 1)) = acc) := Lib.hid (by rw [HST.out]; unfold onceStep; rw [if_pos hm])
        clear hm
        go_wp2
        go_roundg (gk - 1)
        case measure => have := HK.out; omega
        case rel => exact ⟨k + 1, A', c', by go_num, by rw [HE.out], Lib.hid (by have := HK.out; omega), by rw [HE.out]; exact hown, by rw [HE.out]; exact hmap, hb⟩
      | false =>
        rw [hm] at hlo
        have HE : Hid (onceV (l.take (k + 1)) = acc ++ [x]) := Lib.hid (by rw [HST.out]; unfold onceStep; rw [if_neg (by simp [hm])])
        obtain ⟨W2, hrun, hmap2, hk2, hz2⟩ := hmap.put strKey Try.underlying53 (x := x) hok true
        rw [mput_setL hm] at hmap2
        have hrun' : (Instr.mapUpdate 53 (.map (some w.heap.size)) (.string x) (.bool true)).run Try.prog wr = .ok () W2 := hrun
        have hob : ∀ j, (Value.slice A' acc.length c').ownBlock = some j → ¬ j = w.heap.size := fun j hj e => by
          have := (hown.lt j hj).1
          omega
        have hown2 := hk2.own hown hob
        have hb2 : Below w.heap.size w W2 := hb.trans (hk2.toBelow (by have := hb.size; omega) (fun k hk => by omega))
        have hcell2 : W2.cell? ⟨b, o + k, none⟩ = some (.string x) := (hk2.cell (by show b < _; omega) (by show ¬ b = _; omega)).trans hcell
        have HZ2 := Lib.hid hz2
        have hzz : w.heap.size < W2.heap.size := by omega
        clear hm hrun hk2 hown hmap hob hcell2 hz2
        go_wp2_with (at_builtin; refine wpList_append_cell W2 rfl _ _ _ rfl (w.heap.size + 1) 9 (.string ByteArray.empty) 16 Try.underlying23 str_info rfl A' acc.length c' _ rfl hown2 (.string x) rfl rfl (by omega) (by unfold maxLen; omega) (by omega) ?_; intro A3 c3 w3 hown3 hg3 hb3)
        go_roundg (gk - 1)
        case measure => have := HK.out; omega
        case rel => exact ⟨k + 1, A3, c3, by go_num, by rw [HE.out]; simp, Lib.hid (by have := HK.out; omega), by rw [HE.out]; simpa using hown3, by rw [HE.out]; exact hmap2.below hb3 (by omega), hb2.trans (hb3.mono (by omega))⟩
    · have hkl : k = l.length := by have := HK.out; omega
      subst hkl
      rw [List.take_length] at *
      go_wp2
      refine bodyPost_ret (results_tmp rfl _ _ _) rfl ?_
      exact ⟨A', c', rfl, own_base hown (by omega), hb⟩
end Go.Proofs.Ytpbaokhlhhpiiaa
