/- Contracts of the clock: told, rise. -/
import Derived.Test.YthbijemihaekiaaGreatDoorCkA
namespace Go.Proofs.YthbijemihaekiaaGreatDoor
open Go.ChangeShapes Go.WideShapes Go.ChangeAt Go.RowKit
set_option linter.unusedVariables false
set_option linter.unusedSimpArgs false

def toldV (sl : Int) (p : ByteArray × (Int × Int)) : Int := p.2.1 - sl - 1
/-- What told tells: the least of all, if there is one. -/
def TdInv (sl : Int) (D left : CkD) (x : Int) (b : Bool) : Prop :=
  (∀ p ∈ D, p ∈ left ∨ (b = true ∧ x ≤ toldV sl p)) ∧ (b = true → ∃ p ∈ D, x = toldV sl p) ∧ (∀ q ∈ left, q ∈ D)
def TdNew (sl : Int) (D : CkD) (w : World) (e : Ending) (w' : World) : Prop :=
  ∃ x b, e = .returned (.tuple #[.int .i64 x, .bool b]) ∧ TdInv sl D [] x b ∧ Below w.heap.size w w'
theorem TdInv.step {sl : Int} {D left : CkD} {x : Int} {b : Bool} {p : ByteArray × (Int × Int)} (h : TdInv sl D left x b) (hnd : (left.map (·.1)).Nodup) (hp : p ∈ left) (y : Int) (hy : y = if b = true ∧ x ≤ toldV sl p then x else toldV sl p) :
    TdInv sl D (mdel left p.1) y true := by
  obtain ⟨h1, h2, h3⟩ := h
  have hpD := h3 p hp
  refine ⟨fun q hq => ?_, fun _ => ?_, fun q hq => h3 q (List.mem_filter.1 hq).1⟩
  · rcases h1 q hq with hl | ⟨hb, hx⟩
    · by_cases e : q.1 = p.1
      · have e1 := mget_of_mem hnd (x := p.1) (v := p.2) hp
        have e2 := mget_of_mem hnd (x := q.1) (v := q.2) hl
        rw [e, e1] at e2
        injection e2 with e2
        have e3 : q = p := Prod.ext e e2.symm
        subst e3
        right
        refine ⟨rfl, ?_⟩
        split at hy <;> rename_i hc
        · omega
        · omega
      · exact .inl (List.mem_filter.2 ⟨hl, by simpa using e⟩)
    · right
      refine ⟨rfl, ?_⟩
      split at hy <;> rename_i hc
      · omega
      · have : ¬ x ≤ toldV sl p := fun h => hc ⟨hb, h⟩
        omega
  · split at hy <;> rename_i hc
    · obtain ⟨q, hq, e⟩ := h2 hc.1
      exact ⟨q, hq, by omega⟩
    · exact ⟨p, hpD, hy⟩

set_option maxRecDepth 20000 in
set_option maxHeartbeats 4000000 in
theorem told_clk (cb mb : Nat) (sl mk : Int) (D : CkD) (w : World) (h : ClkAt w cb mb sl mk D) :
    Calls Tryz.prog 39 #[.pointer (some ⟨cb, 0, none⟩)] w (TdNew sl D w) := by
  have hm := h.mp
  obtain ⟨-, -, -, -, c4⟩ := h.cells
  have HD := Lib.hid h
  obtain ⟨-, -, hsl0, hsl1, hDb⟩ := h.bd
  have HDB := Lib.hid hDb
  clear h hDb
  go_enter Tryz.func39, Tryz.ntmps39
  go_wp2_with (at_range; refine wpList_range_is rfl _ _ rfl Tryz.underlying76 rfl hm ?_; intro w0 hrg0 hb0 hs0)
  clear hm
  go_frame
  go_loopg [4, 5] D.length (fun rest s4 s5 wr => ∃ (left : CkD) (x : Int) (b : Bool), s4 = .int .i64 x ∧ s5 = .bool b ∧ RangeAt wr strKf ckVf w.heap.size (some mb) left ∧ Hid (TdInv sl D left x b) ∧ Hid (rest = left.length) ∧ Hid (Keeps (fun k => k = w.heap.size) w0 wr))
  case atStart => exact ⟨D, 0, false, rfl, rfl, hrg0, Lib.hid ⟨fun p hp => .inl hp, fun h => (by cases h), fun q hq => hq⟩, Lib.hid rfl, Lib.hid (Keeps.refl _ _)⟩
  case round =>
    obtain ⟨left, x, b, rfl, rfl, hrg, HI, HL, HK⟩ := hrel
    go_wp2_with (at_next; refine wpList_next_is rfl _ rfl rfl hrg ?_ ?_)
    · intro h0
      subst h0
      (try go_frame)
      go_wp2
      go_ret2
      exact ⟨x, b, rfl, HI.out, hb0.trans (HK.out.toBelow hb0.size (fun q hq => by rw [hq]; exact Nat.le_refl _))⟩
    · intro key a hd w2 hmem hrg2 hk2 hz2 hen
      obtain ⟨hp1, hp2, hp3⟩ := HI.out
      have hab := HDB.out _ (hp3 _ hmem)
      simp only at hab
      have hml : (mdel left key).length + 1 = left.length := mdel_len hrg.nodup (p := (key, (a, hd))) hmem
      obtain ⟨y, hy⟩ : ∃ y, y = if b = true ∧ x ≤ toldV sl (key, (a, hd)) then x else toldV sl (key, (a, hd)) := ⟨_, rfl⟩
      have HI2 := Lib.hid (HI.out.step hrg.nodup hmem y hy)
      have hxb : b = true → -300 ≤ x ∧ x ≤ 100000 := fun hb => by
        obtain ⟨q, hq, e⟩ := hp2 hb
        have := HDB.out q hq
        unfold toldV at e
        omega
      have hB0 : Below w.heap.size w wr := hb0.trans (HK.out.toBelow hb0.size (fun q hq => by rw [hq]; exact Nat.le_refl _))
      have hB2 : Below w.heap.size w w2 := hB0.trans (hk2.toBelow hB0.size (fun q hq => by rw [hq]; exact Nat.le_refl _))
      have HK2 := Lib.hid (HK.out.trans hk2 (fun k _ e => e))
      have HRG2 := Lib.hid hrg2
      have HML := Lib.hid hml
      simp only [strKf, ckVf] at hen
      obtain ⟨W5, hW5⟩ : ∃ W5, W5 = w2.alloc (.cells #[.int .i64 a, .int .i64 hd] 86) := ⟨_, rfl⟩
      have hb5 : Below w2.heap.size w2 W5 := by rw [hW5]; exact (Below.refl _ w2).alloc (Nat.le_refl _) _
      have hBW : Below w.heap.size w W5 := hB2.trans (hb5.mono hB2.size)
      have s0 : W5.cell? ⟨w2.heap.size, 0, none⟩ = some (.int .i64 a) := by rw [hW5, cell_of_row _ w2.heap.size 0 _ _ _ (heap_alloc_new w2 _)]; rfl
      have s1 : W5.cell? ⟨w2.heap.size, 1, none⟩ = some (.int .i64 hd) := by rw [hW5, cell_of_row _ w2.heap.size 1 _ _ _ (heap_alloc_new w2 _)]; rfl
      have hlt5 : w2.heap.size < W5.heap.size := by rw [hW5]; simp
      have HB5 := Lib.hid hb5
      have HBW := Lib.hid hBW
      have HLT5 := Lib.hid hlt5
      have hv : toldV sl (key, (a, hd)) = a - sl - 1 := rfl
      rw [hv] at hy
      have HY := Lib.hid hy
      clear hp1 hp2 hp3 hmem hrg hrg2 hk2 hz2 hB0 hB2 hml HI HK hb5 hBW hlt5 hy hv
      (try go_frame)
      go_upto_region 5 with fail
      rw [← hW5]
      clear hW5
      go_wp2_with fail
      refine (active_any cb mb sl mk D W5 (HD.out.next HBW.out) a hd).mono ?_
      rintro e w6 ⟨rfl, hb6⟩
      have t0 : w6.cell? ⟨w2.heap.size, 0, none⟩ = some (.int .i64 a) := (hb6.cell (p := ⟨w2.heap.size, 0, none⟩) HLT5.out).trans s0
      have t1 : w6.cell? ⟨cb, 0, none⟩ = some (.int .i64 sl) := ((HD.out.next HBW.out).next hb6).cells.1
      have HB6 := Lib.hid (HB5.out.trans (hb6.mono HB5.out.size))
      clear s0 s1 hb6 HLT5
      go_upto_region 6 with fail
      go_quiet (fail)
      have hb7 : Below w2.heap.size w2 (w6.drewN nq) := below_drewN HB6.out nq
      have HB7 := Lib.hid hb7
      generalize w6.drewN nq = w7 at *
      clear hb7 t0 t1 HB6
      have hw1 : wrap64 (a - sl) = a - sl := by unfold wrap64; omega
      have hw2 : wrap64 (a - sl - 1) = a - sl - 1 := by unfold wrap64; omega
      generalize gk = g1 at *
      cases b with
      | false =>
        have e : y = a - sl - 1 := by rw [HY.out]; simp
        clear hxb
        go_wp2_with fail
        go_roundg (g1 - 1)
        case measure => have := HL.out; have := HML.out; omega
        case rel => exact ⟨mdel left key, a - sl - 1, true, rfl, rfl, HRG2.out.keep (Keeps.ofBelow HB7.out (fun _ => False)) (fun e => e) (fun _ _ e => e), by rw [← e]; exact HI2, Lib.hid (by have := HL.out; have := HML.out; omega), Lib.hid (HK2.out.trans (Keeps.ofBelow HB7.out (fun k => k = w.heap.size)) (fun k _ e => e))⟩
      | true =>
        have hx := hxb rfl
        clear hxb
        by_cases hlt : a - sl - 1 < x
        · have e : y = a - sl - 1 := by rw [HY.out, if_neg (by omega)]
          go_wp2_with fail
          go_roundg (g1 - 1)
          case measure => have := HL.out; have := HML.out; omega
          case rel => exact ⟨mdel left key, a - sl - 1, true, rfl, rfl, HRG2.out.keep (Keeps.ofBelow HB7.out (fun _ => False)) (fun e => e) (fun _ _ e => e), by rw [← e]; exact HI2, Lib.hid (by have := HL.out; have := HML.out; omega), Lib.hid (HK2.out.trans (Keeps.ofBelow HB7.out (fun k => k = w.heap.size)) (fun k _ e => e))⟩
        · have e : y = x := by rw [HY.out, if_pos ⟨rfl, by omega⟩]
          go_wp2_with fail
          go_roundg (g1 - 1)
          case measure => have := HL.out; have := HML.out; omega
          case rel => exact ⟨mdel left key, x, true, rfl, rfl, HRG2.out.keep (Keeps.ofBelow HB7.out (fun _ => False)) (fun e => e) (fun _ _ e => e), by rw [← e]; exact HI2, Lib.hid (by have := HL.out; have := HML.out; omega), Lib.hid (HK2.out.trans (Keeps.ofBelow HB7.out (fun k => k = w.heap.size)) (fun k _ e => e))⟩
end Go.Proofs.YthbijemihaekiaaGreatDoor
