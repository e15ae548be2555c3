/- Contract of basket.Of. -/
import Derived.Test.YtaollcpoibgblaaDoorBkE
import Derived.Test.YtaollcpoibgblaaDoorBkF
import Derived.Test.YtaollcpoibgblaaDoorBkC
import Derived.Test.YtaollcpoibgblaaDoorTbM
import Derived.Deep.DeepCutAuto
namespace Go.Proofs.YtaollcpoibgblaaDoor
open Go.ChangeShapes Go.WideShapes Go.ChangeAt Go.RowKit
set_option linter.unusedVariables false
set_option linter.unusedSimpArgs false

def BuyE (e : EvV) : Prop := EvOk e ∧ 1 ≤ e.num ∧ e.num ≤ 1000
theorem BuyE.bought {e : EvV} (h : BuyE e) (hk : e.kind = 3) : ∃ p i, 0 ≤ p ∧ p ≤ 3 ∧ 0 ≤ i ∧ i ≤ 5 ∧ e.person = nm 112 p ∧ e.item = nm 105 i ∧ e.value = 0 ∧ e.text = noT ∧ nameB e.src = true ∧ 0 ≤ e.at_ ∧ e.at_ ≤ 100000 := by
  obtain ⟨⟨hs, hsrc, h0, h1⟩, -, -⟩ := h
  have hsn : nameB e.src = true := by rcases hsrc with hsrc | hsrc <;> rw [hsrc] <;> decide
  unfold ShapeE at hs
  rw [hk] at hs
  rcases hs with h | h | h | h | h | h
  · rcases h.1 with h | h <;> omega
  · exact absurd h.1 (by omega)
  · exact absurd h.1 (by omega)
  · exact absurd h.1 (by omega)
  · exact absurd h.1 (by omega)
  · obtain ⟨-, ⟨p, hp0, hp3, hp⟩, ⟨i, hi0, hi5, hi⟩, hv, ht⟩ := h
    exact ⟨p, i, hp0, hp3, hi0, hi5, hp, hi, hv, ht, hsn, h0, h1⟩

/-- The range over the events. -/
def Of1 (w0 : World) (mb : Nat) (E : List EvV) (rest : Nat) (s22 : Value) (wr : World) : Prop :=
  ∃ (k : Nat) (D : SlotL), s22 = .int .i64 k ∧ k + rest = E.length ∧ Hid (BuysAt wr w0.heap.size mb D (rowsE (E.take k))) ∧ Hid (D.length ≤ k) ∧ Hid (Below w0.heap.size w0 wr)
def OfNew (w : World) (gap : Int) (E : List EvV) (e : Ending) (w' : World) : Prop :=
  ∃ bb sb cb D1 D2 ks, e = .returned (.pointer (some ⟨bb, 0, none⟩)) ∧ BkAt w' bb sb cb D1 D2 (sumP gap (buysOf E) ks) ∧ ks.Nodup ∧ (∀ p, p ∈ ks ↔ rowB (buysOf E) p ≠ []) ∧ ks.length ≤ 60 ∧ (w.heap.size ≤ bb ∧ w.heap.size ≤ sb ∧ w.heap.size ≤ cb) ∧ Below w.heap.size w w'
/-- The range over the rows. -/
structure OfB (w0 : World) (bb sb cb mb r : Nat) (gap : Int) (E : List EvV) (D left : SlotL) (w : World) : Prop where
  rg : RangeAt w strKf slotVf r (some mb) left
  sub : ∀ p ∈ left, p ∈ D
  rows : ∀ p ∈ left, ERowAt w w0.heap.size p.2.1 p.2.2.1 p.2.2.2 (rowsE E p.1)
  at_ : ∃ ks D1 D2, BkAt w bb sb cb D1 D2 (sumP gap (buysOf E) ks) ∧ (ks ++ left.map (·.1)).Perm (D.map (·.1))
  below : Below w0.heap.size w0 w
/-- The range over one row. -/
def OfI (W3 : World) (bb sb cb sm : Nat) (gap : Int) (b : BkS) (ms : List EvV) (n : Nat) (rest : Nat) (s59 : Value) (wr : World) : Prop :=
  ∃ (k : Nat) (D1 : SgD) (D2 : CtD) (S : SgD), s59 = .int .i64 k ∧ k + rest = n ∧ Hid (MapIs wr strKf intVf strOk sm S) ∧ Hid (sF S = (zAt gap b ms k).since) ∧ Hid (BkAt wr bb sb cb D1 D2 (zAt gap b ms k).b) ∧ Hid (Keeps (fun q => q = bb ∨ q = sb ∨ q = cb ∨ q = sm) W3 wr)
/-- What lies where. -/
structure OfPl (w0 : World) (bb sb cb mb r : Nat) (D : SlotL) (E : List EvV) : Prop where
  lo : w0.heap.size ≤ mb ∧ mb < sb ∧ sb < cb ∧ cb < bb ∧ bb < r
  row : ∀ p ∈ D, p.2.1 < sb ∧ p.2.1 ≠ mb ∧ w0.heap.size ≤ p.2.1
  apart : ∀ p ∈ D, ∀ q ∈ D, p.2.1 = q.2.1 → p.1 = q.1
  ne : ∀ p ∈ D, rowsE E p.1 ≠ []
  nodup : (D.map (·.1)).Nodup
  no : ∀ k, mget D k = none → rowsE E k = []
  len : D.length ≤ 60

set_option maxRecDepth 20000 in
set_option maxHeartbeats 4000000 in
theorem of_any (A : Option Addr) (c : Nat) (E : List EvV) (gap : Int) (w : World) (hr : Reads w w.heap.size 8 A E.length (evsCells E)) (hE : ∀ e ∈ E, BuyE e) (hl : E.length ≤ 60) (hg : 0 ≤ gap ∧ gap ≤ 255) :
    Calls Tryd.prog 6 #[.int .i64 gap, .slice A E.length c] w (OfNew w gap E) := by
  have hmm := @run_makeMap Tryd.prog
  have HRD := Lib.hid hr
  have HE := Lib.hid hE
  have HLE := Lib.hid hl
  have hli : (E.length : Int) ≤ 60 := by omega
  clear hr hE hl
  have hmx : max gap 0 = gap := by omega
  have hmn : min gap 1099511627776 = gap := by omega
  obtain ⟨W1, hW1⟩ : ∃ W1, W1 = w.alloc (.map #[] 0) := ⟨_, rfl⟩
  have hm : MapIs W1 strKf slotVf strOk w.heap.size [] := by rw [hW1]; exact MapIs.made w _ _ _
  have hb1 : Below w.heap.size w W1 := by rw [hW1]; exact (Below.refl _ w).alloc (Nat.le_refl _) _
  have HBU1 : Hid (BuysAt W1 w.heap.size w.heap.size [] (rowsE (E.take 0))) := Lib.hid ⟨hm, Nat.le_refl _, by simp, fun _ _ => rfl, by simp⟩
  have HB1 := Lib.hid hb1
  clear hm hb1
  obtain ⟨mb, hmb⟩ : ∃ mb, mb = w.heap.size := ⟨_, rfl⟩
  have HMB := Lib.hid (show w.heap.size ≤ mb by omega)
  have HBU1 : Hid (BuysAt W1 w.heap.size mb [] (rowsE (E.take 0))) := by rw [hmb]; exact HBU1
  go_enter Tryd.func6, Tryd.ntmps6
  go_wp2_with fail
  rw [← hW1, ← hmb]
  clear hW1 hmb
  go_loopg [22] E.length (Of1 w mb E)
  case atStart => exact ⟨0, [], rfl, by omega, HBU1, Lib.hid (by simp), HB1⟩
  case round =>
    clear HBU1 HB1
    obtain ⟨k, D, rfl, hk, HBU, HDL, HB⟩ := hrel
    by_cases hkl : (k : Int) < (E.length : Int)
    · have hkn : k < E.length := by omega
      obtain ⟨b, o, rfl, hbB, hcc⟩ := HRD.out.2 (by omega)
      have hone := HE.out _ (List.getElem_mem hkn)
      have htk : E.take (k + 1) = E.take k ++ [E[k]] := by rw [List.take_succ_eq_append_getElem hkn]
      have hrg : wr.rangeAt b (o + k * 8) (evCells E[k]) := by
        intro j v hv
        have hj : j < 8 := (List.getElem?_eq_some_iff.1 hv).1
        have h2 := hcc (k * 8 + j) v ((ev_at hkn j hj).trans hv)
        rw [← Nat.add_assoc] at h2
        exact (HB.out.cell (p := ⟨b, o + k * 8 + j, none⟩) hbB).trans h2
      generalize E[k] = ev at *
      have HBO := Lib.hid (BuyE.bought hone)
      have HNUM := Lib.hid hone.2
      have HTK := Lib.hid htk
      clear hcc hone htk
      obtain ⟨src, num, at_, kd, pe, it, va, tx⟩ := ev
      unfold evCells at hrg
      simp only at hrg
      have HRG := Lib.hid hrg
      clear hrg
      obtain ⟨W5, hW5⟩ : ∃ W5, W5 = wr.alloc (.cells #[Value.string src, .int .i64 num, .int .i64 at_, .int .i64 kd, .string pe, .string it, .int .i64 va, .string tx] 51) := ⟨_, rfl⟩
      have hb5 : Below wr.heap.size wr W5 := by rw [hW5]; exact (Below.refl _ wr).alloc (Nat.le_refl _) _
      have hbx : W5.heap[wr.heap.size]? = some (.cells #[Value.string src, .int .i64 num, .int .i64 at_, .int .i64 kd, .string pe, .string it, .int .i64 va, .string tx] 51 (0, 0)) := by rw [hW5]; exact heap_alloc_new wr _
      have HBW := Lib.hid (HB.out.trans (hb5.mono HB.out.size))
      have HBU5 := Lib.hid (HBU.out.below (w0 := w) hb5)
      go_upto_region 6 with (first | (refine wpList_load_mid rfl _ _ rfl b (o + k * 8) (by rfl) _ _ HRG.out Tryd.underlying51 (by rfl) (by kernel_rfl) ?_) | (refine wpList_store_new rfl 51 _ _ rfl _ _ _ _ (by rfl) (by rfl) (by kernel_rfl) (by rfl) (by rfl) (by simp) ?_))
      rw [← hW5]
      clear hW5
      (try simp only [Act.put])
      obtain ⟨xb, hxb⟩ : ∃ xb, xb = wr.heap.size := ⟨_, rfl⟩
      have HXB := Lib.hid (show w.heap.size ≤ xb by rw [hxb]; exact HB.out.size)
      have HLT := Lib.hid (show ∀ p ∈ D, p.2.1 ≠ xb from fun p hp => by have := (HBU.out.rows p hp).1.lt; omega)
      rw [← hxb] at hbx ⊢
      clear hxb hb5 HB HBU HRG
      have c3 : W5.cell? ⟨xb, 3, none⟩ = some (.int .i64 kd) := by rw [cell_of_row W5 xb 3 _ _ _ hbx]; rfl
      by_cases hkd : kd = 3
      · subst hkd
        obtain ⟨pn, im, hp0, hp3, hi0, hi5, he1, he2, he3, he4, hsrc, ha0, ha1⟩ := HBO.out rfl
        simp only at he1 he2 he3 he4 hsrc ha0 ha1
        subst he1 he2 he3 he4
        have QM := Lib.hid (may3 src num at_ (nm 112 pn) (nm 105 im) W5 hsrc HNUM.out ⟨ha0, ha1⟩ (nm_name (by simp) (by omega)) (nm_name (by simp) (by omega)))
        have c0 : W5.cell? ⟨xb, 0, none⟩ = some (.string src) := by rw [cell_of_row W5 xb 0 _ _ _ hbx]; rfl
        have c1 : W5.cell? ⟨xb, 1, none⟩ = some (.int .i64 num) := by rw [cell_of_row W5 xb 1 _ _ _ hbx]; rfl
        have c2 : W5.cell? ⟨xb, 2, none⟩ = some (.int .i64 at_) := by rw [cell_of_row W5 xb 2 _ _ _ hbx]; rfl
        have c4 : W5.cell? ⟨xb, 4, none⟩ = some (.string (nm 112 pn)) := by rw [cell_of_row W5 xb 4 _ _ _ hbx]; rfl
        have c5 : W5.cell? ⟨xb, 5, none⟩ = some (.string (nm 105 im)) := by rw [cell_of_row W5 xb 5 _ _ _ hbx]; rfl
        have c6 : W5.cell? ⟨xb, 6, none⟩ = some (.int .i64 0) := by rw [cell_of_row W5 xb 6 _ _ _ hbx]; rfl
        have c7 : W5.cell? ⟨xb, 7, none⟩ = some (.string noT) := by rw [cell_of_row W5 xb 7 _ _ _ hbx]; rfl
        have HBX := Lib.hid hbx
        clear HBO hbx
        go_wp2_with fail
        refine QM.out.mono ?_
        rintro e w6 ⟨rfl, hb6⟩
        have HB6 := Lib.hid hb6
        clear c0 c1 c2 c3 c4 c5 c6 c7 QM
        obtain ⟨ev, hev⟩ : ∃ ev : EvV, ev = ⟨src, num, at_, 3, nm 112 pn, nm 105 im, 0, noT⟩ := ⟨_, rfl⟩
        rw [← hev] at HTK
        have HEV := Lib.hid hev
        clear hev
        go_wp2_with fail
        have hX6 : w6.drew.heap[xb]? = some (.cells #[Value.string src, .int .i64 num, .int .i64 at_, .int .i64 3, .string (nm 112 pn), .string (nm 105 im), .int .i64 0, .string noT] 51 (0, 0)) := (HB6.out.block xb (Array.getElem?_eq_some_iff.1 HBX.out).1).trans HBX.out
        have hok : (nm 112 pn).size ≤ maxLen := by rw [nm_size]; unfold maxLen; omega
        have hbu6 : BuysAt w6.drew w.heap.size mb D (rowsE (E.take k)) := (HBU5.out.below (w0 := w) HB6.out).below (w0 := w) (Below.refl _ w6).drew
        obtain ⟨A3, c3, hrv, hown3, hrow3⟩ := hbu6.row (nm 112 pn)
        have hlk := look_buys (w := w6.drew) hbu6.mp (key := nm 112 pn) hok
        rw [hrv] at hlk
        have hRl : (rowsE (E.take k) (nm 112 pn)).length ≤ 60 := by
          have h1 := rowsE_len (E.take k) (nm 112 pn)
          rw [List.length_take] at h1
          have := HLE.out
          omega
        obtain ⟨R, hR⟩ : ∃ R, R = rowsE (E.take k) (nm 112 pn) := ⟨_, rfl⟩
        rw [← hR] at hrv hown3 hrow3 hlk hRl
        have c4d : w6.drew.cell? ⟨xb, 4, none⟩ = some (.string (nm 112 pn)) := by rw [cell_of_row w6.drew xb 4 _ _ _ hX6]; rfl
        have hxl : xb < w6.drew.heap.size := (Array.getElem?_eq_some_iff.1 hX6).1
        have c4e : (w6.drew.alloc (.cells #[Value.string src, .int .i64 num, .int .i64 at_, .int .i64 3, .string (nm 112 pn), .string (nm 105 im), .int .i64 0, .string noT] 51)).cell? ⟨xb, 4, none⟩ = some (.string (nm 112 pn)) := by
          exact (World.cell?_of_block (w := w6.drew) (a := (⟨xb, 4, none⟩ : Addr)) (Below.heap_alloc w6.drew _ xb hxl)).trans c4d
        have hlke := look_buys (w := w6.drew.alloc (.cells #[Value.string src, .int .i64 num, .int .i64 at_, .int .i64 3, .string (nm 112 pn), .string (nm 105 im), .int .i64 0, .string noT] 51)) (hbu6.mp.alloc _) (key := nm 112 pn) hok
        rw [hrv] at hlke
        have HX6 := Lib.hid hX6
        have HBU6 := Lib.hid hbu6
        have HOW3 := Lib.hid hown3
        have HRW3 := Lib.hid hrow3
        have HRV := Lib.hid hrv
        have HR := Lib.hid hR
        have HSZ := Lib.hid (show w.heap.size ≤ w6.drew.heap.size from (HBW.out.trans (HB6.out.mono HBW.out.size)).size)
        have HBD := Lib.hid (show Below w.heap.size w w6.drew from (HBW.out.trans (HB6.out.mono HBW.out.size)).drew)
        clear hX6 hbu6 hown3 hrow3 hrv hR hxl HBX HBU5 HBW HB6
        refine heldStart 10 (S := fun W => W.cell? ⟨xb, 4, none⟩ = some (.string (nm 112 pn)) ∧ Sem.run Tryd.prog (Instr.lookup 60 (.map (some mb)) (.string (nm 112 pn)) false) W = .ok (.slice A3 R.length c3) W) (by kernel_rfl) ?_ (fun hHeld => ?_)
        · first | with_reducible exact ⟨c4d, hlk⟩ | exact ⟨c4e, hlke⟩ | exact ⟨c48, hlk8⟩
        refine heldTake 0 (v := ?_) (by simp only [List.getElem?_toArray, List.getElem?_cons_succ, List.getElem?_cons_zero]; rfl) (by kernel_rfl) (by intro _ _ _ h; exact h) (by rfl) (by assumption) ?_ ?_
        rotate_left
        · intro W hSw; (try dsimp only at hSw); go_simp; try with_reducible rfl
        simp only [Act.put, List.setIfInBounds_toArray, List.set_cons_zero, List.set_cons_succ]
        refine heldTake 1 (v := ?_) (by simp only [List.getElem?_toArray, List.getElem?_cons_succ, List.getElem?_cons_zero]; rfl) (by kernel_rfl) (by intro _ _ _ h; exact h) (by rfl) (by assumption) ?_ ?_
        rotate_left
        · intro W hSw; (try dsimp only at hSw); go_simp; try with_reducible rfl
        simp only [Act.put, List.setIfInBounds_toArray, List.set_cons_zero, List.set_cons_succ]
        refine heldTake 2 (v := ?_) (by simp only [List.getElem?_toArray, List.getElem?_cons_succ, List.getElem?_cons_zero]; rfl) (by kernel_rfl) (by intro _ _ _ h; exact h) (by rfl) (by assumption) ?_ ?_
        rotate_left
        · intro W hSw; (try dsimp only at hSw); go_simp; try with_reducible rfl
        simp only [Act.put, List.setIfInBounds_toArray, List.set_cons_zero, List.set_cons_succ]
        refine heldTake 3 (v := ?_) (by simp only [List.getElem?_toArray, List.getElem?_cons_succ, List.getElem?_cons_zero]; rfl) (by kernel_rfl) (by intro _ _ _ h; exact h) (by rfl) (by assumption) ?_ ?_
        rotate_left
        · intro W hSw; (try dsimp only at hSw); go_simp; try with_reducible rfl
        simp only [Act.put, List.setIfInBounds_toArray, List.set_cons_zero, List.set_cons_succ]
        refine heldTake 4 (v := ?_) (by simp only [List.getElem?_toArray, List.getElem?_cons_succ, List.getElem?_cons_zero]; rfl) (by kernel_rfl) (by intro _ _ _ h; exact h) (by rfl) (by assumption) ?_ ?_
        rotate_left
        · intro W hSw; (try dsimp only at hSw); go_simp; try with_reducible rfl
        simp only [Act.put, List.setIfInBounds_toArray, List.set_cons_zero, List.set_cons_succ]
        refine heldTake 5 (v := ?_) (by simp only [List.getElem?_toArray, List.getElem?_cons_succ, List.getElem?_cons_zero]; rfl) (by kernel_rfl) (by intro _ _ _ h; exact h) (by rfl) (by assumption) ?_ ?_
        rotate_left
        · intro W hSw; (try dsimp only at hSw); go_simp; try with_reducible rfl
        simp only [Act.put, List.setIfInBounds_toArray, List.set_cons_zero, List.set_cons_succ]
        refine heldTake 6 (v := ?_) (by simp only [List.getElem?_toArray, List.getElem?_cons_succ, List.getElem?_cons_zero]; rfl) (by kernel_rfl) (by intro _ _ _ h; exact h) (by rfl) (by assumption) ?_ ?_
        rotate_left
        · intro W hSw; (try dsimp only at hSw); go_simp; try with_reducible rfl
        simp only [Act.put, List.setIfInBounds_toArray, List.set_cons_zero, List.set_cons_succ]
        refine heldCall 7 (by simp only [List.getElem?_toArray, List.getElem?_cons_succ, List.getElem?_cons_zero]; rfl) (by kernel_rfl) (fun K hK => ?_)
        refine wp_load_row 51 _ rfl xb (by rfl) _ _ _ _ HX6.out Tryd.underlying51 (by rfl) (by kernel_rfl) ?_
        refine hK.out _ _ ?_ (fun hHeld => ?_)
        · first | with_reducible exact ⟨c4d, hlk⟩ | exact ⟨c4e, hlke⟩ | exact ⟨c48, hlk8⟩
        clear hK K
        (try simp only [Act.put, List.setIfInBounds_toArray, List.set_cons_zero, List.set_cons_succ])
        refine heldCall 8 (by simp only [List.getElem?_toArray, List.getElem?_cons_succ, List.getElem?_cons_zero]; rfl) (by kernel_rfl) (fun K hK => ?_)
        go_wp2_with fail
        refine hK.out _ _ ?_ (fun hHeld => ?_)
        · first | with_reducible exact ⟨c4d, hlk⟩ | exact ⟨c4e, hlke⟩ | exact ⟨c48, hlk8⟩
        clear hK K
        (try simp only [Act.put, List.setIfInBounds_toArray, List.set_cons_zero, List.set_cons_succ])
        refine heldLaw 9 (by simp only [List.getElem?_toArray, List.getElem?_cons_succ, List.getElem?_cons_zero]; rfl) (by kernel_rfl) (by rfl) (fun K hK => ?_)
        refine wp_append_one w6.drew (.tmp 39) (.tmp 41) _ rfl w.heap.size 51 (.agg #[.string ⟨#[]⟩, .int .i64 0, .int .i64 0, .int .i64 0, .string ⟨#[]⟩, .string ⟨#[]⟩, .int .i64 0, .string ⟨#[]⟩]) 8 96 u_evs ev_info rfl (by omega) A3 R.length c3 (evsCells R) rfl HOW3.out [Value.string src, .int .i64 num, .int .i64 at_, .int .i64 3, .string (nm 112 pn), .string (nm 105 im), .int .i64 0, .string noT] rfl rfl (evCells_one ⟨src, num, at_, 3, nm 112 pn, nm 105 im, 0, noT⟩) (by omega) (by unfold maxLen; omega) HSZ.out ?_
        intro A7 c7 w7 hown7 hg7 hb7 hloc7
        obtain ⟨g7, cap7, hv7, hgb7, hlt7⟩ := hown7.form (Nat.succ_pos _)
        injection hv7 with e1 e2 e3
        subst e1 e3
        have hrow7 : ERowAt w7 w.heap.size g7 (R.length + 1) c7 (R ++ [ev]) := ⟨by simp, by rw [evsCells_snoc, HEV.out]; exact hown7⟩
        have hk7 : Keeps (fun q => ∃ s, mget D (nm 112 pn) = some s ∧ s.1 = q) w6.drew w7 := (Keeps.ofGrown hg7).mono (fun q _ hq => by
          rcases HRW3.out with ⟨-, h2, -, -⟩ | ⟨g, h1, h2⟩
          · rw [h2] at hq; cases hq
          · rw [h1] at hq
            injection hq with hq
            exact ⟨_, h2, hq.symm⟩)
        have hmp7 : MapIs w7 strKf slotVf strOk mb D := HBU6.out.mp.keep hk7 (fun ⟨s, h1, h2⟩ => HBU6.out.row_ne (mget_some_mem h1) h2)
        have hlk8 := look_buys (w := w7) hmp7 (key := nm 112 pn) hok
        rw [HRV.out] at hlk8
        have c48 : w7.cell? ⟨xb, 4, none⟩ = some (.string (nm 112 pn)) := (hk7.cell (p := ⟨xb, 4, none⟩) (Array.getElem?_eq_some_iff.1 HX6.out).1 (fun ⟨s, h1, h2⟩ => HLT.out _ (mget_some_mem h1) h2)).trans c4d
        obtain ⟨w8, hrun8, hbu8, hk8⟩ := HBU6.out.put (nm 112 pn) hok hk7 hrow7 (by simp) (by
          rcases hloc7 with h | h
          · rcases HRW3.out with ⟨-, h2, -, -⟩ | ⟨g, h1, h2⟩
            · rw [h2] at h; cases h
            · rw [h1] at h
              injection h with h
              exact .inl ⟨_, h2, h.symm⟩
          · injection h with h
            right
            show w6.drew.heap.size ≤ g7
            have h : g7 = w6.drew.heap.size + 1 := h
            omega)
        have HBU8 := Lib.hid hbu8
        have HB8 := Lib.hid (HBD.out.trans (hk8.toBelow HSZ.out (fun _ h => h)))
        clear hbu8 hk8 hmp7 hk7 hrow7 hloc7 hown7 hg7 hb7
        refine hK.out _ _ ?_ (fun hHeld => ?_)
        · first | with_reducible exact ⟨c4d, hlk⟩ | exact ⟨c4e, hlke⟩ | exact ⟨c48, hlk8⟩
        clear hK K
        (try simp only [Act.put, List.setIfInBounds_toArray, List.set_cons_zero, List.set_cons_succ])
        refine heldLast 10 (by simp only [List.getElem?_toArray, List.getElem?_cons_succ, List.getElem?_cons_zero]; rfl) (by kernel_rfl) rfl (fun K hK => ?_)
        go_simp
        refine hK.out _ _ ?_
        clear hK K
        (try simp only [Act.put, List.setIfInBounds_toArray, List.set_cons_zero, List.set_cons_succ])
        refine heldDone (by kernel_rfl) ?_ _
        go_wp2_with fail
        go_roundg (gk - 1)
        case measure => omega
        case rel =>
          have hkd : ev.kind = 3 := by rw [HEV.out]
          have hpe : ev.person = nm 112 pn := by rw [HEV.out]
          have hbu9 := HBU8.out.congr (F' := rowsE (E.take (k + 1))) (fun p => by
            rw [HTK.out, ← rowsE_put (E.take k) hkd p, hpe, HR.out])
          exact ⟨k + 1, _, by go_num, by omega, Lib.hid hbu9, Lib.hid (by have := mput_len D (nm 112 pn) ((g7, R.length + 1, c7) : Slot); have := HDL.out; omega), HB8⟩
      · have hkf : (kd == 3) = false := by simpa using hkd
        clear HBO
        go_wp2_with fail
        go_roundg (gk - 1)
        case measure => omega
        case rel => exact ⟨k + 1, D, by go_num, by omega, Lib.hid (HBU5.out.congr (fun p => by rw [HTK.out]; exact (rowsE_skip _ hkd p).symm)), Lib.hid (by have := HDL.out; omega), HBW⟩
    · have hke : k = E.length := by omega
      have hte : E.take k = E := by rw [hke, List.take_length]
      rw [hte] at HBU
      have hbu := HBU.out
      obtain ⟨sb, hsb⟩ : ∃ sb, sb = wr.heap.size := ⟨_, rfl⟩
      obtain ⟨W2, hW2⟩ : ∃ W2, W2 = ((wr.alloc (.map #[] 0)).alloc (.map #[] 0)).alloc (.cells #[.int .i64 0, .map (some sb), .map (some (sb + 1))] 65) := ⟨_, rfl⟩
      go_upto_region 10 with fail
      rw [← hsb]
      rw [← hW2]
      obtain ⟨bb, hbb⟩ : ∃ bb, bb = sb + 1 + 1 := ⟨_, rfl⟩
      obtain ⟨cb, hcb⟩ : ∃ cb, cb = sb + 1 := ⟨_, rfl⟩
      rw [← hbb, ← hcb]
      obtain ⟨q1, q2, q3, hb2⟩ := alloc3 wr (.map #[] 0) (.map #[] 0) (.cells #[.int .i64 0, .map (some sb), .map (some (sb + 1))] 65)
      have hz2 : W2.heap.size = sb + 1 + 1 + 1 := by rw [hW2, hsb]; simp
      rw [← hW2] at q1 q2 q3 hb2
      rw [← hsb] at q1 q2 q3
      rw [← hbb] at q1 hz2
      rw [← hcb] at q1 q2
      have hat2 : BkAt W2 bb sb cb [] [] BkS.zero := ⟨q1, ⟨#[], 0, q3, by simp, by simp, by simp, by simp, by simp⟩, ⟨#[], 0, q2, by simp, by simp, by simp, by simp, by simp⟩, ⟨by omega, by omega, by omega⟩, fun _ => rfl, fun _ _ => rfl⟩
      have hbu2 : BuysAt W2 w.heap.size mb D (rowsE E) := hbu.below (w0 := w) hb2
      obtain ⟨r, hr⟩ : ∃ r, r = W2.heap.size := ⟨_, rfl⟩
      have hpl : OfPl w bb sb cb mb r D E := ⟨⟨HMB.out, by rw [hsb]; exact hbu.mp.lt, by omega, by omega, by omega⟩, fun p hp => ⟨by rw [hsb]; exact (hbu.rows p hp).1.lt, hbu.row_ne hp, by obtain ⟨-, -, q⟩ := (hbu.rows p hp).1.blk; exact q⟩, hbu.apart, fun p hp => (hbu.rows p hp).2, hbu.mp.nodup, hbu.no, by have := HDL.out; have := HLE.out; omega⟩
      have HPL := Lib.hid hpl
      have hbw2 : Below w.heap.size w W2 := HB.out.trans (hb2.mono HB.out.size)
      have hm2 := hbu2.mp
      have HBU2 := Lib.hid hbu2
      have HAT2 := Lib.hid hat2
      have HBW2 := Lib.hid hbw2
      clear hpl hbw2 hbu2 hat2 q1 q2 q3 hb2 hz2 hW2 hbu hsb hbb hcb HBU HB HDL hke hte hk hkl
      go_wp2_with (at_range; refine wpList_range_is rfl _ _ rfl Tryd.underlying60 rfl hm2 ?_; intro w3 hrg3 hb3 hz3)
      rw [← hr] at hrg3
      have HOB : Hid (OfB w bb sb cb mb r gap E D D w3) := Lib.hid ⟨hrg3, fun _ h => h, fun p hp => (HBU2.out.rows p hp).1.of_block (hb3.block _ (HBU2.out.rows p hp).1.lt), ⟨[], [], [], HAT2.out.below hb3, List.Perm.refl _⟩, HBW2.out.trans (hb3.mono HBW2.out.size)⟩
      clear hrg3 hb3 hz3 hm2 HBU2 HAT2 HBW2
      (try go_frame)
      rw [← hr]
      clear hr
      go_loopg [] D.length (fun rest wq => ∃ left, Hid (rest = List.length left) ∧ Hid (OfB w bb sb cb mb r gap E D left wq))
      case atStart => exact ⟨D, Lib.hid rfl, HOB⟩
      case round =>
        clear HOB
        obtain ⟨left, HLN, HO⟩ := hrel
        obtain ⟨w5, rfl⟩ : ∃ w5 : World, w5 = wr := ⟨_, rfl⟩
        go_wp2_with (at_next; refine wpList_next_is rfl _ rfl rfl HO.out.rg ?_ ?_)
        · intro h0
          subst h0
          obtain ⟨ks, D1, D2, hat, hpm⟩ := HO.out.at_
          have hpm : ks.Perm (D.map (·.1)) := by simpa using hpm
          have hfin : OfNew w gap E (.returned (.pointer (some ⟨bb, 0, none⟩))) w5 := by
            have hlo := HPL.out.lo
            refine ⟨bb, sb, cb, D1, D2, ks, rfl, hat, hpm.nodup_iff.2 HPL.out.nodup, fun p => ?_, ?_, ⟨by omega, by omega, by omega⟩, HO.out.below⟩
            · rw [hpm.mem_iff, rowB_buys]
              constructor
              · intro hp
                obtain ⟨q, hq, rfl⟩ := List.mem_map.1 hp
                have := HPL.out.ne q hq
                simpa using this
              · intro hp
                cases hg : mget D p with
                | none => exact absurd (by rw [HPL.out.no p hg]; rfl) hp
                | some s => exact List.mem_map.2 ⟨_, mget_some_mem hg, rfl⟩
            · have h1 := hpm.length_eq
              rw [List.length_map] at h1
              have := HPL.out.len
              omega
          have HF := Lib.hid hfin
          clear hfin hat hpm
          (try go_frame)
          go_wp2_with fail
          go_ret
          exact HF.out
        · intro x g n c0 w6 hmem hrg6 hk6 hz6 hen
          (try simp only [strKf, slotVf] at hen)
          have hml := mdel_len HO.out.rg.nodup (p := (x, ((g, n, c0) : Slot))) hmem
          (try dsimp only at hml)
          have hD := HO.out.sub _ hmem
          have hpr := HPL.out.row _ hD
          have hne := HPL.out.ne _ hD
          have hr5 : r < w5.heap.size := HO.out.rg.lt
          obtain ⟨hn, hown5⟩ := HO.out.rows _ hmem
          (try dsimp only at hn); (try dsimp only at hown5); (try dsimp only at hpr); (try dsimp only at hne)
          subst hn
          have hlo := HPL.out.lo
          have hown6 : w6.ownsRow w.heap.size 51 8 (.slice (some ⟨g, 0, none⟩) (rowsE E x).length c0) (rowsE E x).length (evsCells (rowsE E x)) := hk6.own hown5 (fun k hk => by
            have e : g = k := by injection hk
            omega)
          obtain ⟨R, hR⟩ : ∃ R, R = rowsE E x := ⟨_, rfl⟩
          rw [← hR] at hown6 hne hen
          have hRl : R.length ≤ 60 := by have := rowsE_len E x; have := HLE.out; rw [hR]; omega
          have hRi : (R.length : Int) ≤ 60 := by omega
          have HSO := Lib.hid (esort_any w.heap.size (some ⟨g, 0, none⟩) c0 R w6 hown6 (by omega))
          have HML := Lib.hid hml
          have HD := Lib.hid hD
          have HPR := Lib.hid hpr
          have HNE := Lib.hid hne
          have HR5 := Lib.hid hr5
          have HR := Lib.hid hR
          have HRG6 := Lib.hid hrg6
          have HK6 := Lib.hid hk6
          have HZ6 := Lib.hid hz6
          clear hml hD hpr hne hr5 hR hrg6 hk6 hz6 hown6 hown5 hlo hRl
          (try go_frame)
          rw [← HR.out]
          go_wp2_with fail
          refine HSO.out.mono ?_
          rintro e w7 ⟨rfl, ms, hp, hs, hown7, hk7⟩
          have hk7g : Keeps (fun q => q = g) w6 w7 := hk7.mono (fun q _ h => by injection h with h; exact h.symm)
          obtain ⟨ks, D1, D2, hat5, hpm⟩ := HO.out.at_
          obtain ⟨b0, hb0⟩ : ∃ b0, b0 = sumP gap (buysOf E) ks := ⟨_, rfl⟩
          rw [← hb0] at hat5
          have hlo := HPL.out.lo
          have hprn := HPR.out
          have hat6 : BkAt w6 bb sb cb D1 D2 b0 := hat5.keep HK6.out (by omega) (by omega) (by omega)
          have hat7 : BkAt w7 bb sb cb D1 D2 b0 := hat6.keep hk7g (by omega) (by omega) (by omega)
          obtain ⟨W8, hW8⟩ : ∃ W8, W8 = w7.alloc (.map #[] 0) := ⟨_, rfl⟩
          obtain ⟨sm, hsm⟩ : ∃ sm, sm = w7.heap.size := ⟨_, rfl⟩
          have hb8 : Below w7.heap.size w7 W8 := by rw [hW8]; exact (Below.refl _ w7).alloc (Nat.le_refl _) _
          have hat8 : BkAt W8 bb sb cb D1 D2 b0 := hat7.below hb8
          have hm8 : MapIs W8 strKf intVf strOk sm [] := by rw [hW8, hsm]; exact MapIs.made w7 _ _ _
          have hs75 : w5.heap.size ≤ w7.heap.size := Nat.le_trans HK6.out.size hk7g.size
          have hsmn : sm ≠ bb ∧ sm ≠ sb ∧ sm ≠ cb ∧ sm ≠ g ∧ r < sm := by have := HR5.out; omega
          have hg8 : g < W8.heap.size := by have := hb8.size; have := HR5.out; omega
          have hc8 : ∀ j u, (evsCells ms)[j]? = some u → W8.cell? ⟨g, j, none⟩ = some u := by
            intro j u hu
            obtain ⟨cur, hg7, -, -, -, -, htk, -⟩ := own_block hown7
            rw [cell_of_row W8 g j _ _ _ ((hb8.block g (by have := HR5.out; omega)).trans hg7)]
            rw [← htk, List.getElem?_take] at hu
            split at hu
            · simpa using hu
            · cases hu
          have hlm : ms.length = R.length := hp.length_eq
          have hmsE : ∀ e ∈ ms, BuyE e ∧ e.kind = 3 := fun e he => by
            have h1 := hp.mem_iff.1 he
            rw [HR.out] at h1
            unfold rowsE at h1
            rw [List.mem_filter] at h1
            simp at h1
            exact ⟨HE.out e h1.1, h1.2.1⟩
          have hb0ok : BkOk b0 3660 := by
            rw [hb0]
            refine sumP_bd60 gap HLE.out ?_
            have h1 := hpm.length_eq
            rw [List.length_append, List.length_map, List.length_map] at h1
            have := HPL.out.len
            omega
          have HP := Lib.hid hp
          have HSS := Lib.hid hs
          have HK7 := Lib.hid hk7g
          have HPM := Lib.hid hpm
          have HB0 := Lib.hid hb0
          have HAT8 := Lib.hid hat8
          have HM8 := Lib.hid hm8
          have HB8 := Lib.hid hb8
          have HSM := Lib.hid hsmn
          have HG8 := Lib.hid hg8
          have HC8 := Lib.hid hc8
          have HLM := Lib.hid hlm
          have HMS := Lib.hid hmsE
          have HBOK := Lib.hid hb0ok
          have HS75 := Lib.hid hs75
          have HGSM := Lib.hid (show w7.heap.size ≤ sm by omega)
          clear hp hs hk7 hk7g hpm hb0 hat5 hat6 hat7 hat8 hm8 hb8 hsmn hg8 hc8 hlm hmsE hb0ok hs75 hlo hprn hown7 HSO hen
          go_wp2_with fail
          rw [← hW8, ← hsm]
          clear hW8 hsm
          go_loopg [59] R.length (OfI W8 bb sb cb sm gap b0 ms R.length)
          case atStart => exact ⟨0, D1, D2, [], rfl, by omega, HM8, Lib.hid rfl, HAT8, Lib.hid (Keeps.refl _ _)⟩
          case round =>
            clear HM8 HAT8
            obtain ⟨k, D1, D2, S, rfl, hk, HM, HS, HAT, HK⟩ := hrel
            obtain ⟨wq, rfl⟩ : ∃ wq : World, wq = wr := ⟨_, rfl⟩
            by_cases hkl : (k : Int) < (R.length : Int)
            · have hkn : k < ms.length := by have := HLM.out; omega
              have hcell : ∀ j u, (evsCells ms)[j]? = some u → wq.cell? ⟨g, j, none⟩ = some u := fun j u hu =>
                (HK.out.cell (p := ⟨g, j, none⟩) HG8.out (by have := HSM.out; have := HPR.out; have := HPL.out.lo; simp only; omega)).trans (HC8.out j u hu)
              have hrg : wq.rangeAt g (k * 8) (evCells ms[k]) := by
                intro j v hv
                have hj : j < 8 := (List.getElem?_eq_some_iff.1 hv).1
                exact hcell _ _ ((ev_at hkn j hj).trans hv)
              obtain ⟨z, hz⟩ : ∃ z, z = zAt gap b0 ms k := ⟨_, rfl⟩
              obtain ⟨pv, hpv⟩ : ∃ pv : Int, (k = 0 → z.last = none) ∧ (0 < k → z.last = some pv ∧ wq.cell? ⟨g, (k - 1) * 8 + 2, none⟩ = some (.int .i64 pv) ∧ 0 ≤ pv ∧ pv ≤ 100000) := by
                by_cases h0 : k = 0
                · refine ⟨0, fun _ => by rw [hz, h0]; rfl, fun h => absurd h (by omega)⟩
                · have hk1 : k - 1 < ms.length := by omega
                  have hbo := HMS.out _ (List.getElem_mem hk1)
                  obtain ⟨-, -, -, -, -, -, -, -, -, -, -, ha0, ha1⟩ := hbo.1.bought hbo.2
                  refine ⟨ms[k - 1].at_, fun h => absurd h h0, fun _ => ⟨?_, hcell _ _ ((ev_at hk1 2 (by omega)).trans rfl), ha0, ha1⟩⟩
                  have := zAt_last gap b0 hk1
                  rw [show k - 1 + 1 = k by omega] at this
                  rw [hz]; exact this
              have hzn := zAt_succ gap b0 hkn
              have hzok : BkOk z.b 3800 := by rw [hz]; exact (zAt_ok gap HBOK.out ms k).mono (by omega)
              rw [← hz] at hzn HS HAT
              have hbo := HMS.out _ (List.getElem_mem hkn)
              obtain ⟨pn, im, hp0, hp3, hi0, hi5, he1, he2, he3, he4, hsrc, ha0, ha1⟩ := hbo.1.bought hbo.2
              generalize ms[k] = ev at *
              obtain ⟨src, num, at_, kd, pe, it, va, tx⟩ := ev
              unfold evCells at hrg
              unfold pairE at hzn
              simp only at hrg hzn he1 he2 he3 he4 ha0 ha1 hsrc
              have hitok : it.size ≤ maxLen := by rw [he2, nm_size]; unfold maxLen; omega
              have HRG := Lib.hid hrg
              have HZN := Lib.hid hzn
              have HZOK := Lib.hid hzok
              have HPV := Lib.hid hpv
              have HIT := Lib.hid hitok
              clear hcell hrg hzn hzok hpv hbo he1 he2 he3 he4 hsrc hitok hz hp0 hp3 hi0 hi5
              obtain ⟨W9, hW9⟩ : ∃ W9, W9 = wq.alloc (.cells #[Value.string src, .int .i64 num, .int .i64 at_, .int .i64 kd, .string pe, .string it, .int .i64 va, .string tx] 51) := ⟨_, rfl⟩
              have hb9 : Below wq.heap.size wq W9 := by rw [hW9]; exact (Below.refl _ wq).alloc (Nat.le_refl _) _
              have hbx : W9.heap[wq.heap.size]? = some (.cells #[Value.string src, .int .i64 num, .int .i64 at_, .int .i64 kd, .string pe, .string it, .int .i64 va, .string tx] 51 (0, 0)) := by rw [hW9]; exact heap_alloc_new wq _
              obtain ⟨xb, hxb⟩ : ∃ xb, xb = wq.heap.size := ⟨_, rfl⟩
              rw [← hxb] at hbx
              have hxn : xb ≠ bb ∧ xb ≠ sb ∧ xb ≠ cb ∧ xb ≠ sm ∧ xb < W9.heap.size := by
                have h1 := HAT.out.lt
                have h2 := HM.out.lt
                have h3 := (Array.getElem?_eq_some_iff.1 hbx).1
                omega
              have HXN := Lib.hid hxn
              have HM9 : Hid (MapIs W9 strKf intVf strOk sm S) := Lib.hid (HM.out.below hb9 HM.out.lt)
              have HAT9 : Hid (BkAt W9 bb sb cb D1 D2 z.b) := Lib.hid (HAT.out.below hb9)
              have HK9 : Hid (Keeps (fun q => q = bb ∨ q = sb ∨ q = cb ∨ q = sm) W8 W9) := Lib.hid (HK.out.trans (Keeps.ofBelow hb9 (fun q => q = bb ∨ q = sb ∨ q = cb ∨ q = sm)) (fun _ _ h => h))
              have HPV9 : Hid ((k = 0 → z.last = none) ∧ (0 < k → z.last = some pv ∧ W9.cell? ⟨g, (k - 1) * 8 + 2, none⟩ = some (.int .i64 pv) ∧ 0 ≤ pv ∧ pv ≤ 100000)) := Lib.hid ⟨HPV.out.1, fun h => by
                obtain ⟨p1, p2, p3⟩ := HPV.out.2 h
                exact ⟨p1, (hb9.cell (p := ⟨g, (k - 1) * 8 + 2, none⟩) (World.block_lt_of_cell? _ _ p2)).trans p2, p3⟩⟩
              have c2 : W9.cell? ⟨xb, 2, none⟩ = some (.int .i64 at_) := by rw [cell_of_row W9 xb 2 _ _ _ hbx]; rfl
              have c5 : W9.cell? ⟨xb, 5, none⟩ = some (.string it) := by rw [cell_of_row W9 xb 5 _ _ _ hbx]; rfl
              clear hb9 hbx hxn HM HAT HK HPV
              go_upto_region 18 with (first | (refine wpList_load_mid rfl _ _ rfl g (k * 8) (by rfl) _ _ HRG.out Tryd.underlying51 (by rfl) (by kernel_rfl) ?_) | (refine wpList_store_new rfl 51 _ _ rfl _ _ _ _ (by rfl) (by rfl) (by kernel_rfl) (by rfl) (by rfl) (by simp) ?_))
              rw [← hW9, ← hxb]
              clear hW9 hxb HRG
              (try simp only [Act.put])
              obtain ⟨cb2, hcb2⟩ : ∃ cb2, cb2 = cutR gap z.last at_ := ⟨_, rfl⟩
              have HCB := Lib.hid hcb2
              clear hcb2
              go_cut [78] (fun s78 wx => s78 = .bool cb2 ∧ ∃ m, wx = W9.drewN m)
              case first =>
                by_cases h0 : k = 0
                · have ecb : cb2 = false := by rw [HCB.out, HPV9.out.1 h0]; rfl
                  subst ecb
                  subst h0
                  clear HCB HPV9 HXN HM9 HAT9 HK9
                  go_wp2_with fail
                  go_quiet (fail)
                  all_goals go_wp2_with fail
                  all_goals go_meet
                  all_goals exact ⟨rfl, _, rfl⟩
                · obtain ⟨hzl, cpv, hp0, hp1⟩ := HPV9.out.2 (by omega)
                  have hcb3 : cb2 = decide (gap < at_ - pv) := by rw [HCB.out, hzl]; rfl
                  have p1 : (0 : Int) < (k : Int) := by omega
                  have p2 : 0 < k := by omega
                  have p3 : ((k : Int) - 1).toNat = k - 1 := by omega
                  have p6 : (k : Int) - 1 < (R.length : Int) := by omega
                  have p7 : (1 : Int) ≤ (k : Int) := by omega
                  have q5 : IntKind.i64.wrap ((k : Int) - 1) = (k : Int) - 1 := IntWalk.i64_in _ (by omega)
                  have q6 : IntKind.i64.wrap (at_ - pv) = at_ - pv := IntWalk.i64_in _ (by omega)
                  have q7 : wrap64 ((k : Int) - 1) = (k : Int) - 1 := by unfold wrap64; omega
                  have q8 : wrap64 (at_ - pv) = at_ - pv := by unfold wrap64; omega
                  clear HCB HPV9 HXN HM9 HAT9 HK9 h0 hzl
                  by_cases hgp : gap < at_ - pv
                  · have ecb : cb2 = true := by rw [hcb3]; exact decide_eq_true hgp
                    subst ecb
                    clear hcb3
                    have hgp2 : decide (gap < at_ - pv) = true := decide_eq_true hgp
                    go_wp2_with fail
                    go_quiet (fail)
                    all_goals go_wp2_with fail
                    all_goals go_meet
                    all_goals exact ⟨rfl, _, rfl⟩
                  · have ecb : cb2 = false := by rw [hcb3]; exact decide_eq_false hgp
                    subst ecb
                    clear hcb3
                    have hgp2 : decide (gap < at_ - pv) = false := decide_eq_false hgp
                    go_wp2_with fail
                    go_quiet (fail)
                    all_goals go_wp2_with fail
                    all_goals go_meet
                    all_goals exact ⟨rfl, _, rfl⟩
              case rest =>
                obtain ⟨rfl, md, hwx⟩ := hcut
                obtain ⟨wx, hwc⟩ : ∃ wx : World, wx = wc := ⟨_, rfl⟩
                rw [← hwc] at hwx ⊢
                clear hwc
                have kd9 : Keeps (fun _ => False) W9 wx := by rw [hwx]; exact (Keeps.refl _ _).drewN md
                have HMx : Hid (MapIs wx strKf intVf strOk sm S) := Lib.hid (HM9.out.keep kd9 (fun h => h))
                have HATx : Hid (BkAt wx bb sb cb D1 D2 z.b) := Lib.hid (HAT9.out.keep kd9 (fun h => h) (fun h => h) (fun h => h))
                have HKx : Hid (Keeps (fun q => q = bb ∨ q = sb ∨ q = cb ∨ q = sm) W8 wx) := Lib.hid (HK9.out.trans kd9 (fun _ _ h => h.elim))
                have c2x : wx.cell? ⟨xb, 2, none⟩ = some (.int .i64 at_) := by rw [hwx]; exact c2
                have c5x : wx.cell? ⟨xb, 5, none⟩ = some (.string it) := by rw [hwx]; exact c5
                have HXB : Hid (xb < wx.heap.size) := Lib.hid (by rw [hwx]; exact HXN.out.2.2.2.2)
                have HSM2 := Lib.hid (show sm ≠ bb ∧ sm ≠ sb ∧ sm ≠ cb from ⟨HSM.out.1, HSM.out.2.1, HSM.out.2.2.1⟩)
                clear kd9 hwx c2 c5 HM9 HAT9 HK9 HPV9
                have hzn := HZN.out
                rw [stepR_mid] at hzn
                simp only at hzn
                cases cb2 with
                | true =>
                  have hmid : midR gap z at_ = ⟨z.last, fun _ => none, z.b.plus (oneK (sF S))⟩ := by unfold midR; rw [← HCB.out, HS.out]; rfl
                  rw [hmid] at hzn
                  have HZN2 := Lib.hid hzn
                  have QADD := Lib.hid (add_any bb sb cb sm D1 D2 z.b S 3800 wx HATx.out HMx.out HSM2.out HZOK.out (by omega))
                  clear hmid hzn HZN
                  go_wp2_with fail
                  refine QADD.out.mono ?_
                  rintro e w6 ⟨rfl, ⟨E1, E2, hat6⟩, hk6⟩
                  have hm6 := HMx.out.keep hk6 (by have := HSM2.out; omega)
                  obtain ⟨w7, hclr, hm7, hkc, hzc⟩ := hm6.clear (P := Tryd.prog) Tryd.underlying62
                  have hat7 : BkAt w7 bb sb cb E1 E2 _ := hat6.keep hkc (fun h => HSM2.out.1 h.symm) (fun h => HSM2.out.2.1 h.symm) (fun h => HSM2.out.2.2 h.symm)
                  have hkk : Keeps (fun q => q = bb ∨ q = sb ∨ q = cb ∨ q = sm) wx w7 := (hk6.mono (fun q _ h => by rcases h with h | h | h; exact .inl h; exact .inr (.inl h); exact .inr (.inr (.inl h)))).trans hkc (fun q _ h => .inr (.inr (.inr h)))
                  have hxx : ¬ (xb = bb ∨ xb = sb ∨ xb = cb ∨ xb = sm) := by have := HXN.out; omega
                  have c27 : w7.cell? ⟨xb, 2, none⟩ = some (.int .i64 at_) := (hkk.cell (p := ⟨xb, 2, none⟩) HXB.out hxx).trans c2x
                  have c57 : w7.cell? ⟨xb, 5, none⟩ = some (.string it) := (hkk.cell (p := ⟨xb, 5, none⟩) HXB.out hxx).trans c5x
                  have hlk : (Instr.lookup 62 (.map (some sm)) (.string it) true).run Tryd.prog w7 = .ok (.tuple #[.int .i64 0, .bool false]) w7 := hm7.lookOk strKey Tryd.underlying62 zeroB_int (x := it) HIT.out
                  obtain ⟨w8, hput, hm8, hk8, hz8⟩ := hm7.put (P := Tryd.prog) strKey Tryd.underlying62 (x := it) HIT.out at_
                  have hput2 : (Instr.mapUpdate 62 (.map (some sm)) (.string it) (.int .i64 at_)).run Tryd.prog w7 = .ok () w8 := hput
                  have hat8 : BkAt w8 bb sb cb E1 E2 _ := hat7.keep hk8 (fun h => HSM2.out.1 h.symm) (fun h => HSM2.out.2.1 h.symm) (fun h => HSM2.out.2.2 h.symm)
                  have hkF := (HKx.out.trans hkk (fun q _ h => h)).trans hk8 (fun q _ h => .inr (.inr (.inr h)))
                  have HF1 := Lib.hid hm8
                  have HF2 := Lib.hid hat8
                  have HF3 := Lib.hid hkF
                  have hclr0 : (Builtin.clear_ #[62] 0 #[.map (some sm)]).run Tryd.prog w6 = .ok (.tuple #[]) w7 := hclr 0
                  clear hput hm8 hk8 hz8 hat8 hkF hm7 hkc hzc hat7 hkk hm6 hat6 hk6 QADD hclr
                  go_wp2_with fail
                  go_roundg (gk - 1)
                  case measure => omega
                  case rel => exact ⟨k + 1, E1, E2, mput [] it at_, by go_num, by omega, HF1, Lib.hid (by rw [HZN2.out]; exact (sF_put [] it at_).symm), Lib.hid (by rw [HZN2.out]; exact HF2.out), HF3⟩
                | false =>
                  have hmid : midR gap z at_ = z := by unfold midR; rw [← HCB.out]; rfl
                  rw [hmid] at hzn
                  have HZN2 := Lib.hid hzn
                  have hlk0 := HMx.out.lookOk strKey Tryd.underlying62 zeroB_int (x := it) HIT.out
                  clear hmid hzn HZN
                  cases hmg : mget S it with
                  | some v =>
                    rw [hmg] at hlk0
                    have hlk : (Instr.lookup 62 (.map (some sm)) (.string it) true).run Tryd.prog wx = .ok (.tuple #[.int .i64 v, .bool true]) wx := hlk0
                    have HMG := Lib.hid hmg
                    clear hlk0 hmg
                    go_wp2_with fail
                    go_roundg (gk - 1)
                    case measure => omega
                    case rel => exact ⟨k + 1, D1, D2, S, by go_num, by omega, HMx, Lib.hid (by rw [HZN2.out]; show sF S = putS z.since it at_; rw [← HS.out, sF_put, HMG.out]; rfl), Lib.hid (by rw [HZN2.out]; exact HATx.out), HKx⟩
                  | none =>
                    rw [hmg] at hlk0
                    have hlk : (Instr.lookup 62 (.map (some sm)) (.string it) true).run Tryd.prog wx = .ok (.tuple #[.int .i64 0, .bool false]) wx := hlk0
                    obtain ⟨w8, hput, hm8, hk8, hz8⟩ := HMx.out.put (P := Tryd.prog) strKey Tryd.underlying62 (x := it) HIT.out at_
                    have hput2 : (Instr.mapUpdate 62 (.map (some sm)) (.string it) (.int .i64 at_)).run Tryd.prog wx = .ok () w8 := hput
                    have hat8 : BkAt w8 bb sb cb D1 D2 _ := HATx.out.keep hk8 (fun h => HSM2.out.1 h.symm) (fun h => HSM2.out.2.1 h.symm) (fun h => HSM2.out.2.2 h.symm)
                    have hkF := HKx.out.trans hk8 (fun q _ h => .inr (.inr (.inr h)))
                    have HMG := Lib.hid hmg
                    have HF1 := Lib.hid hm8
                    have HF2 := Lib.hid hat8
                    have HF3 := Lib.hid hkF
                    clear hlk0 hmg hput hm8 hk8 hz8 hat8 hkF
                    go_wp2_with fail
                    go_roundg (gk - 1)
                    case measure => omega
                    case rel => exact ⟨k + 1, D1, D2, mput S it at_, by go_num, by omega, HF1, Lib.hid (by rw [HZN2.out]; show sF _ = putS z.since it at_; rw [← HS.out, sF_put, HMG.out]; rfl), Lib.hid (by rw [HZN2.out]; exact HF2.out), HF3⟩
            · have hke : k = ms.length := by have := HLM.out; omega
              subst hke
              have hsf := HS.out
              have hok : BkOk (zAt gap b0 ms ms.length).b 3800 := (zAt_ok gap HBOK.out ms ms.length).mono (by omega)
              have hend : (zAt gap b0 ms ms.length).b.plus (oneK (sF S)) = sumP gap (buysOf E) (x :: ks) := by
                rw [hsf, HB0.out]
                have hne := HNE.out
                rw [HR.out] at hne
                have hp := HP.out
                rw [HR.out] at hp
                exact row_end hg.1 hp HSS.out hne ks
              have q := add_any bb sb cb sm D1 D2 _ S 3800 wq HAT.out HM.out ⟨HSM.out.1, HSM.out.2.1, HSM.out.2.2.1⟩ hok (by omega)
              rw [hend] at q
              have QADD := Lib.hid q
              clear hsf hok hend q
              go_wp2_with fail
              refine QADD.out.mono ?_
              rintro e w9 ⟨rfl, ⟨E1, E2, hat9⟩, hk9⟩
              have hlo := HPL.out.lo
              have hpr := HPR.out
              have hsm := HSM.out
              have hr5 := HR5.out
              have hs75 := HS75.out
              have hz6 := HZ6.out
              have k69 : Keeps (fun q => q = g ∨ q = bb ∨ q = sb ∨ q = cb) w6 w9 :=
                (((HK7.out.mono (fun q _ h => .inl h)).trans (Keeps.ofBelow HB8.out (fun _ => False)) (fun _ _ h => h.elim)).trans HK.out (fun q hq h => by
                  have := HK7.out.size
                  rcases h with h | h | h | h
                  · exact .inr (.inl h)
                  · exact .inr (.inr (.inl h))
                  · exact .inr (.inr (.inr h))
                  · exfalso; have := HGSM.out; omega)).trans hk9 (fun q _ h => .inr h)
              have k59 : Keeps (fun q => q = r ∨ q = g ∨ q = bb ∨ q = sb ∨ q = cb) w5 w9 := (HK6.out.mono (fun q _ h => .inl h)).trans k69 (fun q _ h => .inr h)
              have HFin : Hid (OfB w bb sb cb mb r gap E D (mdel left x) w9) := Lib.hid {
                rg := HRG6.out.keep k69 (by omega) (fun b' e => by injection e with e; subst e; omega)
                sub := fun p hp => HO.out.sub p (List.mem_filter.1 hp).1
                rows := fun p hp => by
                  have hpl := (List.mem_filter.1 hp).1
                  have hpx : p.1 ≠ x := by simpa using (List.mem_filter.1 hp).2
                  have h1 := HO.out.rows p hpl
                  have h2 := HPL.out.row p (HO.out.sub p hpl)
                  refine h1.of_block (k59.block _ h1.lt ?_)
                  rintro (h | h | h | h | h)
                  · omega
                  · exact hpx (HPL.out.apart p (HO.out.sub p hpl) _ HD.out h)
                  · omega
                  · omega
                  · omega
                at_ := ⟨x :: ks, E1, E2, hat9, by
                  have h1 := (mdel_perm HO.out.rg.nodup hmem).map (fun p => p.1)
                  rw [List.cons_append]
                  exact List.perm_middle.symm.trans ((h1.symm.append_left ks).trans HPM.out)⟩
                below := HO.out.below.trans (k59.toBelow HO.out.below.size (fun q h => by omega)) }
              clear hat9 hk9 k69 k59 hlo hpr hsm hr5 hs75 hz6 QADD
              go_wp2_with fail
              go_roundg (mdel left x).length
              case measure => have := HML.out; have := HLN.out; omega
              case rel => exact ⟨mdel left x, Lib.hid rfl, HFin⟩
end Go.Proofs.YtaollcpoibgblaaDoor
