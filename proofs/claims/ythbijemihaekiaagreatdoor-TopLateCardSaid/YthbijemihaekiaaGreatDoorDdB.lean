/- The set in memory; contracts of place, Has, Next, New. -/
import Derived.Test.YthbijemihaekiaaGreatDoorDdA
import Derived.Test.YthbijemihaekiaaGreatDoorSch
import Derived.Test.YthbijemihaekiaaGreatDoorKitO
import Derived.Test.YthbijemihaekiaaGreatDoorKitX
namespace Go.Proofs.YthbijemihaekiaaGreatDoor
open Go.ChangeShapes Go.WideShapes Go.ChangeAt Go.RowKit
set_option linter.unusedVariables false
set_option linter.unusedSimpArgs false

theorem enter_place (args : Array Value) (w : World) : (callFunc 58 args).run Tryz.prog w = .ok (.enter 58 args) w := enters_of (P := Tryz.prog) Tryz.func58 (by kernel_rfl) rfl args w

set_option maxHeartbeats 4000000 in
set_option maxRecDepth 100000 in
theorem place1_any (b1 b2 b o c : Nat) (R : List Rg) (n : Int) (w : World) (h1 : w.cell? ⟨b1, 0, none⟩ = some (.slice (some ⟨b, o, none⟩) R.length c)) (h2 : w.cell? ⟨b2, 0, none⟩ = some (.int .i64 n))
    (i : Nat) (hi : i < R.length) (hc : w.cell? ⟨b, o + i * 2 + 1, none⟩ = some (.int .i64 R[i].2)) :
    Calls Tryz.prog 58 #[.int .i64 i, .pointer (some ⟨b1, 0, none⟩), .pointer (some ⟨b2, 0, none⟩)] w fun e w' => e = .returned (.bool (decide (n < R[i].2))) ∧ Below w.heap.size w w' := by
  generalize R[i].2 = y at *
  have hi2 : (i : Int) < (R.length : Int) := by omega
  have mixed := mixedD
  go_enter Tryz.func58, Tryz.ntmps58
  go_wp2
  go_region_o
  all_goals go_wp2
  all_goals go_ret
  all_goals exact ⟨by first | rfl | simp, (Below.refl _ _).drew⟩

set_option maxHeartbeats 4000000 in
set_option maxRecDepth 100000 in
theorem place_any (A : Option Addr) (c B : Nat) (R : List Rg) (n : Int) (w : World) (hr : Reads w B 2 A R.length (rgsCells R)) (hB : B ≤ w.heap.size) (hR : RowOk 0 R) (hl : R.length < 1000000) :
    Calls Tryz.prog 42 #[.slice A R.length c, .int .i64 n] w fun e w' => e = .returned (.int .i64 (placeR R n)) ∧ Below w.heap.size w w' := by
  obtain ⟨W1, hW1⟩ : ∃ W1, W1 = (w.alloc (.cells #[.slice A R.length c] 96)).alloc (.cells #[.int .i64 n] 3) := ⟨_, rfl⟩
  have hb1 : Below w.heap.size w W1 := by rw [hW1]; exact ((Below.refl _ w).alloc (Nat.le_refl _) _).alloc (by simp) _
  have c1 : W1.cell? ⟨w.heap.size, 0, none⟩ = some (.slice A R.length c) := by rw [hW1]; simp
  have c2 : W1.cell? ⟨w.heap.size + 1, 0, none⟩ = some (.int .i64 n) := by rw [hW1]; simp
  have hs1 : W1.heap.size = w.heap.size + 2 := by rw [hW1]; simp
  have hcl : ∀ W, Below W1.heap.size W1 W → ∀ i : Nat, i < R.length → Calls Tryz.prog 58 (#[.int .i64 i] ++ #[.pointer (some ⟨w.heap.size, 0, none⟩), .pointer (some ⟨w.heap.size + 1, 0, none⟩)]) W fun e w' => e = .returned (.bool (decide (n < (R.getD i (0, 0)).2))) ∧ Below W.heap.size W w' := fun W hb i hi => by
    obtain ⟨b, o, rfl, hbl, hc⟩ := hr.2 (by omega)
    have hx : w.cell? ⟨b, o + i * 2 + 1, none⟩ = some (.int .i64 R[i].2) := by have := hc (i * 2 + 1) _ (rgsCells_at hi).2; rwa [← Nat.add_assoc] at this
    have e0 : R.getD i (0, 0) = R[i] := by simp [hi]
    rw [e0]
    refine place1_any w.heap.size (w.heap.size + 1) b o c R n W ((hb.cell (p := ⟨w.heap.size, 0, none⟩) (by show w.heap.size < _; omega)).trans c1) ((hb.cell (p := ⟨w.heap.size + 1, 0, none⟩) (by show w.heap.size + 1 < _; omega)).trans c2) i hi ?_
    have h3 := (hb1.cell (p := ⟨b, o + i * 2 + 1, none⟩) (by show b < _; omega)).trans hx
    exact (hb.cell (p := ⟨b, o + i * 2 + 1, none⟩) (by show b < _; omega)).trans h3
  have hp := placeR_le R n
  have hse := search_any 58 #[.pointer (some ⟨w.heap.size, 0, none⟩), .pointer (some ⟨w.heap.size + 1, 0, none⟩)] R.length (fun i => decide (n < (R.getD i (0, 0)).2)) W1 enter_place (by omega) hcl (placeR R n) hp
    (fun t ht => by
      have htl : t < R.length := by omega
      have := hR.behind (n := n) htl
      have e0 : R.getD t (0, 0) = R[t] := by simp [htl]
      simp only [e0, decide_eq_false_iff_not]
      rw [this]
      omega)
    (fun t ht htl => by
      have := hR.behind (n := n) htl
      have e0 : R.getD t (0, 0) = R[t] := by simp [htl]
      simp only [e0, decide_eq_true_eq]
      rw [this]
      exact ht)
  have HS := Lib.hid hse
  have HB := Lib.hid hb1
  clear hse hcl hr hb1 hs1 hR
  go_enter Tryz.func42, Tryz.ntmps42
  go_wp2_with fail
  rw [← hW1]
  refine Calls.mono HS.out ?_
  rintro e w' ⟨rfl, hbw⟩
  go_wp2_with fail
  go_ret
  exact ⟨rfl, HB.out.trans (hbw.mono HB.out.size)⟩

abbrev Slot := Nat × Nat × Nat
def slotVf (s : Slot) : Value := .slice (some ⟨s.1, 0, none⟩) s.2.1 s.2.2
abbrev SlotL := List (ByteArray × Slot)
abbrev RowsF := ByteArray → List Rg
def updF (F : RowsF) (k : ByteArray) (R : List Rg) : RowsF := fun x => if x = k then R else F x
theorem zero_rgs (w : World) : (zeroValue 96).run Tryz.prog w = .ok (.slice none 0 0) w := by kernel_rfl

theorem mem_mputD {κ υ : Type} [DecidableEq κ] {l : List (κ × υ)} {x : κ} {v : υ} {p : κ × υ} (h : p ∈ mput l x v) : p = (x, v) ∨ (p ∈ l ∧ p.1 ≠ x) := by
  unfold mput at h
  split at h
  · obtain ⟨q, hq, rfl⟩ := List.mem_map.1 h
    by_cases e : q.1 = x
    · left; simp [e]
    · right; rw [if_neg e]; exact ⟨hq, e⟩
  · rename_i hs
    rcases List.mem_append.1 h with h | h
    · right
      refine ⟨h, fun e => hs ?_⟩
      cases hg : mget l x with
      | some u => rfl
      | none => exact absurd e (mget_none_iff.1 hg p h)
    · simp at h; exact .inl h

/-- A set in memory: the struct at sb, its map, each row in a block of its own. -/
structure SetAt (w : World) (sb mb : Nat) (D : SlotL) (F : RowsF) : Prop where
  blk : w.heap[sb]? = some (.cells #[.map (some mb)] 81 (0, 0))
  mp : MapIs w strKf slotVf strOk mb D
  rows : ∀ p ∈ D, RowAt w 0 p.2.1 p.2.2.1 p.2.2.2 (F p.1) ∧ F p.1 ≠ []
  no : ∀ k, mget D k = none → F k = []
  apart : ∀ p ∈ D, ∀ q ∈ D, p.2.1 = q.2.1 → p.1 = q.1
  ok : ∀ k, RowOk 0 (F k)

def setFoot (sb mb : Nat) (D : SlotL) (k : Nat) : Prop := k = sb ∨ k = mb ∨ ∃ p ∈ D, p.2.1 = k
def SetObj (w : World) (sb : Nat) (G : Nat → Prop) (F : RowsF) : Prop := ∃ mb D, SetAt w sb mb D F ∧ G = setFoot sb mb D

theorem RowAt.blk {w : World} {base g n c : Nat} {R : List Rg} (h : RowAt w base g n c R) : ∃ cur : List Value, w.heap[g]? = some (.cells cur.toArray 99 (0, 0)) := by
  obtain ⟨cur, h1, -⟩ := own_block h.2
  exact ⟨cur, h1⟩
theorem RowAt.of_block {w w' : World} {base g n c : Nat} {R : List Rg} (h : RowAt w base g n c R) (hb : w'.heap[g]? = w.heap[g]?) : RowAt w' base g n c R := by
  obtain ⟨cur, h1, h2, h3, h4, h5, h6, h7⟩ := own_block h.2
  exact ⟨h.1, own_of_block (hb.trans h1) h2 h3 h4 h5 h6⟩
theorem RowAt.lt {w : World} {base g n c : Nat} {R : List Rg} (h : RowAt w base g n c R) : g < w.heap.size := by
  obtain ⟨cur, h1⟩ := h.blk
  exact (Array.getElem?_eq_some_iff.1 h1).1
section
variable {w w' : World} {sb mb : Nat} {D : SlotL} {F : RowsF}
theorem SetAt.keep {G : Nat → Prop} (h : SetAt w sb mb D F) (hk : Keeps G w w') (hG : ∀ k, setFoot sb mb D k → ¬ G k) : SetAt w' sb mb D F where
  blk := (hk.block sb (Array.getElem?_eq_some_iff.1 h.blk).1 (hG sb (.inl rfl))).trans h.blk
  mp := h.mp.keep hk (hG mb (.inr (.inl rfl)))
  rows := fun p hp => ⟨(h.rows p hp).1.of_block (hk.block _ (h.rows p hp).1.lt (hG _ (.inr (.inr ⟨p, hp, rfl⟩)))), (h.rows p hp).2⟩
  no := h.no
  apart := h.apart
  ok := h.ok
theorem SetAt.foot_lt (h : SetAt w sb mb D F) : ∀ k, setFoot sb mb D k → k < w.heap.size := by
  rintro k (rfl | rfl | ⟨p, hp, rfl⟩)
  · exact (Array.getElem?_eq_some_iff.1 h.blk).1
  · exact h.mp.lt
  · exact (h.rows p hp).1.lt
theorem SetObj.own (sb : Nat) (F : RowsF) : Own1 (fun w G => SetObj w sb G F) where
  keep := fun h hk hG => by
    obtain ⟨mb, D, h1, rfl⟩ := h
    exact ⟨mb, D, h1.keep hk hG, rfl⟩
  lt := fun h => by
    obtain ⟨mb, D, h1, rfl⟩ := h
    exact h1.foot_lt
theorem SetAt.sb_ne (h : SetAt w sb mb D F) : sb ≠ mb := by
  rintro rfl
  obtain ⟨es, c, h1, _⟩ := h.mp
  have := h.blk
  rw [h1] at this
  cases this
theorem SetAt.row_ne (h : SetAt w sb mb D F) {p : ByteArray × Slot} (hp : p ∈ D) : p.2.1 ≠ sb ∧ p.2.1 ≠ mb := by
  obtain ⟨cur, hc⟩ := (h.rows p hp).1.blk
  constructor
  · intro e
    rw [e, h.blk] at hc
    injection hc with hc
    injection hc with _ hc
    revert hc
    decide
  · intro e
    obtain ⟨es, c, h1, _⟩ := h.mp
    rw [e, h1] at hc
    cases hc
theorem look_rows (h : MapIs w strKf slotVf strOk mb D) {key : ByteArray} (hok : key.size ≤ maxLen) :
    (Instr.lookup 79 (.map (some mb)) (.string key) false).run Tryz.prog w = .ok (((mget D key).map slotVf).getD (.slice none 0 0)) w :=
  h.look strKey Tryz.underlying79 zero_rgs hok
/-- A source's row: none, or one of its own. -/
theorem SetAt.row (h : SetAt w sb mb D F) (key : ByteArray) : ∃ A c, ((mget D key).map slotVf).getD (.slice none 0 0) = .slice A (F key).length c ∧ w.ownsRow 0 99 2 (.slice A (F key).length c) (F key).length (rgsCells (F key)) ∧
    ((mget D key = none ∧ A = none ∧ c = 0 ∧ F key = []) ∨ ∃ g, A = some ⟨g, 0, none⟩ ∧ mget D key = some (g, (F key).length, c)) := by
  cases hm : mget D key with
  | none =>
    have h0 := h.no key hm
    rw [h0]
    exact ⟨none, 0, rfl, ⟨rfl, .inl ⟨rfl, rfl⟩⟩, .inl ⟨rfl, rfl, rfl, rfl⟩⟩
  | some s =>
    obtain ⟨g, n, c⟩ := s
    have hp := h.rows _ (mget_some_mem hm)
    obtain ⟨h1, h2⟩ := hp.1
    simp only at h1 h2
    subst h1
    exact ⟨some ⟨g, 0, none⟩, c, rfl, h2, .inr ⟨g, rfl, rfl⟩⟩
theorem SetAt.cells (h : SetAt w sb mb D F) : w.cell? ⟨sb, 0, none⟩ = some (.map (some mb)) := by
  rw [cell_of_row w sb _ _ _ _ h.blk]; rfl
theorem own_reads {A : Option Addr} {c : Nat} {R : List Rg} (h : w.ownsRow 0 99 2 (.slice A R.length c) R.length (rgsCells R)) : Reads w w.heap.size 2 A R.length (rgsCells R) := Reads.of_own h
/-- A source's row is written anew. -/
theorem SetAt.put {w2 : World} {g' c' : Nat} {R' : List Rg} (h : SetAt w sb mb D F) (key : ByteArray) (hok : key.size ≤ maxLen)
    (hk : Keeps (fun k => ∃ s, mget D key = some s ∧ s.1 = k) w w2) (hrow : RowAt w2 0 g' R'.length c' R') (hne : R' ≠ []) (hR : RowOk 0 R') (hg : (∃ s, mget D key = some s ∧ s.1 = g') ∨ w.heap.size ≤ g') :
    ∃ w3, (Instr.mapUpdate 79 (.map (some mb)) (.string key) (.slice (some ⟨g', 0, none⟩) R'.length c')).run Tryz.prog w2 = .ok () w3 ∧ SetAt w3 sb mb (mput D key (g', R'.length, c')) (updF F key R') ∧ Upd (setFoot sb mb D) w (setFoot sb mb (mput D key (g', R'.length, c'))) w3 := by
  have hlt := h.foot_lt
  have hblk : ∀ k, (∃ s, mget D key = some s ∧ s.1 = k) → ∃ p ∈ D, p.1 = key ∧ p.2.1 = k := fun k ⟨s, h1, h2⟩ => ⟨(key, s), mget_some_mem h1, rfl, h2⟩
  have hmp2 : MapIs w2 strKf slotVf strOk mb D := h.mp.keep hk (fun hx => by
    obtain ⟨p, hp, -, e⟩ := hblk _ hx
    exact (h.row_ne hp).2 e)
  obtain ⟨w3, hrun, hm3, hk3, hz3⟩ := hmp2.put strKey Tryz.underlying79 (x := key) hok (g', R'.length, c')
  have hmb : mb < w.heap.size := hlt mb (.inr (.inl rfl))
  have hgm : g' ≠ mb := by
    rcases hg with hg | hg
    · obtain ⟨p, hp, -, e⟩ := hblk _ hg
      exact fun e2 => (h.row_ne hp).2 (e.trans e2)
    · omega
  refine ⟨w3, hrun, ⟨?_, hm3, ?_, ?_, ?_, ?_⟩, ?_⟩
  · have hs := hlt sb (.inl rfl)
    refine (hk3.block sb (by have := hk.size; omega) h.sb_ne).trans ((hk.block sb hs (fun hx => ?_)).trans h.blk)
    obtain ⟨p, hp, -, e⟩ := hblk _ hx
    exact (h.row_ne hp).1 e
  · intro p hp
    rcases mem_mputD hp with rfl | ⟨hp, hpk⟩
    · simp only [updF, if_true]
      exact ⟨hrow.of_block (hk3.block _ hrow.lt hgm), hne⟩
    · simp only [updF, if_neg hpk]
      obtain ⟨r1, r2⟩ := h.rows p hp
      refine ⟨r1.of_block ((hk3.block _ (by have := hk.size; have := r1.lt; omega) (h.row_ne hp).2).trans (hk.block _ r1.lt (fun hx => ?_))), r2⟩
      obtain ⟨q, hq, e1, e2⟩ := hblk _ hx
      exact hpk ((h.apart p hp q hq e2.symm).trans e1)
  · intro k hkn
    rw [mget_mput] at hkn
    by_cases e : k = key
    · rw [if_pos e] at hkn; cases hkn
    · rw [if_neg e] at hkn
      simp only [updF, if_neg e]
      exact h.no k hkn
  · intro p hp q hq e
    have hgn : ∀ r ∈ D, r.1 ≠ key → r.2.1 ≠ g' := fun r hr hrk e => by
      rcases hg with hg | hg
      · obtain ⟨q, hq, e1, e2⟩ := hblk _ hg
        exact hrk ((h.apart r hr q hq (e.trans e2.symm)).trans e1)
      · have := (h.rows r hr).1.lt
        omega
    rcases mem_mputD hp with rfl | ⟨hp, hpk⟩ <;> rcases mem_mputD hq with rfl | ⟨hq, hqk⟩
    · rfl
    · exact absurd e.symm (hgn q hq hqk)
    · exact absurd e (hgn p hp hpk)
    · exact h.apart p hp q hq e
  · intro k
    unfold updF
    split
    · exact hR
    · exact h.ok k
  · refine ⟨(hk.mono (fun k _ hx => ?_)).trans hk3 (fun k _ e => .inr (.inl e)), ?_⟩
    · obtain ⟨p, hp, -, e⟩ := hblk _ hx
      exact .inr (.inr ⟨p, hp, e⟩)
    · rintro k (rfl | rfl | ⟨p, hp, rfl⟩)
      · exact .inl (.inl rfl)
      · exact .inl (.inr (.inl rfl))
      · rcases mem_mputD hp with rfl | ⟨hp, -⟩
        · rcases hg with hg | hg
          · obtain ⟨q, hq, -, e⟩ := hblk _ hg
            exact .inl (.inr (.inr ⟨q, hq, e⟩))
          · exact .inr hg
        · exact .inl (.inr (.inr ⟨p, hp, rfl⟩))
end
instance decMemR (R : List Rg) (n : Int) : Decidable (memR R n) := inferInstanceAs (Decidable (∃ r ∈ R, r.1 ≤ n ∧ n < r.2))

def NewSet (w : World) (e : Ending) (w' : World) : Prop := ∃ sb G, e = .returned (.pointer (some ⟨sb, 0, none⟩)) ∧ SetObj w' sb G (fun _ => []) ∧ (∀ k, G k → w.heap.size ≤ k) ∧ Below w.heap.size w w'
set_option maxHeartbeats 4000000 in
theorem dnew_any (w : World) : Calls Tryz.prog 13 #[] w (NewSet w) := by
  have hmm := @run_makeMap Tryz.prog
  obtain ⟨W1, hW1⟩ : ∃ W1, W1 = w.alloc (.map #[] 0) := ⟨_, rfl⟩
  have hm : MapIs W1 strKf slotVf strOk w.heap.size [] := by rw [hW1]; exact MapIs.made w _ _ _
  obtain ⟨W2, hW2⟩ : ∃ W2, W2 = W1.alloc (.cells #[.map (some w.heap.size)] 81) := ⟨_, rfl⟩
  have hs1 : W1.heap.size = w.heap.size + 1 := by rw [hW1]; simp
  have hb2 : Below w.heap.size w W2 := by rw [hW2, hW1]; exact ((Below.refl _ w).alloc (Nat.le_refl _) _).alloc (by simp) _
  have hfin : NewSet w (.returned (.pointer (some ⟨w.heap.size + 1, 0, none⟩))) W2 := by
    refine ⟨w.heap.size + 1, _, rfl, ⟨w.heap.size, [], ⟨?_, ?_, by simp, by simp, by simp, fun _ => trivial⟩, rfl⟩, ?_, hb2⟩
    · rw [hW2, ← hs1]; exact heap_alloc_new W1 _
    · rw [hW2]; exact hm.alloc _
    · rintro k (rfl | rfl | ⟨p, hp, -⟩)
      · omega
      · omega
      · cases hp
  have HF := Lib.hid hfin
  clear hfin hm hb2
  go_enter Tryz.func13, Tryz.ntmps13
  go_wp2
  go_ret
  rw [← hW1]
  have e : w.heap.size + 1 = W1.heap.size := hs1.symm
  rw [← hW2]
  first | exact HF.out | (rw [e] at HF; exact HF.out)

set_option maxHeartbeats 4000000 in
set_option maxRecDepth 100000 in
theorem has_any (sb : Nat) (G : Nat → Prop) (F : RowsF) (key : ByteArray) (n : Int) (w : World) (h : SetObj w sb G F) (hok : key.size ≤ maxLen) (hl : (F key).length < 1000000) :
    Calls Tryz.prog 28 #[.pointer (some ⟨sb, 0, none⟩), .string key, .int .i64 n] w fun e w' => e = .returned (.bool (decide (memR (F key) n))) ∧ Below w.heap.size w w' := by
  obtain ⟨mb, D, hD, -⟩ := h
  have c1 := hD.cells
  have hlo := look_rows hD.mp hok
  obtain ⟨A, c, hv, hown, -⟩ := hD.row key
  rw [hv] at hlo
  have hR := hD.ok key
  have hrd := own_reads hown
  have hm := hR.mem_iff (n := n)
  generalize F key = R at *
  have hpl := place_any A c w.heap.size R n w hrd (Nat.le_refl _) hR hl
  have hp := placeR_le R n
  have HP := Lib.hid hpl
  have HR := Lib.hid hrd
  clear hpl hrd hown hv hD hR
  by_cases hk : placeR R n < R.length
  · obtain ⟨b, o, rfl, hbl, hc⟩ := HR.out.2 (by omega)
    have hx := hc (placeR R n * 2) _ (rgsCells_at hk).1
    have hm2 : memR R n ↔ R[placeR R n].1 ≤ n := by rw [hm]; exact ⟨fun ⟨_, h⟩ => h, fun h => ⟨hk, h⟩⟩
    have hd : decide (memR R n) = decide (R[placeR R n].1 ≤ n) := decide_eq_decide.2 hm2
    rw [hd]
    generalize R[placeR R n].1 = x at *
    generalize placeR R n = k at *
    clear hm hm2 hd hc
    have hk2 : (k : Int) < (R.length : Int) := by omega
    go_enter Tryz.func28, Tryz.ntmps28
    go_wp2_with fail
    refine Calls.mono HP.out ?_
    rintro e w' ⟨rfl, hbw⟩
    have hx2 : w'.cell? ⟨b, o + k * 2, none⟩ = some (.int .i64 x) := (hbw.cell (p := ⟨b, o + k * 2, none⟩) hbl).trans hx
    have HB := Lib.hid hbw
    clear hbw
    go_wp2
    go_ret
    exact ⟨rfl, HB.out⟩
  · have hm2 : ¬ memR R n := by rw [hm]; rintro ⟨h, -⟩; exact hk h
    have hd : decide (memR R n) = false := by simp [hm2]
    rw [hd]
    generalize placeR R n = k at *
    clear hm hm2 hd
    have hk2 : ¬ ((k : Int) < (R.length : Int)) := by omega
    have hk3 : decide ((k : Int) < (R.length : Int)) = false := by simpa using hk2
    go_enter Tryz.func28, Tryz.ntmps28
    go_wp2_with fail
    refine Calls.mono HP.out ?_
    rintro e w' ⟨rfl, hbw⟩
    have HB := Lib.hid hbw
    clear hbw
    go_wp2
    go_ret
    exact ⟨rfl, HB.out⟩
end Go.Proofs.YthbijemihaekiaaGreatDoor
