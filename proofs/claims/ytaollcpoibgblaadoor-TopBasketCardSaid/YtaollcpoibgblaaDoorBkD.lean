/- Rows of buys in memory: a map of persons to rows of events, each row in a block of its own. -/
import Derived.Test.YtaollcpoibgblaaDoorTlHs
import Derived.Test.YtaollcpoibgblaaDoorBkB
import Derived.Test.YtaollcpoibgblaaDoorKitNs
import Derived.Test.YtaollcpoibgblaaDoorKitT
namespace Go.Proofs.YtaollcpoibgblaaDoor
open Go.ChangeShapes Go.WideShapes Go.ChangeAt Go.RowKit
set_option linter.unusedVariables false
set_option linter.unusedSimpArgs false

theorem u_evs : Tryd.prog.underlying 23 = some (.slice 51) := Tryd.underlying23
theorem s_ev : (Tryd.prog.info? 51).map (·.size) = some 8 := by kernel_rfl
theorem sz_ev (w : World) : (Go.sizeOf 51).run Tryd.prog w = .ok 8 w := by kernel_rfl
theorem evsCells_append (A B : List EvV) : evsCells (A ++ B) = evsCells A ++ evsCells B := by unfold evsCells; rw [List.flatMap_append]
theorem evsCells_one (R : List EvV) : ∀ v ∈ evsCells R, v.oneCell' = true := by
  unfold evsCells
  intro v hv
  obtain ⟨r, -, hr⟩ := List.mem_flatMap.1 hv
  exact evCells_one r v hr
theorem evsCells_take (R : List EvV) (k : Nat) : (evsCells R).take (k * 8) = evsCells (R.take k) := by
  rcases Nat.le_total k R.length with h | h
  · have e : R = R.take k ++ R.drop k := (List.take_append_drop k R).symm
    conv => lhs; rw [e, evsCells_append]
    rw [List.take_append_of_le_length (by rw [evsCells_len, List.length_take]; omega)]
    rw [List.take_of_length_le (by rw [evsCells_len, List.length_take]; omega)]
  · rw [List.take_of_length_le (by rw [evsCells_len]; omega), List.take_of_length_le h]
theorem evsCells_drop (R : List EvV) (k : Nat) : (evsCells R).drop (k * 8) = evsCells (R.drop k) := by
  rcases Nat.le_total k R.length with h | h
  · have e : R = R.take k ++ R.drop k := (List.take_append_drop k R).symm
    conv => lhs; rw [e, evsCells_append]
    rw [List.drop_append_of_le_length (by rw [evsCells_len, List.length_take]; omega)]
    rw [List.drop_of_length_le (by rw [evsCells_len, List.length_take]; omega), List.nil_append]
  · rw [List.drop_of_length_le (by rw [evsCells_len]; omega), List.drop_of_length_le h]; rfl
theorem ev_at {R : List EvV} {k : Nat} (h : k < R.length) (j : Nat) (hj : j < 8) : (evsCells R)[k * 8 + j]? = (evCells R[k])[j]? := by
  unfold evsCells
  exact flat_getE (e := evCells) (k := 8) (fun _ => rfl) R k j h hj
theorem zero_evs (w : World) : (zeroValue 23).run Tryd.prog w = .ok (.slice none 0 0) w := by kernel_rfl

abbrev Slot := Nat × Nat × Nat
def slotVf (s : Slot) : Value := .slice (some ⟨s.1, 0, none⟩) s.2.1 s.2.2
abbrev SlotL := List (ByteArray × Slot)
abbrev RowsF := ByteArray → List EvV
def updF (F : RowsF) (k : ByteArray) (R : List EvV) : RowsF := fun x => if x = k then R else F x
theorem mem_mputD {κ υ : Type} [DecidableEq κ] {l : List (κ × υ)} {x : κ} {v : υ} {p : κ × υ} (h : p ∈ mput l x v) : p = (x, v) ∨ (p ∈ l ∧ p.1 ≠ x) := by
  unfold mput at h
  split at h
  · obtain ⟨q, hq, rfl⟩ := List.mem_map.1 h
    by_cases e : q.1 = x
    · left; simp [e]
    · right; rw [if_neg e]; exact ⟨hq, e⟩
  · rename_i hs
    rcases List.mem_append.1 h with h | h
    · right
      refine ⟨h, fun e => hs ?_⟩
      cases hg : mget l x with
      | some u => rfl
      | none => exact absurd e (mget_none_iff.1 hg p h)
    · simp at h; exact .inl h
theorem mput_len {κ υ : Type} [DecidableEq κ] (l : List (κ × υ)) (x : κ) (v : υ) : (mput l x v).length ≤ l.length + 1 := by
  unfold mput
  split <;> simp

/-- A row of events in a block of its own. -/
def ERowAt (w : World) (B g n c : Nat) (R : List EvV) : Prop := n = R.length ∧ w.ownsRow B 51 8 (.slice (some ⟨g, 0, none⟩) n c) n (evsCells R)
theorem ERowAt.blk {w : World} {B g n c : Nat} {R : List EvV} (h : ERowAt w B g n c R) : ∃ cur : List Value, w.heap[g]? = some (.cells cur.toArray 51 (0, 0)) ∧ B ≤ g := by
  obtain ⟨cur, h1, h2, -⟩ := own_block h.2
  exact ⟨cur, h1, h2⟩
theorem ERowAt.of_block {w w' : World} {B g n c : Nat} {R : List EvV} (h : ERowAt w B g n c R) (hb : w'.heap[g]? = w.heap[g]?) : ERowAt w' B g n c R := by
  obtain ⟨cur, h1, h2, h3, h4, h5, h6, h7⟩ := own_block h.2
  exact ⟨h.1, own_of_block (hb.trans h1) h2 h3 h4 h5 h6⟩
theorem ERowAt.lt {w : World} {B g n c : Nat} {R : List EvV} (h : ERowAt w B g n c R) : g < w.heap.size := by
  obtain ⟨cur, h1, -⟩ := h.blk
  exact (Array.getElem?_eq_some_iff.1 h1).1

/-- The buys: a map at mb of persons to rows; all of it lies from B on. -/
structure BuysAt (w : World) (B mb : Nat) (D : SlotL) (F : RowsF) : Prop where
  mp : MapIs w strKf slotVf strOk mb D
  lo : B ≤ mb
  rows : ∀ p ∈ D, ERowAt w B p.2.1 p.2.2.1 p.2.2.2 (F p.1) ∧ F p.1 ≠ []
  no : ∀ k, mget D k = none → F k = []
  apart : ∀ p ∈ D, ∀ q ∈ D, p.2.1 = q.2.1 → p.1 = q.1
section
variable {w w' : World} {B mb : Nat} {D : SlotL} {F : RowsF}
theorem BuysAt.congr {F' : RowsF} (h : BuysAt w B mb D F) (e : ∀ p, F p = F' p) : BuysAt w B mb D F' := by
  have : F = F' := funext e
  rwa [this] at h
theorem BuysAt.below {w0 : World} (h : BuysAt w B mb D F) (hb : Below w.heap.size w w') : BuysAt w' B mb D F where
  mp := h.mp.below hb h.mp.lt
  lo := h.lo
  rows := fun p hp => ⟨(h.rows p hp).1.of_block (hb.block _ (h.rows p hp).1.lt), (h.rows p hp).2⟩
  no := h.no
  apart := h.apart
theorem BuysAt.row_ne (h : BuysAt w B mb D F) {p : ByteArray × Slot} (hp : p ∈ D) : p.2.1 ≠ mb := by
  obtain ⟨cur, hc, -⟩ := (h.rows p hp).1.blk
  intro e
  obtain ⟨es, c, h1, _⟩ := h.mp
  rw [e, h1] at hc
  cases hc
/-- A person's row: none, or one of its own. -/
theorem BuysAt.row (h : BuysAt w B mb D F) (key : ByteArray) : ∃ A c, ((mget D key).map slotVf).getD (.slice none 0 0) = .slice A (F key).length c ∧ w.ownsRow B 51 8 (.slice A (F key).length c) (F key).length (evsCells (F key)) ∧
    ((mget D key = none ∧ A = none ∧ c = 0 ∧ F key = []) ∨ ∃ g, A = some ⟨g, 0, none⟩ ∧ mget D key = some (g, (F key).length, c)) := by
  cases hm : mget D key with
  | none =>
    have h0 := h.no key hm
    rw [h0]
    exact ⟨none, 0, rfl, ⟨rfl, .inl ⟨rfl, rfl⟩⟩, .inl ⟨rfl, rfl, rfl, rfl⟩⟩
  | some s =>
    obtain ⟨g, n, c⟩ := s
    have hp := h.rows _ (mget_some_mem hm)
    obtain ⟨h1, h2⟩ := hp.1
    simp only at h1 h2
    subst h1
    exact ⟨some ⟨g, 0, none⟩, c, rfl, h2, .inr ⟨g, rfl, rfl⟩⟩
theorem look_buys (h : MapIs w strKf slotVf strOk mb D) {key : ByteArray} (hok : key.size ≤ maxLen) :
    (Instr.lookup 60 (.map (some mb)) (.string key) false).run Tryd.prog w = .ok (((mget D key).map slotVf).getD (.slice none 0 0)) w :=
  h.look strKey Tryd.underlying60 zero_evs hok
/-- A person's row is written anew. -/
theorem BuysAt.put {w2 : World} {g' c' n' : Nat} {R' : List EvV} (h : BuysAt w B mb D F) (key : ByteArray) (hok : key.size ≤ maxLen)
    (hk : Keeps (fun k => ∃ s, mget D key = some s ∧ s.1 = k) w w2) (hrow : ERowAt w2 B g' n' c' R') (hne : R' ≠ []) (hg : (∃ s, mget D key = some s ∧ s.1 = g') ∨ w.heap.size ≤ g') :
    ∃ w3, (Instr.mapUpdate 60 (.map (some mb)) (.string key) (.slice (some ⟨g', 0, none⟩) n' c')).run Tryd.prog w2 = .ok () w3 ∧ BuysAt w3 B mb (mput D key (g', n', c')) (updF F key R') ∧ Keeps (fun k => B ≤ k) w w3 := by
  have hblk : ∀ k, (∃ s, mget D key = some s ∧ s.1 = k) → ∃ p ∈ D, p.1 = key ∧ p.2.1 = k := fun k ⟨s, h1, h2⟩ => ⟨(key, s), mget_some_mem h1, rfl, h2⟩
  have hmp2 : MapIs w2 strKf slotVf strOk mb D := h.mp.keep hk (fun hx => by
    obtain ⟨p, hp, -, e⟩ := hblk _ hx
    exact (h.row_ne hp) e)
  obtain ⟨w3, hrun, hm3, hk3, hz3⟩ := hmp2.put strKey Tryd.underlying60 (x := key) hok (g', n', c')
  have hmb : mb < w.heap.size := h.mp.lt
  have hgm : g' ≠ mb := by
    rcases hg with hg | hg
    · obtain ⟨p, hp, -, e⟩ := hblk _ hg
      exact fun e2 => (h.row_ne hp) (e.trans e2)
    · omega
  refine ⟨w3, hrun, ⟨hm3, h.lo, ?_, ?_, ?_⟩, ?_⟩
  · intro p hp
    rcases mem_mputD hp with rfl | ⟨hp, hpk⟩
    · simp only [updF, if_true]
      exact ⟨hrow.of_block (hk3.block _ hrow.lt hgm), hne⟩
    · simp only [updF, if_neg hpk]
      obtain ⟨r1, r2⟩ := h.rows p hp
      refine ⟨r1.of_block ((hk3.block _ (by have := hk.size; have := r1.lt; omega) (h.row_ne hp)).trans (hk.block _ r1.lt (fun hx => ?_))), r2⟩
      obtain ⟨q, hq, e1, e2⟩ := hblk _ hx
      exact hpk ((h.apart p hp q hq e2.symm).trans e1)
  · intro k hkn
    rw [mget_mput] at hkn
    by_cases e : k = key
    · rw [if_pos e] at hkn; cases hkn
    · rw [if_neg e] at hkn
      simp only [updF, if_neg e]
      exact h.no k hkn
  · intro p hp q hq e
    have hgn : ∀ r ∈ D, r.1 ≠ key → r.2.1 ≠ g' := fun r hr hrk e => by
      rcases hg with hg | hg
      · obtain ⟨q, hq, e1, e2⟩ := hblk _ hg
        exact hrk ((h.apart r hr q hq (e.trans e2.symm)).trans e1)
      · have := (h.rows r hr).1.lt
        omega
    rcases mem_mputD hp with rfl | ⟨hp, hpk⟩ <;> rcases mem_mputD hq with rfl | ⟨hq, hqk⟩
    · rfl
    · exact absurd e.symm (hgn q hq hqk)
    · exact absurd e (hgn p hp hpk)
    · exact h.apart p hp q hq e
  · refine (hk.mono (fun k _ hx => ?_)).trans hk3 (fun k _ e => by rw [e]; exact h.lo)
    obtain ⟨p, hp, -, e⟩ := hblk _ hx
    obtain ⟨-, -, hb⟩ := (h.rows p hp).1.blk
    omega
end

/-! ### Plainly -/
def rowsE (E : List EvV) (p : ByteArray) : List EvV := E.filter (fun e => decide (e.kind = 3) && decide (e.person = p))
def buysOf (E : List EvV) : List Buy := (E.filter (fun e => decide (e.kind = 3))).map (fun e => (e.person, e.at_, e.item))
theorem rowB_buys (E : List EvV) (p : ByteArray) : rowB (buysOf E) p = (rowsE E p).map (fun e => (e.at_, e.item)) := by
  unfold rowB buysOf rowsE
  rw [List.filter_map, List.map_map, List.filter_filter]
  simp only [Function.comp_def]
  congr 1
  apply List.filter_congr
  intro e _
  rw [Bool.and_comm]
theorem rowsE_snoc (E : List EvV) (e : EvV) (p : ByteArray) : rowsE (E ++ [e]) p = rowsE E p ++ (if e.kind = 3 ∧ e.person = p then [e] else []) := by
  unfold rowsE
  rw [List.filter_append]
  congr 1
  by_cases h1 : e.kind = 3 <;> by_cases h2 : e.person = p <;> simp [h1, h2]
theorem rowsE_skip (E : List EvV) {e : EvV} (h : e.kind ≠ 3) (p : ByteArray) : rowsE (E ++ [e]) p = rowsE E p := by rw [rowsE_snoc]; simp [h]
theorem rowsE_put (E : List EvV) {e : EvV} (h : e.kind = 3) (p : ByteArray) : updF (rowsE E) e.person (rowsE E e.person ++ [e]) p = rowsE (E ++ [e]) p := by
  rw [rowsE_snoc]
  unfold updF
  by_cases hp : p = e.person
  · subst hp; simp [h]
  · rw [if_neg hp, if_neg (fun x => hp x.2.symm)]; simp
theorem rowsE_len (E : List EvV) (p : ByteArray) : (rowsE E p).length ≤ E.length := List.length_filter_le _ _
end Go.Proofs.YtaollcpoibgblaaDoor
