/- Contract of (*pane.Panes).put: one sum grows, and where it was nought the key's row has the pane more. -/
import Derived.Test.YtmigjlceogofaaaPaneA
namespace Go.Proofs.Ytmigjlceogofaaa
open Go.ChangeShapes Go.WideShapes Go.ChangeAt Go.RowKit
set_option linter.unusedVariables false
set_option linter.unusedSimpArgs false

theorem own_obj {w : World} {base : Nat} {e : TypeId} {size n : Nat} {v : Value} {xs : List Value} (h : w.ownsRow base e size v n xs) {g : Nat} (hg : v.ownBlock = some g) : ∃ cur, w.heap[g]? = some (.cells cur e (0, 0)) := by
  rcases h.2 with ⟨rfl, _⟩ | ⟨g', cap, cur, rfl, _, hh, _⟩
  · simp [Value.ownBlock] at hg
  · simp [Value.ownBlock] at hg
    subst hg
    exact ⟨cur, hh⟩

theorem PanesAt.row_ne {w : World} {pb bs br : Nat} {wd ad : Int} {S : SumsL} {R : RowsL} (h : PanesAt w pb bs br wd ad S R) {v : Value} {n : Nat} {xs : List Value} (ho : w.ownsRow 0 3 1 v n xs) {g : Nat} (hg : v.ownBlock = some g) :
    g ≠ pb ∧ g ≠ bs ∧ g ≠ br := by
  obtain ⟨cur, hh⟩ := own_obj ho hg
  refine ⟨?_, ?_, ?_⟩
  · rintro rfl
    have := h.blk
    rw [hh] at this
    simp at this
  · rintro rfl
    obtain ⟨es, c, hb, _⟩ := h.sums
    rw [hh] at hb
    simp at hb
  · rintro rfl
    obtain ⟨es, c, hb, _⟩ := h.rows
    rw [hh] at hb
    simp at hb

theorem PanesAt.map_ne {w : World} {pb bs br : Nat} {wd ad : Int} {S : SumsL} {R : RowsL} (h : PanesAt w pb bs br wd ad S R) : pb ≠ bs ∧ pb ≠ br := by
  refine ⟨?_, ?_⟩
  · rintro rfl
    obtain ⟨es, c, hb, _⟩ := h.sums
    rw [h.blk] at hb
    simp at hb
  · rintro rfl
    obtain ⟨es, c, hb, _⟩ := h.rows
    rw [h.blk] at hb
    simp at hb

def rowOf (R : RowsL) (key : ByteArray) : RowV := (mget R key).getD ⟨none, 0, []⟩

theorem PanesAt.rowOwn {w : World} {pb bs br : Nat} {wd ad : Int} {S : SumsL} {R : RowsL} (h : PanesAt w pb bs br wd ad S R) (key : ByteArray) :
    w.ownsRow 0 3 1 (rowVf (rowOf R key)) (rowOf R key).ns.length ((rowOf R key).ns.map (Value.int .i64)) := by
  unfold rowOf
  cases hl : mget R key with
  | none => exact World.ownsRow_nil _ _ _ _
  | some r => exact h.own _ (mget_some_mem hl)

/-- The row of a key is appended to, and stored back. -/
theorem panes_append {W W1 : World} {pb bs br : Nat} {wd ad : Int} {S : SumsL} {R : RowsL} (h : PanesAt W pb bs br wd ad S R) {key : ByteArray} (hok : strOk key) {A' : Option Addr} {c' : Nat} {q : Int}
    (hown' : W1.ownsRow 0 3 1 (.slice A' ((rowOf R key).ns.length + 1) c') ((rowOf R key).ns.length + 1) ((rowOf R key).ns.map (Value.int .i64) ++ [.int .i64 q])) (hg : W.grownBy W1 (rowVf (rowOf R key)).ownBlock)
    (hloc : (Value.slice A' ((rowOf R key).ns.length + 1) c').ownBlock = (rowVf (rowOf R key)).ownBlock ∨ ∃ g, (Value.slice A' ((rowOf R key).ns.length + 1) c').ownBlock = some g ∧ W.heap.size ≤ g) :
    ∃ W2, (Instr.mapUpdate 143 (.map (some br)) (.string key) (.slice A' ((rowOf R key).ns.length + 1) c')).run Try.prog W1 = .ok () W2 ∧
      PanesAt W2 pb bs br wd ad S (mput R key ⟨A', c', (rowOf R key).ns ++ [q]⟩) ∧ Keeps (paneFoot pb bs br R) W W2 ∧
      (∀ k, paneFoot pb bs br (mput R key ⟨A', c', (rowOf R key).ns ++ [q]⟩) k → paneFoot pb bs br R k ∨ W.heap.size ≤ k) := by
  have hro := h.rowOwn key
  have hrow : ∀ k, some k = (rowVf (rowOf R key)).ownBlock → k ≠ pb ∧ k ≠ bs ∧ k ≠ br := fun k hk => h.row_ne hro hk.symm
  have hmem : ∀ k, (rowVf (rowOf R key)).ownBlock = some k → ∃ p ∈ R, p.1 = key ∧ (rowVf p.2).ownBlock = some k := by
    intro k hk
    unfold rowOf at hk
    cases hl : mget R key with
    | none => rw [hl] at hk; simp [rowVf, Value.ownBlock] at hk
    | some r => rw [hl] at hk; exact ⟨(key, r), mget_some_mem hl, rfl, hk⟩
  have k1 := Keeps.ofGrown hg
  have m1 : MapIs W1 strKf rowVf strOk br R := h.rows.keep k1 (fun e => (hrow br e).2.2 rfl)
  have hlen : ((rowOf R key).ns ++ [q]).length = (rowOf R key).ns.length + 1 := by simp
  obtain ⟨W2, hrun, m2, k2, hs2⟩ := m1.put strKey Try.underlying143 hok (⟨A', c', (rowOf R key).ns ++ [q]⟩ : RowV)
  have hv : rowVf ⟨A', c', (rowOf R key).ns ++ [q]⟩ = .slice A' ((rowOf R key).ns.length + 1) c' := by unfold rowVf; rw [hlen]
  rw [hv] at hrun
  have hpb : pb < W.heap.size := (Array.getElem?_eq_some_iff.1 h.blk).1
  have hmn := h.map_ne
  have k12 : Keeps (paneFoot pb bs br R) W W2 := by
    refine (k1.mono (fun k _ hk => ?_)).trans k2 (fun k _ hk => .inr (.inr (.inl hk)))
    obtain ⟨p, hp, _, e⟩ := hmem k hk.symm
    exact .inr (.inr (.inr ⟨p, hp, e⟩))
  have hbrNew : ∀ g, W.heap.size ≤ g → g ≠ br := fun g hg e => by have := h.rows.lt; omega
  have hown2 : W2.ownsRow 0 3 1 (.slice A' ((rowOf R key).ns.length + 1) c') ((rowOf R key).ns.length + 1) ((rowOf R key).ns.map (Value.int .i64) ++ [.int .i64 q]) := by
    refine k2.own hown' (fun k hk e => ?_)
    rcases hloc with hl | ⟨g, hl, hge⟩
    · rw [hl] at hk; exact (hrow k hk.symm).2.2 e
    · rw [hl] at hk; injection hk with hk; subst hk; exact hbrNew _ hge e
  have hfoot' : ∀ k, (Value.slice A' ((rowOf R key).ns.length + 1) c').ownBlock = some k → (∃ p ∈ R, p.1 = key ∧ (rowVf p.2).ownBlock = some k) ∨ W.heap.size ≤ k := by
    intro k hk
    rcases hloc with hl | ⟨g, hl, hge⟩
    · rw [hl] at hk; exact .inl (hmem k hk)
    · rw [hl] at hk; injection hk with hk; subst hk; exact .inr hge
  refine ⟨W2, hrun, ⟨?_, ?_, m2, h.ne, ?_, ?_⟩, k12, ?_⟩
  · exact (k2.block pb (by have := k1.size; omega) hmn.2).trans ((k1.block pb hpb (fun e => (hrow pb e).1 rfl)).trans h.blk)
  · exact (h.sums.keep k1 (fun e => (hrow bs e).2.1 rfl)).keep k2 h.ne
  · intro p hp
    rcases mem_mput hp with rfl | ⟨hp, hne⟩
    · rw [hv]
      show W2.ownsRow 0 3 1 _ ((rowOf R key).ns ++ [q]).length (((rowOf R key).ns ++ [q]).map (Value.int .i64))
      rw [hlen, List.map_append]
      exact hown2
    · have ho := h.own p hp
      refine k2.own (k1.own ho (fun k hk e => ?_)) (fun k hk => (h.row_ne ho hk).2.2)
      obtain ⟨p', hp', e', e2⟩ := hmem k e.symm
      exact h.apart p hp p' hp' (by rw [e']; exact hne) k hk e2
  · intro p hp p' hp' hne k hk
    rcases mem_mput hp with rfl | ⟨hp, hn1⟩
    · rcases mem_mput hp' with rfl | ⟨hp', hn2⟩
      · exact absurd rfl hne
      · rw [hv] at hk
        rcases hfoot' k hk with ⟨p2, hp2, e2, e3⟩ | hge
        · exact h.apart p2 hp2 p' hp' (by rw [e2]; exact Ne.symm hn2) k e3
        · intro e
          have := ((h.own p' hp').lt k e).2
          omega
    · rcases mem_mput hp' with rfl | ⟨hp', hn2⟩
      · rw [hv]
        intro e
        rcases hfoot' k e with ⟨p2, hp2, e2, e3⟩ | hge
        · exact h.apart p hp p2 hp2 (by rw [e2]; exact hn1) k hk e3
        · have := ((h.own p hp).lt k hk).2
          omega
      · exact h.apart p hp p' hp' hne k hk
  · rintro k (rfl | rfl | rfl | ⟨p, hp, hk⟩)
    · exact .inl (.inl rfl)
    · exact .inl (.inr (.inl rfl))
    · exact .inl (.inr (.inr (.inl rfl)))
    · rcases mem_mput hp with rfl | ⟨hp, hn1⟩
      · rw [hv] at hk
        rcases hfoot' k hk with ⟨p2, hp2, e2, e3⟩ | hge
        · exact .inl (.inr (.inr (.inr ⟨p2, hp2, e3⟩)))
        · exact .inr hge
      · exact .inl (.inr (.inr (.inr ⟨p, hp, hk⟩)))

/-- A sum is stored. -/
theorem panes_store {W : World} {pb bs br : Nat} {wd ad : Int} {S : SumsL} {R : RowsL} (h : PanesAt W pb bs br wd ad S R) {c : ByteArray × Int} (hok : cellOk c) (v : Int) :
    ∃ W2, (Instr.mapUpdate 142 (.map (some bs)) (cellKf c) (.int .i64 v)).run Try.prog W = .ok () W2 ∧ PanesAt W2 pb bs br wd ad (mput S c v) R ∧ Keeps (paneFoot pb bs br R) W W2 := by
  obtain ⟨W2, hrun, m2, k2, hs2⟩ := h.sums.put cellKey Try.underlying142 hok v
  have hmn := h.map_ne
  refine ⟨W2, hrun, ⟨?_, m2, h.rows.keep k2 (Ne.symm h.ne), h.ne, ?_, h.apart⟩, k2.mono (fun k _ e => .inr (.inl e))⟩
  · exact (k2.block pb (Array.getElem?_eq_some_iff.1 h.blk).1 hmn.1).trans h.blk
  · intro p hp
    exact k2.own (h.own p hp) (fun k hk => (h.row_ne (h.own p hp) hk).2.1)
end Go.Proofs.Ytmigjlceogofaaa
