/- What stores do to a counter in memory; contract of the place's closure. -/
import Derived.Test.YtmigjlceogofaaaDsC
namespace Go.Proofs.Ytmigjlceogofaaa
open Go.ChangeShapes Go.WideShapes Go.ChangeAt Go.RowKit
set_option linter.unusedVariables false
set_option linter.unusedSimpArgs false

theorem Ris_take {R : List Int} (h : Rising R) (n : Nat) : Rising (R.take n) := h.sublist (List.take_sublist _ _)
section
variable {w w' : World} {cb : Nat} {A : Option Addr} {c : Nat} {s : CtS}
theorem CtAt.drewN (h : CtAt w cb A c s) (m : Nat) : CtAt (w.drewN m) cb A c s := h.keep ((Keeps.refl noF w).drewN m) (fun _ _ e => e)
theorem CtAt.row_ne (h : CtAt w cb A c s) : ∀ k, (Value.slice A s.R.length c).ownBlock = some k → k ≠ cb := fun k e => by
  rcases h.shape with ⟨h1, -⟩ | ⟨g, h1, -⟩
  · rw [h1] at e; cases e
  · have := h.ne _ h1
    rw [h1] at e
    injection e with e
    omega
theorem CtAt.store (h : CtAt w cb A c s) (i : Nat) (v : Value) : (w.setCell ⟨cb, i, none⟩ v).heap[cb]? = some (.cells (#[.int .i64 s.k, .slice A s.R.length c, .bool s.more].setIfInBounds i v) 129 (0, 0)) ∧
    Keeps (fun k => k = cb) w (w.setCell ⟨cb, i, none⟩ v) := by
  refine ⟨?_, (Keeps.refl (fun k => k = cb) w).setCell (p := ⟨cb, i, none⟩) (.inr rfl) v⟩
  rw [setCell_eq_setRow w cb i _ _ _ _ h.blk]
  exact setRow_heap w cb _ _ _ _ h.blk
theorem CtAt.more (h : CtAt w cb A c s) : CtAt (w.setCell ⟨cb, 2, none⟩ (.bool true)) cb A c { s with more := true } ∧ Keeps (fun k => k = cb) w (w.setCell ⟨cb, 2, none⟩ (.bool true)) := by
  obtain ⟨h1, h2⟩ := h.store 2 (.bool true)
  exact ⟨⟨h1, h2.own h.row (fun k e => h.row_ne k e), h.ne, h.ris, h.le, h.k0, h.bd⟩, h2⟩
theorem CtAt.cut (h : CtAt w cb A c s) (n : Nat) (hn : n < s.R.length) : CtAt (w.setCell ⟨cb, 1, none⟩ (.slice A n c)) cb A c { s with R := s.R.take n } ∧ Keeps (fun k => k = cb) w (w.setCell ⟨cb, 1, none⟩ (.slice A n c)) := by
  obtain ⟨h1, h2⟩ := h.store 1 (.slice A n c)
  have hl : (s.R.take n).length = n := by rw [List.length_take]; omega
  refine ⟨⟨?_, ?_, h.ne, Ris_take h.ris n, ?_, h.k0, fun x hx => h.bd x (List.mem_of_mem_take hx)⟩, h2⟩
  · simp only [hl]; exact h1
  · simp only [hl]
    have hr := h2.own h.row (fun k e => h.row_ne k e)
    rcases h.shape with ⟨e1, e2, -⟩ | ⟨g, e1, -⟩
    · rw [e2] at hn; simp at hn
    · subst e1
      obtain ⟨cur, g1, g2, g3, g4, g5, g6, -⟩ := own_block hr
      refine own_of_block g1 g2 (by omega) g4 g5 ?_
      rw [← ursCells_take, ← g6, List.take_take]
      congr 1
      omega
  · have := h.le
    simp only [hl]
    omega
theorem CtAt.put {w1 w2 : World} {R' : List Int} {g' c' : Nat} (h : CtAt w cb A c s) (hk : Keeps noF w w1) (hr : URowAt w2 0 g' R'.length c' R') (hg : w1.grownBy w2 (Value.slice A s.R.length c).ownBlock)
    (hl : some g' = (Value.slice A s.R.length c).ownBlock ∨ w1.heap.size ≤ g') (h1 : Rising R') (h2 : (R'.length : Int) ≤ s.k) (h3 : ∀ x ∈ R', 0 ≤ x ∧ x ≤ 18446744073709551615) :
    w2.cell? ⟨cb, 1, none⟩ = some (.slice A s.R.length c) ∧ w2.frozen? ⟨cb, 1, none⟩ = false ∧
    CtAt (w2.setCell ⟨cb, 1, none⟩ (.slice (some ⟨g', 0, none⟩) R'.length c')) cb (some ⟨g', 0, none⟩) c' { s with R := R' } ∧
    Upd (ctFoot cb A) w (ctFoot cb (some ⟨g', 0, none⟩)) (w2.setCell ⟨cb, 1, none⟩ (.slice (some ⟨g', 0, none⟩) R'.length c')) := by
  have hcb := h.foot_lt cb (.inl rfl)
  have hk2 : Keeps (fun k => some k = (Value.slice A s.R.length c).ownBlock) w w2 := (hk.mono (fun _ _ e => e.elim)).trans (Keeps.ofGrown hg) (fun k _ e => e)
  have hb2 : w2.heap[cb]? = some (.cells #[.int .i64 s.k, .slice A s.R.length c, .bool s.more] 129 (0, 0)) := (hk2.block cb hcb (fun e => h.row_ne cb e.symm rfl)).trans h.blk
  have hne : g' ≠ cb := by
    rcases hl with e | e
    · exact h.row_ne g' e.symm
    · have := hk.size; omega
  have hk3 : Keeps (fun k => k = cb) w2 (w2.setCell ⟨cb, 1, none⟩ (.slice (some ⟨g', 0, none⟩) R'.length c')) := (Keeps.refl (fun k => k = cb) w2).setCell (p := ⟨cb, 1, none⟩) (.inr rfl) _
  refine ⟨by rw [cell_of_row w2 cb _ _ _ _ hb2]; rfl, frozen_block hb2 _, ⟨?_, ?_, ?_, h1, h2, h.k0, h3⟩, ?_, ?_⟩
  · rw [setCell_eq_setRow w2 cb 1 _ _ _ _ hb2]
    exact setRow_heap w2 cb _ _ _ _ hb2
  · exact hk3.own hr.2 (fun k e => by injection e with e; subst e; exact hne)
  · intro g e; injection e with e; rw [← e]; exact hne
  · refine (hk2.mono (fun k _ e => ?_)).trans hk3 (fun k _ e => .inl e)
    rcases h.shape with ⟨e1, -⟩ | ⟨g, e1, -⟩
    · rw [e1] at e; cases e
    · rw [e1] at e; injection e with e; exact .inr ⟨_, e1, e.symm⟩
  · rintro k (rfl | ⟨g, e, rfl⟩)
    · exact .inl (.inl rfl)
    · injection e with e
      subst e
      rcases hl with e | e
      · left; right
        rcases h.shape with ⟨e1, -⟩ | ⟨g, e1, -⟩
        · rw [e1] at e; cases e
        · rw [e1] at e; injection e with e; exact ⟨_, e1, e.symm⟩
      · right; have := hk.size; show w.heap.size ≤ g'; omega
theorem CtAt.at (h : CtAt w cb A c s) {i : Nat} (hi : i < s.R.length) : ∃ g, A = some ⟨g, 0, none⟩ ∧ w.cell? ⟨g, i, none⟩ = some (.int .u64 s.R[i]) := by
  rcases h.shape with ⟨e1, e2, -⟩ | ⟨g, e1, -⟩
  · rw [e2] at hi; simp at hi
  · refine ⟨g, e1, ?_⟩
    have hr := h.row
    rw [e1] at hr
    obtain ⟨b, o, e, hb, hc⟩ := (Reads.of_own hr).2 (by omega)
    injection e with e
    injection e with e1 e2
    subst e1 e2
    have := hc i _ (ursCells_at hi)
    rwa [Nat.zero_add] at this
end

theorem enter_add1 (args : Array Value) (w : World) : (callFunc 98 args).run Try.prog w = .ok (.enter 98 args) w := enters_of (P := Try.prog) Try.func98 (by kernel_rfl) rfl args w

set_option maxHeartbeats 4000000 in
set_option maxRecDepth 100000 in
theorem add1_any (b1 b2 cb g i n c : Nat) (x h : Int) (w : World) (h1 : w.cell? ⟨b1, 0, none⟩ = some (.pointer (some ⟨cb, 0, none⟩))) (h2 : w.cell? ⟨b2, 0, none⟩ = some (.int .u64 h))
    (hc : w.cell? ⟨cb, 1, none⟩ = some (.slice (some ⟨g, 0, none⟩) n c)) (hi : i < n) (hx : w.cell? ⟨g, i, none⟩ = some (.int .u64 x)) :
    Calls Try.prog 98 #[.int .i64 i, .pointer (some ⟨b1, 0, none⟩), .pointer (some ⟨b2, 0, none⟩)] w fun e w' => e = .returned (.bool (decide (h ≤ x))) ∧ Below w.heap.size w w' := by
  have hi2 : (i : Int) < (n : Int) := by omega
  have mixed := mixedU
  go_enter Try.func98, Try.ntmps98
  go_wp2
  go_region_o
  all_goals go_wp2
  all_goals go_ret
  all_goals exact ⟨by first | rfl | simp, (Below.refl _ _).drew⟩
end Go.Proofs.Ytmigjlceogofaaa
