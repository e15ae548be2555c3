/- Contracts of the intake: Late, Taken; what is known of a tale's events. -/
import Derived.Test.YthbijemihaekiaaGreatDoorIkD
import Derived.Test.YthbijemihaekiaaGreatDoorKitX
namespace Go.Proofs.YthbijemihaekiaaGreatDoor
open Go.ChangeShapes Go.WideShapes Go.ChangeAt Go.RowKit Go.Shelf Go.Lib Go.Sort Go.Proofs
set_option linter.unusedVariables false
set_option linter.unusedSimpArgs false

theorem eclone_any (A : Option Addr) (c : Nat) (R : List EvV) (w : World) (h : w.ownsRow 0 41 8 (.slice A R.length c) R.length (evsCells R)) (hl : R.length ≤ 1000) :
    Calls Tryz.prog 20 #[.slice A R.length c] w fun e w' => (∃ A' c', e = .returned (.slice A' R.length c')) ∧ Below w.heap.size w w' :=
  (clone_all (P := Tryz.prog) Tryz.cloneE (z := .agg #[.string ⟨#[]⟩, .int .i64 0, .int .i64 0, .int .i64 0, .string ⟨#[]⟩, .string ⟨#[]⟩, .int .i64 0, .string ⟨#[]⟩]) (size := 8) (bytes := 96) ev_info rfl (by omega) sz_ev A w.heap.size R.length c (evsCells R) w (Reads.of_own h) (by unfold maxLen; omega) (by omega) (evsCells_one _)).mono fun e w' hh => by
    obtain ⟨A', c', rfl, ho, hb⟩ := hh
    exact ⟨⟨A', c', rfl⟩, hb⟩
set_option maxRecDepth 20000 in
set_option maxHeartbeats 1000000 in
theorem ilate_any {w0 w : World} {B : Nat} {x : InV} {F : Nat → Nat → Prop} (h : Objs w0 w B (inObs x) F) (hl : x.L.length ≤ 1000) : Calls Tryz.prog 9 #[.pointer (some ⟨x.ib, 0, none⟩)] w fun e w' => (∃ A' c', e = .returned (.slice A' x.L.length c')) ∧ Below w.heap.size w w' := by
  have c3 := (in_cells h).2.2.2.1
  have Q := Lib.hid (eclone_any x.LA x.Lc x.L w (h.get (i := 6) rfl).2 hl)
  clear h
  go_enter Tryz.func9, Tryz.ntmps9
  go_wp2_with fail
  refine Q.out.mono ?_
  rintro e w2 ⟨⟨A', c', rfl⟩, hb⟩
  go_wp2
  go_ret
  exact ⟨⟨A', c', rfl⟩, hb⟩
set_option maxRecDepth 20000 in
set_option maxHeartbeats 1000000 in
theorem itaken_any {w0 w : World} {B : Nat} {x : InV} {F : Nat → Nat → Prop} (h : Objs w0 w B (inObs x) F) (hl : x.T.length ≤ 1000) : Calls Tryz.prog 10 #[.pointer (some ⟨x.ib, 0, none⟩)] w fun e w' => (∃ A' c', e = .returned (.slice A' x.T.length c')) ∧ Below w.heap.size w w' := by
  have c3 := (in_cells h).2.2.1
  have Q := Lib.hid (eclone_any x.TA x.Tc x.T w (h.get (i := 5) rfl).2 hl)
  clear h
  go_enter Tryz.func10, Tryz.ntmps10
  go_wp2_with fail
  refine Q.out.mono ?_
  rintro e w2 ⟨⟨A', c', rfl⟩, hb⟩
  go_wp2
  go_ret
  exact ⟨⟨A', c', rfl⟩, hb⟩
theorem kind_ne {e : EvV} (h : EvOk e) : e.kind ≠ 14 := by
  rcases h.1 with ⟨hk, -⟩ | ⟨hk, -⟩ | ⟨hk, -⟩ | ⟨hk, -⟩ | ⟨hk, -⟩ | ⟨hk, -⟩ <;> omega
theorem EvsOk.one {E : List EvV} (h : EvsOk E) {k : Nat} (hk : k < E.length) (hE : E.length ≤ 60) : EvOk E[k] ∧ (1 ≤ E[k].num ∧ E[k].num ≤ 1000) ∧ ∀ y ∈ E.take k, ¬ (y.src = E[k].src ∧ y.num = E[k].num) := by
  have he : E = E.take k ++ E[k] :: E.drop (k + 1) := by
    rw [← List.drop_eq_getElem_cons hk, List.take_append_drop]
  have h1 := (h _ _ _ he).1
  have h2 := h.num he
  exact ⟨h1, ⟨h2.1, by omega⟩, h.apart he⟩
end Go.Proofs.YthbijemihaekiaaGreatDoor
