/- A heavy's contracts in the words of objects (cut out of HvT). -/
import Derived.Test.YtmigjlceogofaaaHvG
namespace Go.Proofs.Ytmigjlceogofaaa
open Go.ChangeShapes Go.WideShapes Go.ChangeAt Go.RowKit Go.Shelf Go.Lib Go.Sort Go.Proofs
set_option linter.unusedVariables false
set_option linter.unusedSimpArgs false

theorem hlow_o {w : World} {hb : Nat} {F : Nat → Prop} {s : HvS} (h : HvO w hb F s) (k : ByteArray) (hk : strOk k) : Calls Try.prog 31 #[.pointer (some ⟨hb, 0, none⟩), .string k] w fun e w' => e = .returned (.int .i64 (lowV s.S k)) ∧ w = w' := by
  obtain ⟨cb, S, hA, hp, hne, rfl, hi⟩ := h
  have := hlow_any hA k hk
  rwa [lowV_perm hp hA.cnt.nodup] at this
theorem hhigh_o {w : World} {hb : Nat} {F : Nat → Prop} {s : HvS} (h : HvO w hb F s) (k : ByteArray) (hk : strOk k) : Calls Try.prog 32 #[.pointer (some ⟨hb, 0, none⟩), .string k] w fun e w' => e = .returned (.int .i64 (lowV s.S k + s.slack)) ∧ Below w.heap.size w w' := by
  obtain ⟨cb, S, hA, hp, hne, rfl, hi⟩ := h
  have e := lowV_perm hp hA.cnt.nodup k
  have h1 := hi.low k
  have h2 := hi.sl
  have := hhigh_any hA k hk (by omega) (by have := hi.s0; omega)
  rwa [e] at this
theorem htotal_o {w : World} {hb : Nat} {F : Nat → Prop} {s : HvS} (h : HvO w hb F s) : Calls Try.prog 28 #[.pointer (some ⟨hb, 0, none⟩)] w fun e w' => e = .returned (.int .i64 s.total) ∧ w = w' := by
  obtain ⟨cb, S, hA, hp, hne, rfl, hi⟩ := h
  exact htotal_any hA
theorem hslack_o {w : World} {hb : Nat} {F : Nat → Prop} {s : HvS} (h : HvO w hb F s) : Calls Try.prog 29 #[.pointer (some ⟨hb, 0, none⟩)] w fun e w' => e = .returned (.int .i64 s.slack) ∧ w = w' := by
  obtain ⟨cb, S, hA, hp, hne, rfl, hi⟩ := h
  exact hslack_any hA
theorem hnew_o (m : Int) (w : World) : Calls Try.prog 22 #[.int .i64 m] w fun e w' => ∃ hb F, e = .returned (.pointer (some ⟨hb, 0, none⟩)) ∧ HvO w' hb F (newH m) ∧ (∀ k, F k → w.heap.size ≤ k) ∧ Below w.heap.size w w' := by
  refine (hnew_any m w).mono ?_
  rintro e w' ⟨hb, cb, rfl, hA, h1, h2, hne, hb'⟩
  refine ⟨hb, fun k => k = hb ∨ k = cb, rfl, ⟨cb, [], hA, List.Perm.refl _, hne, rfl, newH_inv m⟩, ?_, hb'⟩
  rintro k (rfl | rfl) <;> assumption
/-- What a merge leaves, as objects. -/
def MergeNewH (w : World) (hb : Nat) (F : Nat → Prop) (s o : HvS) (e : Ending) (w' : World) : Prop :=
  e = .returned (.bool true) ∧ ∃ F', HvO w' hb F' (mergeH s o) ∧ Upd F w F' w'
theorem MergeH.o {w w' : World} {hb cb : Nat} {s o : HvS} {e : Ending} (h : MergeH w hb cb s o e w') (hi : HvInv (mergeH s o)) : MergeNewH w hb (fun k => k = hb ∨ k = cb) s o e w' := by
  obtain ⟨h1, cb', S', hA, hp, hne, hc, hk⟩ := h
  refine ⟨h1, fun k => k = hb ∨ k = cb', ⟨cb', S', hA, hp, hne, rfl, hi⟩, hk, ?_⟩
  rintro k (rfl | rfl)
  · exact .inl (.inl rfl)
  · rcases hc with h | h
    · exact .inl (.inr h)
    · exact .inr h
theorem hmerge_o {w : World} {hb ob : Nat} {F G : Nat → Prop} {s o : HvS} (h : HvO w hb F s) (k : HvO w ob G o) (hd : Apart F G) (hr : o.room = s.room) (ha : s.added + o.added ≤ 1048576) :
    Calls Try.prog 26 #[.pointer (some ⟨hb, 0, none⟩), .pointer (some ⟨ob, 0, none⟩)] w (MergeNewH w hb F s o) := by
  obtain ⟨cb, S, hA, hp, hne, rfl, hi⟩ := h
  obtain ⟨co, So, hO, hpo, hneo, rfl, hio⟩ := k
  exact (hmerge_core hA hp hi hO hpo hio hne (fun e => hd hb (.inl rfl) (.inr e.symm)) hr ha).mono (fun e w' h => h.o (mergeH_inv hi hio hr ha))
theorem hmerge_self {w : World} {hb : Nat} {F : Nat → Prop} {s : HvS} (h : HvO w hb F s) (ha : s.added + s.added ≤ 1048576) :
    Calls Try.prog 26 #[.pointer (some ⟨hb, 0, none⟩), .pointer (some ⟨hb, 0, none⟩)] w (MergeNewH w hb F s s) := by
  obtain ⟨cb, S, hA, hp, hne, rfl, hi⟩ := h
  exact (hmerge_core hA hp hi hA hp hi hne hne rfl ha).mono (fun e w' h => h.o (mergeH_inv hi hi rfl ha))
theorem hmerge_other {w : World} {hb ob : Nat} {F G : Nat → Prop} {s o : HvS} (h : HvO w hb F s) (k : HvO w ob G o) (hr : o.room ≠ s.room) :
    Calls Try.prog 26 #[.pointer (some ⟨hb, 0, none⟩), .pointer (some ⟨ob, 0, none⟩)] w fun e w' => e = .returned (.bool false) ∧ Below w.heap.size w w' := by
  obtain ⟨cb, S, hA, hp, hne, rfl, hi⟩ := h
  obtain ⟨co, So, hO, hpo, hneo, rfl, hio⟩ := k
  exact hmerge_room hA hO hr

/-! ### The example -/
end Go.Proofs.Ytmigjlceogofaaa
