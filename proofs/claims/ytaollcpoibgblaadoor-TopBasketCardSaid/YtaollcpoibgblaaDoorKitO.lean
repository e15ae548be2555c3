/- Objects in memory that lie apart: each has a footprint; what changes one leaves the others. Lemmas over any program. -/
import Derived.Test.YtaollcpoibgblaaDoorKitM
namespace Go.Proofs.YtaollcpoibgblaaDoor
open Go.ChangeShapes Go.WideShapes Go.ChangeAt Go.RowKit
set_option linter.unusedVariables false

/-- What stands in w on a footprint stands as long as that is kept. -/
structure Own1 (R : World → (Nat → Prop) → Prop) : Prop where
  keep : ∀ {w w' : World} {F G : Nat → Prop}, R w F → Keeps G w w' → (∀ k, F k → ¬ G k) → R w' F
  lt : ∀ {w : World} {F : Nat → Prop}, R w F → ∀ k, F k → k < w.heap.size

/-- w' has come of w by a change of F alone; F' is the new footprint. -/
structure Upd (F : Nat → Prop) (w : World) (F' : Nat → Prop) (w' : World) : Prop where
  keeps : Keeps F w w'
  foot : ∀ k, F' k → F k ∨ w.heap.size ≤ k

def Apart (F G : Nat → Prop) : Prop := ∀ k, F k → ¬ G k
theorem Apart.symm {F G : Nat → Prop} (h : Apart F G) : Apart G F := fun k hg hf => h k hf hg
def noF : Nat → Prop := fun _ => False

section
variable {F F' F'' G : Nat → Prop} {w w' w'' : World} {R : World → (Nat → Prop) → Prop}
theorem Upd.refl (F : Nat → Prop) (w : World) : Upd F w F w := ⟨Keeps.refl _ _, fun _ h => .inl h⟩
theorem Upd.trans (h : Upd F w F' w') (h' : Upd F' w' F'' w'') : Upd F w F'' w'' :=
  ⟨h.keeps.trans (h'.keeps.mono (G := fun k => F k ∨ w.heap.size ≤ k) (fun k _ hk => h.foot k hk)) (fun k hk hf => by rcases hf with hf | hf; exact hf; omega),
   fun k hk => by
    rcases h'.foot k hk with h1 | h1
    · exact h.foot k h1
    · have := h.keeps.size; exact .inr (by omega)⟩
theorem Upd.ofBelow (hb : Below w.heap.size w w') (hF : ∀ k, F k → w.heap.size ≤ k) : Upd noF w F w' := ⟨Keeps.ofBelow hb _, fun k hk => .inr (hF k hk)⟩
theorem Upd.stay (hb : Below w.heap.size w w') : Upd F w F w' := ⟨Keeps.ofBelow hb _, fun k hk => .inl hk⟩
theorem Upd.below (h : Upd F w F' w') (hF : ∀ k, F k → w.heap.size ≤ k) : Below w.heap.size w w' := h.keeps.toBelow (Nat.le_refl _) hF
theorem Upd.base {B : Nat} (h : Upd F w F' w') (hB : B ≤ w.heap.size) (hF : ∀ k, F k → B ≤ k) : ∀ k, F' k → B ≤ k := fun k hk => by
  rcases h.foot k hk with h1 | h1
  · exact hF k h1
  · omega
theorem Upd.belowB {B : Nat} {w0 : World} (h : Upd F w F' w') (hb : Below B w0 w) (hB : B ≤ w0.heap.size) (hF : ∀ k, F k → B ≤ k) : Below B w0 w' :=
  hb.trans (h.keeps.toBelow (Nat.le_trans hB hb.size) hF)
/-- The others stay. -/
theorem Own1.frame (hR : Own1 R) (hu : Upd F w F' w') (hs : R w G) (hd : Apart F G) : R w' G ∧ Apart F' G :=
  ⟨hR.keep hs hu.keeps (fun k hg hf => hd k hf hg), fun k hk hg => by
    rcases hu.foot k hk with h1 | h1
    · exact hd k h1 hg
    · have := hR.lt hs k hg; omega⟩
theorem Own1.below (hR : Own1 R) (hs : R w G) (hb : Below w.heap.size w w') : R w' G := hR.keep hs (Keeps.ofBelow hb noF) (fun _ _ h => h)
theorem Apart.no (F : Nat → Prop) : Apart noF F := fun _ h => h.elim
/-- A new object lies apart from what was there. -/
theorem Own1.apart_new (hR : Own1 R) (hs : R w G) (hF : ∀ k, F k → w.heap.size ≤ k) : Apart F G := fun k hf hg => by
  have := hF k hf
  have := hR.lt hs k hg
  omega
end
end Go.Proofs.YtaollcpoibgblaaDoor
