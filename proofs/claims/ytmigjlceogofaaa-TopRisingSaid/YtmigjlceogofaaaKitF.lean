/- slices.ContainsFunc in the words of Reads. Lemmas over any program. -/
import Derived.Test.YtmigjlceogofaaaKitZ
import Derived.Shelf.SlicesE.IndexFunc
namespace Go.Proofs.Ytmigjlceogofaaa
open Go.ChangeShapes Go.WideShapes Go.ChangeAt Go.RowKit Go.Shelf Go.Lib Go.Sort Go.Proofs
set_option linter.unusedVariables false
set_option linter.unusedSimpArgs false

section
variable {P : Program} {ρ : Ren}
theorem containsFunc_any {α : Type} [Inhabited α] (L : SlLaysH.n8 P ρ) (enc : α → Value) (p : α → Bool) (g : Nat) (lb : Array Value) (eg : ∀ args w, (callFunc g args).run P w = .ok (.enter g args) w) (A : Option Addr) (B c : Nat) (l : List α) (w : World)
    (hp : PredAt P g lb enc p w) (hr : Reads w B 1 A l.length (l.map enc)) (hl : l.length ≤ 9223372036854775807) :
    Calls P (ρ.f 8) #[.slice A l.length c, .func (.func g) #[] lb] w fun e w' => e = .returned (.bool (l.any p)) ∧ ∃ q, w' = w.drewN q := by
  cases l with
  | nil =>
    refine (AnyE.slices_ContainsFunc_empty L A c _ w).mono ?_
    rintro e w' ⟨rfl, rfl⟩
    exact ⟨rfl, 0, rfl⟩
  | cons a l' =>
    obtain ⟨b, o, rfl, _, hc⟩ := hr.2 (by simp)
    generalize hll : a :: l' = l at *
    refine (AnyE.slices_ContainsFunc L enc p g lb eg b o l.length c l w hp (Nat.le_refl _) hl ?_).mono ?_
    · intro j hj
      rw [getElem!_pos l j hj]
      exact hc j _ (by simp [hj])
    · rintro e w' ⟨rfl, q, rfl⟩
      rw [List.take_length]
      exact ⟨rfl, q, rfl⟩
end

/-- Texts that may be keys. -/
abbrev OkS := { s : ByteArray // s.size ≤ maxLen }
instance : Inhabited OkS := ⟨⟨ByteArray.empty, by decide⟩⟩
def okEnc (s : OkS) : Value := .string s.1
theorem okEnc_map (l : List ByteArray) (h : ∀ s ∈ l, s.size ≤ maxLen) : ∃ m : List OkS, m.map (·.1) = l := by
  induction l with
  | nil => exact ⟨[], rfl⟩
  | cons a l ih =>
    obtain ⟨m, rfl⟩ := ih (fun s hs => h s (by simp [hs]))
    exact ⟨⟨a, h a (by simp)⟩ :: m, rfl⟩
end Go.Proofs.Ytmigjlceogofaaa
