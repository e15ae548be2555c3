/- slices.Sort of a row of texts of the call's own. Lemmas over any program. -/
import Derived.Test.YtmigjlceogofaaaKitU
import Derived.Shelf.Sort.Plain
import Derived.Shelf.Slices.In.SortNone
namespace Go.Proofs.Ytmigjlceogofaaa
open Go.ChangeShapes Go.WideShapes Go.ChangeAt Go.RowKit Go.Shelf Go.Lib Go.Sort Go.Proofs
set_option linter.unusedVariables false
set_option linter.unusedSimpArgs false

theorem le_bytes (x y : List UInt8) : decide (x ≤ y) = !Op.bytesLess y x := by
  rw [bytesLess_eq]
  by_cases h : y < x
  · have : ¬ x ≤ y := fun h' => h' h
    simp [h, this]
  · have : x ≤ y := h
    simp [h, this]

section
variable {P : Program} {ρ : Ren}
theorem sortStr (L : Lays.n190 P ρ) (base : Nat) (e : TypeId) (A : Option Addr) (n cap : Nat) (l : List ByteArray) (hn : l.length = n) (w : World) (hown : w.ownsRow base e 1 (.slice A n cap) n (l.map Value.string)) (hsz : n < 4611686018427387904)
    (m : List ByteArray) (hm : l.Perm m) (hs : m.Pairwise (fun x y => sLt x y = true)) :
    Calls P (ρ.f 190) #[.slice A n cap] w fun r w' => r = .returned (.tuple #[]) ∧ w'.ownsRow base e 1 (.slice A n cap) n (m.map Value.string) ∧ Keeps (fun j => (Value.slice A n cap).ownBlock = some j) w w' := by
  subst hn
  rcases l with _ | ⟨a, l'⟩
  · have : m = [] := List.nil_perm.1 hm
    subst this
    refine (Any.slices_Sort_string_none (P := P) (ρ := ρ) L A cap w).mono ?_
    rintro r w' ⟨rfl, rfl⟩
    exact ⟨rfl, by simpa using hown, Keeps.refl _ _⟩
  · generalize hll : a :: l' = l at *
    obtain ⟨g, cap', hv, hb, hlt⟩ := hown.form (by rw [← hll]; simp)
    injection hv with e1 e2 e3
    subst e1 e3
    obtain ⟨hH, hg⟩ := own_holds hown
    have hHS : Holds encStr w g 0 (l.map (fun s : ByteArray => s.data.toList)).toArray := fun j hj => by
      have := hH j (by simpa using hj)
      have hj' : j < l.length := by simpa using hj
      simpa [hj', encStr] using this
    have q := Any.slices_Sort_string (P := P) (ρ := ρ) L g 0 cap (l.map (fun s : ByteArray => s.data.toList)) w hHS hg (by simpa using hsz)
    rw [List.length_map] at q
    refine q.mono ?_
    rintro r w' ⟨rfl, m', os, rfl⟩
    have hms : (l.map (fun s : ByteArray => s.data.toList)).mergeSort (fun x y => decide (x ≤ y)) = m.map (fun s : ByteArray => s.data.toList) := by
      have e1 : (fun x y : List UInt8 => decide (x ≤ y)) = fun x y => !Op.bytesLess y x := by funext x y; exact le_bytes x y
      rw [e1]
      refine mergeSort_is (lt := Op.bytesLess) bl_irrefl bl_trans bl_total (hm.map _) ?_
      rw [List.pairwise_map]
      exact hs.imp (fun {x y} h => by unfold sLt at h; rw [toList_data, toList_data] at h; exact h)
    rw [hms]
    have pr : putRow encStr (Sort.ahead w m') g 0 (m.map (fun s : ByteArray => s.data.toList)).toArray = putRow id (Sort.ahead w m') g 0 (m.map Value.string).toArray := by
      unfold putRow
      refine mapBlock_congr _ _ _ _ (fun c _ _ _ => ?_)
      unfold putCells
      apply Array.ext_getElem?
      intro j
      simp only [Array.getElem?_mapIdx]
      congr 1
      funext x
      by_cases hj : j < m.length
      · simp [hj, encStr]
      · simp [hj]
    rw [pr]
    obtain ⟨o1, o2⟩ := own_put hown (ys := m.map Value.string) (by simp [hm.length_eq]) m' os
    exact ⟨rfl, o1, o2.mono (fun j _ hj => by subst hj; rfl)⟩
end
end Go.Proofs.Ytmigjlceogofaaa
