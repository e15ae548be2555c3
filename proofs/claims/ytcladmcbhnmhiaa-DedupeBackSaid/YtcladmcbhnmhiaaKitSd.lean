/- slices.Sort of texts some of which may be one. Lemmas over any program. -/
import Derived.Test.YtcladmcbhnmhiaaKitG
import Derived.Test.YtcladmcbhnmhiaaKitQ
import Derived.Test.YtcladmcbhnmhiaaKitI
import Derived.Shelf.Slices.Cells
namespace Go.Proofs.Ytcladmcbhnmhiaa
open Go.ChangeShapes Go.WideShapes Go.ChangeAt Go.RowKit Go.Shelf Go.Lib Go.Sort Go.Proofs
set_option linter.unusedVariables false
set_option linter.unusedSimpArgs false

theorem sLt_bytes (x y : ByteArray) : sLt x y = Op.bytesLess x.data.toList y.data.toList := by unfold sLt; rw [toList_data, toList_data]
theorem bl_tot_or (x y : List UInt8) : (!Op.bytesLess y x) = true ∨ (!Op.bytesLess x y) = true := by
  by_cases h : Op.bytesLess y x = true
  · right
    by_cases h2 : Op.bytesLess x y = true
    · have := bl_trans _ _ _ h h2
      rw [bl_irrefl] at this
      cases this
    · simpa using h2
  · left; simpa using h

/-- slices.Sort of texts some of which may be one. -/
theorem sortStrD {P : Program} {ρ : Ren} (L : Lays.n190 P ρ) (base : Nat) (e : TypeId) (A : Option Addr) (cap : Nat) (l : List ByteArray) (w : World) (hown : w.ownsRow base e 1 (.slice A l.length cap) l.length (l.map Value.string)) (hsz : l.length < 4611686018427387904) :
    Calls P (ρ.f 190) #[.slice A l.length cap] w fun r w' => r = .returned (.tuple #[]) ∧ ∃ m : List ByteArray, l.Perm m ∧ m.Pairwise (fun x y => sLt y x = false) ∧ w'.ownsRow base e 1 (.slice A l.length cap) l.length (m.map Value.string) ∧ Keeps (fun j => (Value.slice A l.length cap).ownBlock = some j) w w' := by
  rcases l with _ | ⟨a, l'⟩
  · refine (Any.slices_Sort_string_none (P := P) (ρ := ρ) L A cap w).mono ?_
    rintro r w' ⟨rfl, rfl⟩
    exact ⟨rfl, [], List.Perm.refl _, List.Pairwise.nil, by simpa using hown, Keeps.refl _ _⟩
  · generalize hll : a :: l' = l at *
    obtain ⟨g, cap', hv, hb, hlt⟩ := hown.form (by rw [← hll]; simp)
    injection hv with e1 e2 e3
    subst e1 e3
    obtain ⟨hH, hg⟩ := own_holds hown
    have hHS : Holds encStr w g 0 (l.map (fun s : ByteArray => s.data.toList)).toArray := fun j hj => by
      have := hH j (by simpa using hj)
      have hj' : j < l.length := by simpa using hj
      simpa [hj', encStr] using this
    have q := Any.slices_Sort_string (P := P) (ρ := ρ) L g 0 cap (l.map (fun s : ByteArray => s.data.toList)) w hHS hg (by simpa using hsz)
    rw [List.length_map] at q
    refine q.mono ?_
    rintro r w' ⟨rfl, m', os, rfl⟩
    have e1 : (fun x y : List UInt8 => decide (x ≤ y)) = fun x y => !Op.bytesLess y x := by funext x y; exact le_bytes x y
    rw [e1]
    obtain ⟨ms, hms⟩ : ∃ ms, ms = (l.map (fun s : ByteArray => s.data.toList)).mergeSort (fun x y => !Op.bytesLess y x) := ⟨_, rfl⟩
    have hperm : ms.Perm (l.map (fun s : ByteArray => s.data.toList)) := by rw [hms]; exact List.mergeSort_perm _ _
    have hsort : ms.Pairwise (fun x y => (!Op.bytesLess y x) = true) := by
      rw [hms]
      refine List.pairwise_mergeSort (fun x y z h1 h2 => ?_) (fun x y => by have := bl_tot_or x y; simpa using this) _
      simp only [Bool.not_eq_true'] at *
      exact ntrans_of bl_trans bl_total z y x h2 h1
    rw [← hms]
    have hback : (ms.map mkS).map (fun s : ByteArray => s.data.toList) = ms := by
      rw [List.map_map]
      refine (List.map_congr_left (fun x _ => ?_)).trans (List.map_id _)
      rfl
    clear hms e1
    generalize hm : ms.map mkS = m at *
    have hpm : l.Perm m := by
      rw [← hm]
      have := (hperm.map mkS).symm
      rw [List.map_map] at this
      have e : l.map (mkS ∘ fun s : ByteArray => s.data.toList) = l := (List.map_congr_left (fun x _ => rfl)).trans (List.map_id _)
      rwa [e] at this
    have hso : m.Pairwise (fun x y => sLt y x = false) := by
      rw [← hm, List.pairwise_map]
      refine hsort.imp (fun {x y} h => ?_)
      rw [sLt_bytes]
      show Op.bytesLess y x = false
      simpa using h
    rw [← hback]
    have pr : putRow encStr (Sort.ahead w m') g 0 (m.map (fun s : ByteArray => s.data.toList)).toArray = putRow id (Sort.ahead w m') g 0 (m.map Value.string).toArray := by
      unfold putRow
      refine mapBlock_congr _ _ _ _ (fun c _ _ _ => ?_)
      unfold putCells
      apply Array.ext_getElem?
      intro j
      simp only [Array.getElem?_mapIdx]
      congr 1
      funext x
      by_cases hj : j < m.length
      · simp [hj, encStr]
      · simp [hj]
    rw [pr]
    obtain ⟨o1, o2⟩ := own_put hown (ys := m.map Value.string) (by simp [hpm.length_eq]) m' os
    exact ⟨rfl, m, hpm, hso, o1, o2.mono (fun j _ hj => by subst hj; rfl)⟩
end Go.Proofs.Ytcladmcbhnmhiaa
