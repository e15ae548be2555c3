/- Merge of pairs as objects: of another one that lies apart, of itself. -/
import Derived.Test.YtbmkejiijkbmlaaPrS
namespace Go.Proofs.Ytbmkejiijkbmlaa
open Go.ChangeShapes Go.WideShapes Go.ChangeAt Go.RowKit Go.Shelf Go.Lib Go.Sort Go.Proofs
set_option linter.unusedVariables false
set_option linter.unusedSimpArgs false

/-- Pairs whose table may be another one's too. -/
def PairX (w : World) (ob : Nat) (F : Nat → Prop) (M : List (List ByteArray)) : Prop := ∃ tq sh Gq, PAt w ob tq sh ∧ TabObj w tq Gq (cnt1 M) (pairF M) ∧ ¬ Gq ob ∧ F = fun k => k = ob ∨ Gq k
theorem PairX.rd {w : World} {ob : Nat} {F : Nat → Prop} {M : List (List ByteArray)} (h : PairX w ob F M) : PRd w ob F M := by
  obtain ⟨tq, sh, Gq, h1, h2, h3, h4⟩ := h
  exact ⟨tq, sh, Gq, h1, h2, h4⟩
theorem PairX.own (ob : Nat) (M : List (List ByteArray)) : Own1 (fun w F => PairX w ob F M) where
  keep := fun h hk hG => by
    obtain ⟨tq, sh, Gq, h1, h2, h3, rfl⟩ := h
    exact ⟨tq, sh, Gq, h1.keep hk (hG _ (.inl rfl)), (TabObj.own _ _ _).keep h2 hk (fun k hk' => hG k (.inr hk')), h3, rfl⟩
  lt := fun h => (PRd.own ob M).lt h.rd

def MergeNew (w : World) (pb ob : Nat) (F G : Nat → Prop) (L M : List (List ByteArray)) (e : Ending) (w' : World) : Prop :=
  e = .returned (.tuple #[]) ∧ ∃ F' G', PRd w' pb F' (L ++ M) ∧ PairX w' ob G' M ∧ (∀ k, F' k → F k ∨ G k ∨ w.heap.size ≤ k) ∧ (∀ k, G' k → F k ∨ G k ∨ w.heap.size ≤ k) ∧ Keeps (fun k => F k ∨ G k) w w'

theorem merge_pq (pb ob : Nat) (F G : Nat → Prop) (L M : List (List ByteArray)) (w : World) (h : PairO w pb F L) (ho : PairO w ob G M) (hap : Apart G F) (hL : (L.length : Int) ≤ 1000) (hM : (M.length : Int) ≤ 1000) :
    Calls Try.prog 16 #[.pointer (some ⟨pb, 0, none⟩), .pointer (some ⟨ob, 0, none⟩)] w (MergeNew w pb ob F G L M) := by
  obtain ⟨tt, F0, hp, ht, hpF, rfl⟩ := h
  obtain ⟨ft, GF, hq, hf, hqG, rfl⟩ := ho
  have hne : pb ≠ ob := fun e => hap ob (.inl rfl) (.inl e.symm)
  have hpG : ¬ GF pb := fun hg => hap pb (.inr hg) (.inl rfl)
  have hoF : ¬ F0 ob := fun hg => hap ob (.inl rfl) (.inr hg)
  by_cases hz : ∀ a, cnt1 L a = 0
  · refine (merge_empty pb tt false F0 _ _ ob ft false w hp ht hz hq hne).mono ?_
    rintro e w' ⟨rfl, h1, h2, hk⟩
    have hft : TabObj w' ft GF (cnt1 M) (pairF M) := (TabObj.own _ _ _).keep hf hk (fun k hg e => by
      rcases e with rfl | rfl
      · exact hpG hg
      · exact hqG hg)
    obtain ⟨z1, z2⟩ := none_of_one hz
    have e1 : cnt1 (L ++ M) = cnt1 M := by rw [cnt1_app, z1]; funext a; simp
    have e2 : pairF (L ++ M) = pairF M := by rw [pairF_app, z2]; funext a b; simp
    refine ⟨rfl, _, _, ⟨ft, true, GF, h1, by rw [e1, e2]; exact hft, rfl⟩, ⟨ft, true, GF, h2, hft, hqG, rfl⟩, ?_, ?_, hk.mono ?_⟩
    · rintro k (rfl | hg)
      · exact .inl (.inl rfl)
      · exact .inr (.inl (.inr hg))
    · rintro k (rfl | hg)
      · exact .inr (.inl (.inl rfl))
      · exact .inr (.inl (.inr hg))
    · rintro k - (rfl | rfl)
      · exact .inl (.inl rfl)
      · exact .inr (.inl rfl)
  · have hs : ∃ a, cnt1 L a ≠ 0 := Classical.not_forall.1 hz
    refine (merge_apart pb tt F0 _ _ ob ft false GF _ _ w hp ht hq hf (fun k hg hf' => hap k (.inr hg) (.inr hf')) hne hpF hs (fun a => by have := cnt1_le L a; have := cnt1_le M a; omega) (fun a b => by have := pairF_le L a b; have := pairF_le M a b; omega)).mono ?_
    rintro e w' ⟨rfl, F', hto, hu⟩
    refine ⟨rfl, _, _, ⟨tt, false, F', hp.keep hu.keeps hpF, by rw [cnt1_app, pairF_app]; exact hto, rfl⟩, ⟨ft, false, GF, hq.keep hu.keeps hoF, (TabObj.own _ _ _).keep hf hu.keeps (fun k hg hf' => hap k (.inr hg) (.inr hf')), hqG, rfl⟩, ?_, ?_, hu.keeps.mono (fun k _ hf' => .inl (.inr hf'))⟩
    · rintro k (rfl | hg)
      · exact .inl (.inl rfl)
      · rcases hu.foot k hg with h1 | h1
        · exact .inl (.inr h1)
        · exact .inr (.inr h1)
    · rintro k hg
      exact .inr (.inl hg)

theorem merge_qq (ob : Nat) (F : Nat → Prop) (M : List (List ByteArray)) (w : World) (h : PairX w ob F M) (hM : (M.length : Int) ≤ 1000) :
    Calls Try.prog 16 #[.pointer (some ⟨ob, 0, none⟩), .pointer (some ⟨ob, 0, none⟩)] w fun e w' => e = .returned (.tuple #[]) ∧ (∃ F', PRd w' ob F' (M ++ M)) ∧ Keeps F w w' := by
  obtain ⟨tq, sh, Gq, hp, ht, hn, rfl⟩ := h
  by_cases hz : ∀ a, cnt1 M a = 0
  · refine (merge_empty_self ob tq sh Gq _ _ w hp ht hz).mono ?_
    rintro e w' ⟨rfl, h1, hk⟩
    obtain ⟨z1, z2⟩ := none_of_one hz
    have e1 : cnt1 (M ++ M) = cnt1 M := by rw [cnt1_app, z1]; funext a; simp
    have e2 : pairF (M ++ M) = pairF M := by rw [pairF_app, z2]; funext a b; simp
    exact ⟨rfl, ⟨_, tq, true, Gq, h1, by rw [e1, e2]; exact (TabObj.own _ _ _).keep ht hk (fun k hg e => hn (e ▸ hg)), rfl⟩, hk.mono (fun k _ e => .inl e)⟩
  · have hs : ∃ a, cnt1 M a ≠ 0 := Classical.not_forall.1 hz
    refine (merge_self ob tq sh Gq _ _ w hp ht hn hs (fun a => by have := cnt1_le M a; omega) (fun a b => by have := pairF_le M a b; omega)).mono ?_
    rintro e w' ⟨rfl, tt, F', h1, h2, hk⟩
    exact ⟨rfl, ⟨_, tt, false, F', h1, by rw [cnt1_app, pairF_app]; exact h2, rfl⟩, hk⟩
end Go.Proofs.Ytbmkejiijkbmlaa
