/- Sorting a row of structs by slices.SortFunc where some may be alike: a permutation that rises. A lemma over any program. -/
import Derived.Test.YtaollcpoibgblaaDoorKitQ
namespace Go.Proofs.YtaollcpoibgblaaDoor
open Go.ChangeShapes Go.WideShapes Go.ChangeAt Go.RowKit Go.Shelf Go.Lib Go.Sort Go.Proofs
set_option linter.unusedVariables false
set_option linter.unusedSimpArgs false
variable {α : Type} [Inhabited α] {P : Program} {ρ : Ren}
/-- slices.SortFunc of a row of structs. -/
theorem sortKp (L : SlLaysF0.n6 P ρ) (k : Nat) (aE : ∀ w, (isAgg (ρ.t 24)).run P w = .ok true w) (zE : ∀ w, (Go.sizeOf (ρ.t 24)).run P w = .ok k w) (enc : α → List Value) (hk : ∀ x, (enc x).length = k) (h1 : ∀ x, ∀ v ∈ enc x, v.oneCell' = true)
    (cf : α → α → Int) (hO : SWO (ltOf cf)) (gf : Nat) (cb : Array Value) (eg : ∀ args w, (callFunc gf args).run P w = .ok (.enter gf args) w)
    (base : Nat) (e : TypeId) (A : Option Addr) (n cap : Nat) (l : List α) (hn : l.length = n) (w : World) (hown : w.ownsRow base e k (.slice A n cap) n (l.flatMap enc))
    (hcmp : ∀ W x y, Keeps (fun j => (Value.slice A n cap).ownBlock = some j) w W → Calls P gf (#[.agg (enc x).toArray, .agg (enc y).toArray] ++ cb) W fun e w' => e = .returned (.int .i64 (cf x y)) ∧ Grew W w') (hsz : n < 4611686018427387904) :
    Calls P (ρ.f 6) #[.slice A n cap, .func (.func gf) #[] cb] w fun r w' => r = .returned (.tuple #[]) ∧ ∃ ms : List α, ms.Perm l ∧ ms.Pairwise (fun x y => ltOf cf y x = false) ∧ w'.ownsRow base e k (.slice A n cap) n (ms.flatMap enc) ∧ Keeps (fun j => (Value.slice A n cap).ownBlock = some j) w w' := by
  subst hn
  rcases l with _ | ⟨a, l'⟩
  · refine (AnyF.slices_SortFunc_none (P := P) (ρ := ρ) { L with } A cap (.func (.func gf) #[] cb) w).mono ?_
    rintro r w' ⟨rfl, rfl⟩
    exact ⟨rfl, [], List.Perm.refl _, List.Pairwise.nil, hown, Keeps.refl _ _⟩
  · generalize hll : a :: l' = l at *
    obtain ⟨g, cap', hv, hb, hlt⟩ := hown.form (by rw [← hll]; simp)
    injection hv with e1 e2 e3
    subst e1 e3
    obtain ⟨hH, hg⟩ := own_holds hown
    have hHK : HoldsK enc k w g 0 l.toArray := by
      unfold HoldsK
      rw [flatK_eq enc k hk]
      exact hH
    have hc : CmpLays P gf cb enc k cf g 0 l.toArray.size w := fun m os dk hs x y => by
      refine hcmp _ x y ?_
      unfold sortWorldK putRowK
      rw [flatK_eq enc k hk]
      refine ((own_put hown (ys := dk.toList.flatMap enc) ?_ m os).2).mono (fun j _ hj => by subst hj; rfl)
      have f := fun d : Array α => congrArg Array.size (flatK_eq enc k hk d)
      have f1 := f dk
      have f2 := f l.toArray
      rw [size_flatK] at f1 f2
      simp only [List.size_toArray] at f1 f2 hs
      rw [← f1, hs, f2]
    have hsz' : l.toArray.size = l.length := by simp
    have := AnyQ.slices_SortFunc L k aE zE enc hk h1 cf hO gf cb g 0 cap l.toArray w eg hc hHK hg (by rw [hsz']; exact hsz)
    rw [hsz'] at this
    refine this.mono ?_
    rintro r w' ⟨rfl, d', m, os, hP, hS, rfl⟩
    unfold sortWorldK putRowK
    rw [flatK_eq enc k hk]
    obtain ⟨p1, -, p2⟩ := hP
    have e1 : d'.extract 0 l.length = d' := by rw [← hsz', ← p1]; exact Array.extract_size
    have e2 : l.toArray.extract 0 l.length = l.toArray := by rw [← hsz']; exact Array.extract_size
    rw [e1, e2] at p2
    have hp : d'.toList.Perm l := by simpa using p2
    have hle : (d'.toList.flatMap enc).length = (l.flatMap enc).length := (hp.flatMap_right enc).length_eq
    obtain ⟨o1, o2⟩ := own_put hown hle m os
    refine ⟨rfl, d'.toList, hp, ?_, o1, o2.mono (fun j _ hj => by subst hj; rfl)⟩
    rw [List.pairwise_iff_getElem]
    intro i j hi hj hij
    have hi' : i < d'.size := by simpa using hi
    have hj' : j < d'.size := by simpa using hj
    have := hS i j (Nat.zero_le _) hij (by rw [p1, hsz'] at hj'; exact hj')
    rw [getElem!_pos d' j hj', getElem!_pos d' i hi'] at this
    simpa using this
end Go.Proofs.YtaollcpoibgblaaDoor
