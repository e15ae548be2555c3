/- Sorting a row of the call's own by slices.SortFunc, in the words of ownsRow and Keeps. Lemmas over any program. -/
import Derived.Test.YtaollcpoibgblaaDoorKitO
import Derived.Shelf.SlSortCmp.NoneTotal
namespace Go.Proofs.YtaollcpoibgblaaDoor
open Go.ChangeShapes Go.WideShapes Go.ChangeAt Go.RowKit Go.Shelf Go.Lib Go.Sort Go.Proofs
set_option linter.unusedVariables false
set_option linter.unusedSimpArgs false

/-- w' has come of W by draws and new blocks alone. -/
def Grew (W w' : World) : Prop := ∃ q os, w' = grow (W.drewN q) os
theorem Grew.refl (W : World) : Grew W W := ⟨0, #[], by rw [grow_empty]; rfl⟩
theorem Grew.trans {a b c : World} (h : Grew a b) (h' : Grew b c) : Grew a c := by
  obtain ⟨q, os, rfl⟩ := h
  obtain ⟨q', os', rfl⟩ := h'
  refine ⟨q + q', os ++ os', ?_⟩
  rw [← grow_grow]
  show grow (grow (a.drewN q |>.drewN q') os) os' = _
  congr 2
  simp [World.drewN, Nat.add_assoc]
theorem Grew.drew {a b : World} (h : Grew a b) : Grew a b.drew := h.trans ⟨1, #[], by rw [grow_empty]; rfl⟩
theorem Grew.drewN {a b : World} (h : Grew a b) (n : Nat) : Grew a (b.drewN n) := h.trans ⟨n, #[], by rw [grow_empty]⟩
theorem Grew.alloc {a b : World} (h : Grew a b) (o : Obj) : Grew a (b.alloc o) := h.trans ⟨0, #[o], by rw [alloc_eq_grow]; rfl⟩
theorem Grew.below {a b : World} (h : Grew a b) : Below a.heap.size a b := by
  obtain ⟨q, os, rfl⟩ := h
  exact ⟨rfl, rfl, rfl, by rw [size_grow]; show a.heap.size ≤ a.heap.size + _; omega, fun k hk => heap_grow_old _ _ hk⟩

section
variable {w : World} {base : Nat} {e : TypeId} {size n cap g : Nat} {xs ys : List Value}
theorem own_holds (h : w.ownsRow base e size (.slice (some ⟨g, 0, none⟩) n cap) n xs) : Holds id w g 0 xs.toArray ∧ g < w.heap.size := by
  obtain ⟨hl, h2⟩ := h
  rcases h2 with ⟨h0, _⟩ | ⟨g', cap', cur, hv, hb, hg, hnc, hcm, hcs, htk⟩
  · cases h0
  · injection hv with e1 e2 e3
    injection e1 with e1
    injection e1 with e1
    subst e1
    refine ⟨fun j hj => ?_, (Array.getElem?_eq_some_iff.1 hg).1⟩
    have hj' : j < xs.length := by simpa using hj
    have h1 : cur[j]? = some xs[j] := by
      have : (cur.toList.take (n * size))[j]? = some xs[j] := by rw [htk]; exact List.getElem?_eq_getElem hj'
      rw [List.getElem?_take] at this
      split at this
      · simpa using this
      · cases this
    refine ⟨?_, by simp [World.frozen?, hg]⟩
    simp only [World.cell?, hg, Nat.zero_add, h1]
    simp [hj']

theorem own_put (h : w.ownsRow base e size (.slice (some ⟨g, 0, none⟩) n cap) n xs) (hl : ys.length = xs.length) (m : Nat) (os : Array Obj) :
    (grow (putRow id (Sort.ahead w m) g 0 ys.toArray) os).ownsRow base e size (.slice (some ⟨g, 0, none⟩) n cap) n ys ∧ Keeps (fun k => k = g) w (grow (putRow id (Sort.ahead w m) g 0 ys.toArray) os) := by
  have hlt := (own_holds h).2
  obtain ⟨hll, h2⟩ := h
  rcases h2 with ⟨h0, _⟩ | ⟨g', cap', cur, hv, hb, hg, hnc, hcm, hcs, htk⟩
  · cases h0
  · injection hv with e1 e2 e3
    injection e1 with e1
    injection e1 with e1
    subst e1 e3
    constructor
    · refine ⟨by rw [hl, hll], .inr ⟨g, cap, putCells id 0 ys.toArray cur, rfl, hb, ?_, hnc, hcm, by simp [putCells, hcs], ?_⟩⟩
      · rw [heap_grow_old _ _ (by simpa using hlt)]
        show ((Sort.ahead w m).heap.modify g (onCells _))[g]? = _
        simp [Array.getElem?_modify, hg, onCells]
      · apply List.ext_getElem?
        intro j
        rw [List.getElem?_take]
        by_cases hj : j < n * size
        · have hjc : j < cur.size := by
            rw [hcs]
            exact Nat.lt_of_lt_of_le hj (Nat.mul_le_mul_right _ hnc)
          have hjy : j < ys.length := by rw [hl, hll]; exact hj
          rw [if_pos hj]
          simp [putCells, hjc, hjy]
        · rw [if_neg hj, List.getElem?_eq_none (by rw [hl, hll]; omega)]
    · refine ⟨rfl, rfl, rfl, by simp, fun k hk hne => ?_⟩
      rw [heap_grow_old _ _ (by simpa using hk)]
      show ((Sort.ahead w m).heap.modify g (onCells _))[k]? = _
      rw [Array.getElem?_modify, if_neg (Ne.symm hne)]
      rfl
end

section
variable {α : Type} [Inhabited α]
theorem flatK_eq (enc : α → List Value) (k : Nat) (hk : ∀ x, (enc x).length = k) (d : Array α) : flatK enc k d = (d.toList.flatMap enc).toArray := by
  have flen : ∀ l : List α, (l.flatMap enc).length = l.length * k := by
    intro l
    induction l with
    | nil => simp
    | cons a l ih => rw [List.flatMap_cons, List.length_append, ih, hk, List.length_cons, Nat.succ_mul]; omega
  have fget : ∀ (l : List α) (i r : Nat) (hi : i < l.length), r < k → (l.flatMap enc)[i * k + r]? = (enc l[i])[r]? := by
    intro l
    induction l with
    | nil => intro i r hi; simp at hi
    | cons a l ih =>
      intro i r hi hr
      rw [List.flatMap_cons]
      cases i with
      | zero => rw [List.getElem?_append_left (by rw [hk]; omega)]; simp
      | succ j =>
        rw [List.getElem?_append_right (by rw [hk, Nat.succ_mul]; omega)]
        have : (j + 1) * k + r - (enc a).length = j * k + r := by rw [hk, Nat.succ_mul]; omega
        rw [this, ih j r (by simpa using hi) hr]
        simp
  refine ext_get! (by rw [size_flatK]; simp [flen]) (fun t ht => ?_)
  rw [size_flatK] at ht
  rw [get_flatK enc k d t ht]
  have hk0 : 0 < k := by
    rcases Nat.eq_zero_or_pos k with h | h
    · subst h; simp at ht
    · exact h
  have hi : t / k < d.size := Nat.div_lt_of_lt_mul (by rw [Nat.mul_comm]; exact ht)
  have hr : t % k < k := Nat.mod_lt _ hk0
  have htt : t / k * k + t % k = t := by rw [Nat.mul_comm]; exact Nat.div_add_mod t k
  have h1 := fget d.toList (t / k) (t % k) (by simpa using hi) hr
  rw [htt] at h1
  have hin : t % k < (enc d[t / k]).length := by rw [hk]; exact hr
  rw [getElem!_pos d _ hi, getElem!_pos (enc d[t / k]) _ hin]
  have h2 : (d.toList.flatMap enc).toArray[t]? = some (enc d[t / k])[t % k] := by
    rw [List.getElem?_toArray, h1]
    simp [hin]
  obtain ⟨h3, h4⟩ := Array.getElem?_eq_some_iff.1 h2
  rw [getElem!_pos _ t h3, h4]

variable {P : Program} {ρ : Ren}
/-- slices.SortFunc of a row of structs. -/
theorem sortK (L : SlLaysF0.n6 P ρ) (k : Nat) (aE : ∀ w, (isAgg (ρ.t 24)).run P w = .ok true w) (zE : ∀ w, (Go.sizeOf (ρ.t 24)).run P w = .ok k w) (enc : α → List Value) (hk : ∀ x, (enc x).length = k) (h1 : ∀ x, ∀ v ∈ enc x, v.oneCell' = true)
    (cf : α → α → Int) (hO : SWO (ltOf cf)) (hT : ∀ x y, (ltOf cf) x y = false → (ltOf cf) y x = false → x = y) (gf : Nat) (cb : Array Value) (eg : ∀ args w, (callFunc gf args).run P w = .ok (.enter gf args) w)
    (base : Nat) (e : TypeId) (A : Option Addr) (n cap : Nat) (l : List α) (hn : l.length = n) (w : World) (hown : w.ownsRow base e k (.slice A n cap) n (l.flatMap enc))
    (hcmp : ∀ W x y, Keeps (fun j => (Value.slice A n cap).ownBlock = some j) w W → Calls P gf (#[.agg (enc x).toArray, .agg (enc y).toArray] ++ cb) W fun e w' => e = .returned (.int .i64 (cf x y)) ∧ Grew W w') (hsz : n < 4611686018427387904) :
    Calls P (ρ.f 6) #[.slice A n cap, .func (.func gf) #[] cb] w fun r w' => r = .returned (.tuple #[]) ∧ w'.ownsRow base e k (.slice A n cap) n ((l.mergeSort fun x y => !(ltOf cf) y x).flatMap enc) ∧ Keeps (fun j => (Value.slice A n cap).ownBlock = some j) w w' := by
  subst hn
  rcases l with _ | ⟨a, l'⟩
  · refine (AnyF.slices_SortFunc_none (P := P) (ρ := ρ) { L with } A cap (.func (.func gf) #[] cb) w).mono ?_
    rintro r w' ⟨rfl, rfl⟩
    exact ⟨rfl, by simpa using hown, Keeps.refl _ _⟩
  · generalize hll : a :: l' = l at *
    obtain ⟨g, cap', hv, hb, hlt⟩ := hown.form (by rw [← hll]; simp)
    injection hv with e1 e2 e3
    subst e1 e3
    obtain ⟨hH, hg⟩ := own_holds hown
    have hHK : HoldsK enc k w g 0 l.toArray := by
      unfold HoldsK
      rw [flatK_eq enc k hk]
      exact hH
    have hc : CmpLays P gf cb enc k cf g 0 l.toArray.size w := fun m os dk hs x y => by
      refine hcmp _ x y ?_
      unfold sortWorldK putRowK
      rw [flatK_eq enc k hk]
      refine ((own_put hown (ys := dk.toList.flatMap enc) ?_ m os).2).mono (fun j _ hj => by subst hj; rfl)
      have f := fun d : Array α => congrArg Array.size (flatK_eq enc k hk d)
      have f1 := f dk
      have f2 := f l.toArray
      rw [size_flatK] at f1 f2
      simp only [List.size_toArray] at f1 f2 hs
      rw [← f1, hs, f2]
    have hsz' : l.toArray.size = l.length := by simp
    have := AnyQ.slices_SortFunc_total L k aE zE enc hk h1 cf hO gf cb g 0 cap l.toArray w eg hc hHK hg (by rw [hsz']; exact hsz) hT
    rw [hsz'] at this
    refine this.mono ?_
    rintro r w' ⟨rfl, m, os, rfl⟩
    unfold sortWorldK putRowK
    rw [flatK_eq enc k hk]
    have hp : (l.mergeSort fun x y => !(ltOf cf) y x).Perm l := List.mergeSort_perm _ _
    have hle : ((l.mergeSort fun x y => !(ltOf cf) y x).flatMap enc).length = (l.flatMap enc).length := (hp.flatMap_right enc).length_eq
    obtain ⟨o1, o2⟩ := own_put hown hle m os
    exact ⟨rfl, o1, o2.mono (fun j _ hj => by subst hj; rfl)⟩

/-- slices.SortFunc of a row of elements of one cell. -/
theorem sort1 (L : SlLaysF.n6 P ρ) (enc : α → Value) (h1 : OneCell enc)
    (cf : α → α → Int) (hO : SWO (ltOf cf)) (hT : ∀ x y, (ltOf cf) x y = false → (ltOf cf) y x = false → x = y) (gf : Nat) (cb : Array Value) (eg : ∀ args w, (callFunc gf args).run P w = .ok (.enter gf args) w)
    (base : Nat) (e : TypeId) (A : Option Addr) (n cap : Nat) (l : List α) (hn : l.length = n) (w : World) (hown : w.ownsRow base e 1 (.slice A n cap) n (l.map enc))
    (hcmp : ∀ W x y, Keeps (fun j => (Value.slice A n cap).ownBlock = some j) w W → Calls P gf (#[enc x, enc y] ++ cb) W fun e w' => e = .returned (.int .i64 (cf x y)) ∧ Grew W w') (hsz : n < 4611686018427387904) :
    Calls P (ρ.f 6) #[.slice A n cap, .func (.func gf) #[] cb] w fun r w' => r = .returned (.tuple #[]) ∧ w'.ownsRow base e 1 (.slice A n cap) n ((l.mergeSort fun x y => !(ltOf cf) y x).map enc) ∧ Keeps (fun j => (Value.slice A n cap).ownBlock = some j) w w' := by
  subst hn
  rcases l with _ | ⟨a, l'⟩
  · refine (AnyF.slices_SortFunc_none (P := P) (ρ := ρ) { L with } A cap (.func (.func gf) #[] cb) w).mono ?_
    rintro r w' ⟨rfl, rfl⟩
    exact ⟨rfl, by simpa using hown, Keeps.refl _ _⟩
  · generalize hll : a :: l' = l at *
    obtain ⟨g, cap', hv, hb, hlt⟩ := hown.form (by rw [← hll]; simp)
    injection hv with e1 e2 e3
    subst e1 e3
    obtain ⟨hH, hg⟩ := own_holds hown
    have pr : ∀ (W : World) (d : Array α), putRow enc W g 0 d = putRow id W g 0 (d.toList.map enc).toArray := fun W d => by
      unfold putRow
      refine mapBlock_congr _ _ _ _ (fun c _ _ _ => ?_)
      unfold putCells
      apply Array.ext_getElem?
      intro j
      simp only [Array.getElem?_mapIdx]
      congr 1
      funext x
      by_cases hj : j < d.size
      · simp [hj]
      · simp [hj]
    have hHK : Holds enc w g 0 l.toArray := fun j hj => by
      have := hH j (by simpa using hj)
      have hj' : j < l.length := by simpa using hj
      simpa [hj'] using this
    have hc : CmpLays1 P gf cb enc cf g 0 l.toArray.size w := fun m os dk hs x y => by
      refine hcmp _ x y ?_
      unfold sortWorld
      rw [pr]
      refine ((own_put hown (ys := dk.toList.map enc) ?_ m os).2).mono (fun j _ hj => by subst hj; rfl)
      simp at hs ⊢
      exact hs
    have hsz' : l.toArray.size = l.length := by simp
    have := Any.slices_SortFunc_total L enc h1 cf hO gf cb g 0 cap l.toArray w eg hc hHK hg (by rw [hsz']; exact hsz) hT
    rw [hsz'] at this
    refine this.mono ?_
    rintro r w' ⟨rfl, m, os, rfl⟩
    unfold sortWorld
    rw [pr]
    have hp : (l.mergeSort fun x y => !(ltOf cf) y x).Perm l := List.mergeSort_perm _ _
    have hle : ((l.mergeSort fun x y => !(ltOf cf) y x).map enc).length = (l.map enc).length := (hp.map enc).length_eq
    obtain ⟨o1, o2⟩ := own_put hown hle m os
    exact ⟨rfl, o1, o2.mono (fun j _ hj => by subst hj; rfl)⟩
end
end Go.Proofs.YtaollcpoibgblaaDoor
