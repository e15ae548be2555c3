/- Several heavies and references of heavies in memory, apart from one another. -/
import Derived.Test.YtpjaolablkcpmaaHvU
import Derived.Test.YtpjaolablkcpmaaHvV
namespace Go.Proofs.Ytpjaolablkcpmaa
open Go.ChangeShapes Go.WideShapes Go.ChangeAt Go.RowKit Go.Shelf Go.Lib Go.Sort Go.Proofs
set_option linter.unusedVariables false
set_option linter.unusedSimpArgs false

def ObK (b : Bool) (w : World) (p : Nat) (F : Nat → Prop) (s : HvS) : Prop := if b = true then HvO w p F s else RfO w p F s
theorem ObK.own (b : Bool) (p : Nat) (s : HvS) : Own1 (fun w F => ObK b w p F s) := by
  cases b
  · exact RfO.own p s
  · exact HvO.own p s
structure Obs (w0 w : World) (B : Nat) (os : List (Bool × Nat × HvS)) (F : Nat → Nat → Prop) : Prop where
  hB : B ≤ w0.heap.size
  ob : ∀ i o, os[i]? = some o → ObK o.1 w o.2.1 (F i) o.2.2
  ap : ∀ i j, i ≠ j → i < os.length → j < os.length → Apart (F i) (F j)
  lo : ∀ i, i < os.length → ∀ k, F i k → B ≤ k
  bl : Below B w0 w
section
variable {w0 w w' : World} {B : Nat} {os : List (Bool × Nat × HvS)} {F : Nat → Nat → Prop}
theorem Obs.nil (hB : B ≤ w0.heap.size) (h : Below B w0 w) : Obs w0 w B [] (fun _ _ => False) := ⟨hB, by simp, by simp, by simp, h⟩
theorem Obs.below (h : Obs w0 w B os F) (hb : Below w.heap.size w w') : Obs w0 w' B os F :=
  ⟨h.hB, fun i o hi => (ObK.own _ _ _).below (h.ob i o hi) hb, h.ap, h.lo, h.bl.trans (hb.mono (Nat.le_trans h.hB h.bl.size))⟩
theorem Obs.get (h : Obs w0 w B os F) {i : Nat} {b : Bool} {p : Nat} {s : HvS} (hi : os[i]? = some (b, p, s)) : ObK b w p (F i) s := h.ob i _ hi
theorem Obs.upd (h : Obs w0 w B os F) {i : Nat} {b : Bool} {p : Nat} {s s' : HvS} {F' : Nat → Prop} (hi : os[i]? = some (b, p, s)) (hu : Upd (F i) w F' w') (ho : ObK b w' p F' s') : ∃ G, Obs w0 w' B (os.set i (b, p, s')) G := by
  have hil : i < os.length := (List.getElem?_eq_some_iff.1 hi).1
  have hlt : ∀ j, j < os.length → ∀ k, F j k → k < w.heap.size := fun j hj k hk => by
    have := h.ob j _ (List.getElem?_eq_getElem hj)
    exact (ObK.own _ _ _).lt this k hk
  refine ⟨fun j => if j = i then F' else F j, h.hB, fun j o hj => ?_, fun j k hjk hj hk => ?_, fun j hj k hk => ?_, ?_⟩
  · rw [List.getElem?_set] at hj
    by_cases e : i = j
    · subst e
      rw [if_pos rfl, if_pos hil] at hj
      injection hj with hj
      subst hj
      simp only [if_true]
      exact ho
    · rw [if_neg e] at hj
      simp only [if_neg (Ne.symm e)]
      exact (ObK.own _ _ _).keep (h.ob j o hj) hu.keeps (fun k hk hf => h.ap i j e hil (List.getElem?_eq_some_iff.1 hj).1 k hf hk)
  · rw [List.length_set] at hj hk
    intro x hx hy
    try simp only at hx hy
    by_cases e : j = i
    · rw [if_pos e] at hx
      have e2 : ¬ k = i := fun e2 => hjk (e.trans e2.symm)
      rw [if_neg e2] at hy
      rcases hu.foot x hx with h1 | h1
      · exact h.ap i k (Ne.symm e2) hil hk x h1 hy
      · have := hlt k hk x hy; omega
    · rw [if_neg e] at hx
      by_cases e2 : k = i
      · rw [if_pos e2] at hy
        rcases hu.foot x hy with h1 | h1
        · exact h.ap i j (Ne.symm e) hil hj x h1 hx
        · have := hlt j hj x hx; omega
      · rw [if_neg e2] at hy
        exact h.ap j k hjk hj hk x hx hy
  · rw [List.length_set] at hj
    try simp only at hk
    by_cases e : j = i
    · rw [if_pos e] at hk
      rcases hu.foot k hk with h1 | h1
      · exact h.lo i hil k h1
      · have := h.bl.size; have := h.hB; omega
    · rw [if_neg e] at hk
      exact h.lo j hj k hk
  · exact hu.belowB h.bl h.hB (h.lo i hil)
theorem Obs.add (h : Obs w0 w B os F) {b : Bool} {p : Nat} {s : HvS} {F' : Nat → Prop} (ho : ObK b w p F' s) (hn : ∀ j, j < os.length → Apart (F j) F') (hlo : ∀ k, F' k → B ≤ k) : ∃ G, Obs w0 w B (os ++ [(b, p, s)]) G := by
  refine ⟨fun j => if j = os.length then F' else F j, h.hB, fun j o hj => ?_, fun j k hjk hj hk => ?_, fun j hj k hk => ?_, h.bl⟩
  · have hjl := (List.getElem?_eq_some_iff.1 hj).1
    rw [List.length_append] at hjl
    simp at hjl
    by_cases e : j = os.length
    · subst e
      rw [List.getElem?_append_right (Nat.le_refl _)] at hj
      simp at hj
      subst hj
      simp only [if_true]
      exact ho
    · rw [List.getElem?_append_left (by omega)] at hj
      simp only [if_neg e]
      exact h.ob j o hj
  · rw [List.length_append] at hj hk
    simp at hj hk
    intro x hx hy
    try simp only at hx hy
    by_cases e : j = os.length
    · rw [if_pos e] at hx
      have e2 : ¬ k = os.length := fun e2 => hjk (e.trans e2.symm)
      rw [if_neg e2] at hy
      exact hn k (by omega) x hy hx
    · rw [if_neg e] at hx
      by_cases e2 : k = os.length
      · rw [if_pos e2] at hy
        exact hn j (by omega) x hx hy
      · rw [if_neg e2] at hy
        exact h.ap j k hjk (by omega) (by omega) x hx hy
  · rw [List.length_append] at hj
    simp at hj
    try simp only at hk
    by_cases e : j = os.length
    · rw [if_pos e] at hk
      exact hlo k hk
    · rw [if_neg e] at hk
      exact h.lo j (by omega) k hk
/-- A new one. -/
theorem Obs.new (h : Obs w0 w B os F) {b : Bool} {p : Nat} {s : HvS} {F' : Nat → Prop} (hb : Below w.heap.size w w') (ho : ObK b w' p F' s) (hn : ∀ k, F' k → w.heap.size ≤ k) : ∃ G, Obs w0 w' B (os ++ [(b, p, s)]) G := by
  refine (h.below hb).add ho (fun j hj k hk hk' => ?_) (fun k hk => Nat.le_trans (Nat.le_trans h.hB h.bl.size) (hn k hk))
  have h1 := (ObK.own _ _ _).lt (h.ob j _ (List.getElem?_eq_getElem hj)) k hk
  have h2 := hn k hk'
  omega
/-- Two new ones, apart. -/
theorem Obs.new2 (h : Obs w0 w B os F) {p q : Nat} {s t : HvS} {F' G' : Nat → Prop} (hb : Below w.heap.size w w') (ho : HvO w' p F' s) (hr : RfO w' q G' t) (hap : Apart F' G') (hn : ∀ k, F' k → w.heap.size ≤ k) (hm : ∀ k, G' k → w.heap.size ≤ k) : ∃ G, Obs w0 w' B (os ++ [(true, p, s), (false, q, t)]) G := by
  have hold : ∀ j, j < os.length → ∀ k, F j k → k < w.heap.size := fun j hj k hk => (ObK.own _ _ _).lt (h.ob j _ (List.getElem?_eq_getElem hj)) k hk
  have hBw := Nat.le_trans h.hB h.bl.size
  refine ⟨fun j => if j = os.length then F' else if j = os.length + 1 then G' else F j, h.hB, fun j o hj => ?_, fun j k hjk hj hk => ?_, fun j hj k hk => ?_, (h.below hb).bl⟩
  · have hjl := (List.getElem?_eq_some_iff.1 hj).1
    rw [List.length_append] at hjl
    simp at hjl
    by_cases e : j = os.length
    · subst e
      rw [List.getElem?_append_right (Nat.le_refl _)] at hj
      simp at hj
      subst hj
      simp only [if_true]
      exact ho
    · by_cases e1 : j = os.length + 1
      · subst e1
        rw [List.getElem?_append_right (by omega)] at hj
        simp at hj
        subst hj
        simp only [if_neg e, if_true]
        exact hr
      · rw [List.getElem?_append_left (by omega)] at hj
        simp only [if_neg e, if_neg e1]
        exact (h.below hb).ob j o hj
  · rw [List.length_append] at hj hk
    simp at hj hk
    intro x hx hy
    try simp only at hx hy
    by_cases e : j = os.length <;> by_cases e1 : j = os.length + 1 <;> by_cases e2 : k = os.length <;> by_cases e3 : k = os.length + 1 <;> simp only [e, e1, e2, e3, if_true, if_false] at hx hy <;> first
      | omega
      | ((try simp at hx hy); first | omega | exact hap x hx hy | exact hap x hy hx | (have := hold k (by omega) x hy; have := hn x hx; omega) | (have := hold k (by omega) x hy; have := hm x hx; omega) | (have := hold j (by omega) x hx; have := hn x hy; omega) | (have := hold j (by omega) x hx; have := hm x hy; omega) | exact h.ap j k hjk (by omega) (by omega) x hx hy)
  · rw [List.length_append] at hj
    simp at hj
    try simp only at hk
    by_cases e : j = os.length
    · rw [if_pos e] at hk
      exact Nat.le_trans hBw (hn k hk)
    · rw [if_neg e] at hk
      by_cases e1 : j = os.length + 1
      · rw [if_pos e1] at hk
        exact Nat.le_trans hBw (hm k hk)
      · rw [if_neg e1] at hk
        exact h.lo j (by omega) k hk
end
end Go.Proofs.Ytpjaolablkcpmaa
