/- Several objects of any kinds in memory, apart from one another. Lemmas over any program. -/
import Derived.Test.YthbijemihaekiaaGreatDoorKitO
namespace Go.Proofs.YthbijemihaekiaaGreatDoor
open Go.ChangeShapes Go.WideShapes Go.ChangeAt Go.RowKit
set_option linter.unusedVariables false

/-- A kind of object, in a state. -/
structure Ob1 where
  R : World → (Nat → Prop) → Prop
  own : Own1 R
structure Objs (w0 w : World) (B : Nat) (os : List Ob1) (F : Nat → Nat → Prop) : Prop where
  hB : B ≤ w0.heap.size
  ob : ∀ (i : Nat) (o : Ob1), os[i]? = some o → o.R w (F i)
  ap : ∀ i j, i ≠ j → i < os.length → j < os.length → Apart (F i) (F j)
  lo : ∀ i, i < os.length → ∀ k, F i k → B ≤ k
  bl : Below B w0 w
section
variable {w0 w w' : World} {B : Nat} {os : List Ob1} {F : Nat → Nat → Prop}
theorem Objs.nil (hB : B ≤ w0.heap.size) (h : Below B w0 w) : Objs w0 w B [] (fun _ _ => False) := ⟨hB, by simp, by simp, by simp, h⟩
theorem Objs.below (h : Objs w0 w B os F) (hb : Below w.heap.size w w') : Objs w0 w' B os F :=
  ⟨h.hB, fun i o hi => o.own.below (h.ob i o hi) hb, h.ap, h.lo, h.bl.trans (hb.mono (Nat.le_trans h.hB h.bl.size))⟩
theorem Objs.get (h : Objs w0 w B os F) {i : Nat} {o : Ob1} (hi : os[i]? = some o) : o.R w (F i) := h.ob i _ hi
theorem Objs.upd (h : Objs w0 w B os F) {i : Nat} {o : Ob1} (o' : Ob1) {F' : Nat → Prop} (hi : os[i]? = some o) (hu : Upd (F i) w F' w') (ho : o'.R w' F') : ∃ G, Objs w0 w' B (os.set i o') G := by
  have hil : i < os.length := (List.getElem?_eq_some_iff.1 hi).1
  have hlt : ∀ j, j < os.length → ∀ k, F j k → k < w.heap.size := fun j hj k hk => by
    have := h.ob j _ (List.getElem?_eq_getElem hj)
    exact (os[j]).own.lt this k hk
  refine ⟨fun j => if j = i then F' else F j, h.hB, fun j o hj => ?_, fun j k hjk hj hk => ?_, fun j hj k hk => ?_, ?_⟩
  · rw [List.getElem?_set] at hj
    by_cases e : i = j
    · subst e
      rw [if_pos rfl, if_pos hil] at hj
      injection hj with hj
      subst hj
      simp only [if_true]
      exact ho
    · rw [if_neg e] at hj
      simp only [if_neg (Ne.symm e)]
      exact o.own.keep (h.ob j o hj) hu.keeps (fun k hk hf => h.ap i j e hil (List.getElem?_eq_some_iff.1 hj).1 k hf hk)
  · rw [List.length_set] at hj hk
    intro x hx hy
    try simp only at hx hy
    by_cases e : j = i
    · rw [if_pos e] at hx
      have e2 : ¬ k = i := fun e2 => hjk (e.trans e2.symm)
      rw [if_neg e2] at hy
      rcases hu.foot x hx with h1 | h1
      · exact h.ap i k (Ne.symm e2) hil hk x h1 hy
      · have := hlt k hk x hy; omega
    · rw [if_neg e] at hx
      by_cases e2 : k = i
      · rw [if_pos e2] at hy
        rcases hu.foot x hy with h1 | h1
        · exact h.ap i j (Ne.symm e) hil hj x h1 hx
        · have := hlt j hj x hx; omega
      · rw [if_neg e2] at hy
        exact h.ap j k hjk hj hk x hx hy
  · rw [List.length_set] at hj
    try simp only at hk
    by_cases e : j = i
    · rw [if_pos e] at hk
      rcases hu.foot k hk with h1 | h1
      · exact h.lo i hil k h1
      · have := h.bl.size; have := h.hB; omega
    · rw [if_neg e] at hk
      exact h.lo j hj k hk
  · exact hu.belowB h.bl h.hB (h.lo i hil)
theorem Objs.add (h : Objs w0 w B os F) (o' : Ob1) {F' : Nat → Prop} (ho : o'.R w F') (hn : ∀ j, j < os.length → Apart (F j) F') (hlo : ∀ k, F' k → B ≤ k) : ∃ G, Objs w0 w B (os ++ [o']) G := by
  refine ⟨fun j => if j = os.length then F' else F j, h.hB, fun j o hj => ?_, fun j k hjk hj hk => ?_, fun j hj k hk => ?_, h.bl⟩
  · have hjl := (List.getElem?_eq_some_iff.1 hj).1
    rw [List.length_append] at hjl
    simp at hjl
    by_cases e : j = os.length
    · subst e
      rw [List.getElem?_append_right (Nat.le_refl _)] at hj
      simp at hj
      subst hj
      simp only [if_true]
      exact ho
    · rw [List.getElem?_append_left (by omega)] at hj
      simp only [if_neg e]
      exact h.ob j o hj
  · rw [List.length_append] at hj hk
    simp at hj hk
    intro x hx hy
    try simp only at hx hy
    by_cases e : j = os.length
    · rw [if_pos e] at hx
      have e2 : ¬ k = os.length := fun e2 => hjk (e.trans e2.symm)
      rw [if_neg e2] at hy
      exact hn k (by omega) x hy hx
    · rw [if_neg e] at hx
      by_cases e2 : k = os.length
      · rw [if_pos e2] at hy
        exact hn j (by omega) x hx hy
      · rw [if_neg e2] at hy
        exact h.ap j k hjk (by omega) (by omega) x hx hy
  · rw [List.length_append] at hj
    simp at hj
    try simp only at hk
    by_cases e : j = os.length
    · rw [if_pos e] at hk
      exact hlo k hk
    · rw [if_neg e] at hk
      exact h.lo j (by omega) k hk
/-- A new one. -/
theorem Objs.new (h : Objs w0 w B os F) (o' : Ob1) {F' : Nat → Prop} (hb : Below w.heap.size w w') (ho : o'.R w' F') (hn : ∀ k, F' k → w.heap.size ≤ k) : ∃ G, Objs w0 w' B (os ++ [o']) G := by
  refine (h.below hb).add o' ho (fun j hj k hk hk' => ?_) (fun k hk => Nat.le_trans (Nat.le_trans h.hB h.bl.size) (hn k hk))
  have h1 := (os[j]).own.lt (h.ob j _ (List.getElem?_eq_getElem hj)) k hk
  have h2 := hn k hk'
  omega
/-- With what is said of a block that none of them holds. -/
theorem Objs.upd2 (h : Objs w0 w B os F) {i : Nat} {o : Ob1} (o' : Ob1) {F' : Nat → Prop} (hi : os[i]? = some o) (hu : Upd (F i) w F' w') (ho : o'.R w' F') {x n : Nat} (hx : x < w.heap.size) (hn : ∀ j, j < n → ¬ F j x) : ∃ G, Objs w0 w' B (os.set i o') G ∧ ∀ j, j < n → ¬ G j x := by
  have hil : i < os.length := (List.getElem?_eq_some_iff.1 hi).1
  obtain ⟨G, hG⟩ := h.upd o' hi hu ho
  refine ⟨fun j => if j = i then F' else F j, ⟨h.hB, ?_, ?_, ?_, hG.bl⟩, ?_⟩
  · intro j o2 hj
    rw [List.getElem?_set] at hj
    by_cases e : i = j
    · subst e
      rw [if_pos rfl, if_pos hil] at hj
      injection hj with hj
      subst hj
      simp only [if_true]
      exact ho
    · rw [if_neg e] at hj
      simp only [if_neg (Ne.symm e)]
      exact o2.own.keep (h.ob j o2 hj) hu.keeps (fun k hk hf => h.ap i j e hil (List.getElem?_eq_some_iff.1 hj).1 k hf hk)
  · intro j k hjk hj hk
    rw [List.length_set] at hj hk
    have hlt : ∀ j, j < os.length → ∀ k, F j k → k < w.heap.size := fun j hj k hk => (os[j]).own.lt (h.ob j _ (List.getElem?_eq_getElem hj)) k hk
    intro y hx' hy
    try simp only at hx' hy
    by_cases e : j = i
    · rw [if_pos e] at hx'
      have e2 : ¬ k = i := fun e2 => hjk (e.trans e2.symm)
      rw [if_neg e2] at hy
      rcases hu.foot y hx' with h1 | h1
      · exact h.ap i k (Ne.symm e2) hil hk y h1 hy
      · have := hlt k hk y hy; omega
    · rw [if_neg e] at hx'
      by_cases e2 : k = i
      · rw [if_pos e2] at hy
        rcases hu.foot y hy with h1 | h1
        · exact h.ap i j (Ne.symm e) hil hj y h1 hx'
        · have := hlt j hj y hx'; omega
      · rw [if_neg e2] at hy
        exact h.ap j k hjk hj hk y hx' hy
  · intro j hj k hk
    rw [List.length_set] at hj
    try simp only at hk
    by_cases e : j = i
    · rw [if_pos e] at hk
      rcases hu.foot k hk with h1 | h1
      · exact h.lo i hil k h1
      · have := h.bl.size; have := h.hB; omega
    · rw [if_neg e] at hk
      exact h.lo j hj k hk
  · intro j hj
    try simp only
    by_cases e : j = i
    · rw [if_pos e]
      intro hx'
      rcases hu.foot x hx' with h1 | h1
      · exact hn i (e ▸ hj) h1
      · omega
    · rw [if_neg e]
      exact hn j hj
/-- A block of memory that no object holds. -/
theorem Objs.not (h : Objs w0 w B os F) {i : Nat} (hi : i < os.length) {k : Nat} (hk : k < B) : ¬ F i k := fun e => by have := h.lo i hi k e; omega
theorem Objs.lt (h : Objs w0 w B os F) {i : Nat} (hi : i < os.length) {k : Nat} (e : F i k) : k < w.heap.size := (os[i]).own.lt (h.ob i _ (List.getElem?_eq_getElem hi)) k e
end
end Go.Proofs.YthbijemihaekiaaGreatDoor
