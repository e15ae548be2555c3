/- Each text where it stands first: plain. -/
import Derived.Test.YtpbaokhlhhpiiaaKitV
namespace Go.Proofs.Ytpbaokhlhhpiiaa
set_option linter.unusedVariables false
set_option linter.unusedSimpArgs false

def onceStep (acc : List ByteArray) (x : ByteArray) : List ByteArray := if memB x acc = true then acc else acc ++ [x]
def onceFrom (acc : List ByteArray) (l : List ByteArray) : List ByteArray := l.foldl onceStep acc
def onceV (l : List ByteArray) : List ByteArray := onceFrom [] l

theorem onceFrom_snoc (acc l : List ByteArray) (x : ByteArray) : onceFrom acc (l ++ [x]) = onceStep (onceFrom acc l) x := by simp [onceFrom]
theorem onceFrom_append (acc l m : List ByteArray) : onceFrom acc (l ++ m) = onceFrom (onceFrom acc l) m := by simp [onceFrom]
theorem onceFrom_cons (acc l : List ByteArray) (x : ByteArray) : onceFrom acc (x :: l) = onceFrom (onceStep acc x) l := rfl
theorem onceStep_len (acc : List ByteArray) (x : ByteArray) : (onceStep acc x).length ≤ acc.length + 1 := by unfold onceStep; split <;> simp
theorem onceFrom_len (l : List ByteArray) : ∀ acc, (onceFrom acc l).length ≤ acc.length + l.length := by
  induction l with
  | nil => intro acc; simp [onceFrom]
  | cons x l ih => intro acc; rw [onceFrom_cons]; have := ih (onceStep acc x); have := onceStep_len acc x; simp; omega
theorem onceV_len (l : List ByteArray) : (onceV l).length ≤ l.length := by have := onceFrom_len l []; simpa [onceV] using this
theorem mem_onceStep {acc : List ByteArray} {x y : ByteArray} : y ∈ onceStep acc x ↔ y ∈ acc ∨ y = x := by
  unfold onceStep
  split
  · rename_i h
    rw [memB_iff] at h
    constructor
    · exact .inl
    · rintro (h1 | rfl) <;> assumption
  · simp
theorem mem_onceFrom (l : List ByteArray) : ∀ (acc : List ByteArray) (y : ByteArray), y ∈ onceFrom acc l ↔ y ∈ acc ∨ y ∈ l := by
  induction l with
  | nil => intro acc y; simp [onceFrom]
  | cons x l ih => intro acc y; rw [onceFrom_cons, ih, mem_onceStep]; simp [or_assoc]
theorem mem_onceV {l : List ByteArray} {y : ByteArray} : y ∈ onceV l ↔ y ∈ l := by rw [onceV, mem_onceFrom]; simp
theorem nodup_onceStep {acc : List ByteArray} (h : acc.Nodup) (x : ByteArray) : (onceStep acc x).Nodup := by
  unfold onceStep
  split
  · exact h
  · rename_i hx
    have hx' : ¬ x ∈ acc := fun hm => hx (memB_iff.2 hm)
    rw [List.nodup_append]
    refine ⟨h, by simp, fun a ha b hb => ?_⟩
    simp at hb
    subst hb
    intro e; subst e; exact hx' ha
theorem nodup_onceFrom (l : List ByteArray) : ∀ {acc : List ByteArray}, acc.Nodup → (onceFrom acc l).Nodup := by
  induction l with
  | nil => intro acc h; exact h
  | cons x l ih => intro acc h; rw [onceFrom_cons]; exact ih (nodup_onceStep h x)
theorem nodup_onceV (l : List ByteArray) : (onceV l).Nodup := nodup_onceFrom l (by simp)
theorem onceFrom_same : ∀ (l acc : List ByteArray), (acc ++ l).Nodup → onceFrom acc l = acc ++ l := by
  intro l
  induction l with
  | nil => intro acc _; simp [onceFrom]
  | cons x l ih =>
    intro acc h
    have hx : ¬ x ∈ acc := fun hm => by
      rw [List.nodup_append] at h
      exact h.2.2 x hm x (by simp) rfl
    rw [onceFrom_cons]
    have : onceStep acc x = acc ++ [x] := by unfold onceStep; rw [if_neg (by rw [memB_iff]; exact hx)]
    rw [this, ih _ (by simpa using h)]
    simp
theorem onceV_same {l : List ByteArray} (h : l.Nodup) : onceV l = l := by simpa [onceV] using onceFrom_same l [] (by simpa using h)
theorem perm_of_mem {l m : List ByteArray} (hl : l.Nodup) (hm : m.Nodup) (h : ∀ y, y ∈ l ↔ y ∈ m) : l.Perm m := (List.perm_ext_iff_of_nodup hl hm).2 h
end Go.Proofs.Ytpbaokhlhhpiiaa
