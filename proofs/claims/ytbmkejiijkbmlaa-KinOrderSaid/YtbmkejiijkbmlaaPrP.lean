/- Plain: tables of pairs (how often a thing is, how often two are together), as rows that maps hold. -/
import Derived.Test.YtbmkejiijkbmlaaKitM
namespace Go.Proofs.Ytbmkejiijkbmlaa
open Go.ChangeShapes Go.WideShapes Go.ChangeAt Go.RowKit
set_option linter.unusedVariables false

abbrev CntL := List (ByteArray × Int)
abbrev RowsL := List (ByteArray × Nat)

/-- A function of blocks, changed at one. -/
def updR (R : Nat → CntL) (b : Nat) (r : CntL) : Nat → CntL := fun k => if k = b then r else R k
theorem updR_same (R : Nat → CntL) (b : Nat) (r : CntL) : updR R b r b = r := by simp [updR]
theorem updR_ne (R : Nat → CntL) {b k : Nat} (r : CntL) (h : k ≠ b) : updR R b r k = R k := by simp [updR, h]

def pairN (C : RowsL) (R : Nat → CntL) (a b : ByteArray) : Int := ((mget C a).bind fun r => mget (R r) b).getD 0

structure TabInv (S : CntL) (C : RowsL) (R : Nat → CntL) (f : ByteArray → Int) (g : ByteArray → ByteArray → Int) : Prop where
  one : ∀ a, (mget S a).getD 0 = f a
  spos : ∀ p ∈ S, 0 < p.2
  two : ∀ a b, pairN C R a b = g a b
  ppos : ∀ p ∈ C, ∀ q ∈ R p.2, 0 < q.2
  pne : ∀ p ∈ C, R p.2 ≠ []

def setF (f : ByteArray → Int) (a : ByteArray) (n : Int) : ByteArray → Int := fun x => if x = a then f x + n else f x
def setG (g : ByteArray → ByteArray → Int) (a b : ByteArray) (n : Int) : ByteArray → ByteArray → Int := fun x y => if x = a ∧ y = b then g x y + n else g x y

section
variable {S : CntL} {C : RowsL} {R : Nat → CntL} {f : ByteArray → Int} {g : ByteArray → ByteArray → Int}

theorem mem_mput_val {κ υ : Type} [DecidableEq κ] {l : List (κ × υ)} {x : κ} {v : υ} {p : κ × υ} (h : p ∈ mput l x v) : p ∈ l ∨ p = (x, v) := by
  unfold mput at h
  split at h
  · obtain ⟨q, hq, e⟩ := List.mem_map.1 h
    split at e
    · exact .inr e.symm
    · exact .inl (e ▸ hq)
  · rcases List.mem_append.1 h with h | h
    · exact .inl h
    · exact .inr (by simpa using h)
theorem mput_ne {κ υ : Type} [DecidableEq κ] (l : List (κ × υ)) (x : κ) (v : υ) : mput l x v ≠ [] := by
  intro h
  have := mget_mput (l := l) x v x
  rw [h] at this
  simp [mget] at this

theorem TabInv.empty : TabInv [] [] R (fun _ => 0) (fun _ _ => 0) := ⟨fun a => by simp [mget], by simp, fun a b => by simp [pairN, mget], by simp, by simp⟩
theorem TabInv.f0 (h : TabInv S C R f g) (a : ByteArray) : 0 ≤ f a := by
  rw [← h.one]
  cases hm : mget S a with
  | none => simp
  | some v => have := h.spos _ (mget_some_mem hm); simpa using Int.le_of_lt this
theorem TabInv.single (h : TabInv S C R f g) (a : ByteArray) {n : Int} (hn : 0 < n) : TabInv (mput S a (f a + n)) C R (setF f a n) g where
  one := fun x => by
    rw [mget_mput]
    unfold setF
    split
    · rename_i e; rw [e]; rfl
    · exact h.one x
  spos := fun p hp => by
    rcases mem_mput_val hp with hp | rfl
    · exact h.spos p hp
    · have := h.f0 a; simp only; omega
  two := h.two
  ppos := h.ppos
  pne := h.pne
theorem TabInv.g0 (h : TabInv S C R f g) (a b : ByteArray) : 0 ≤ g a b := by
  rw [← h.two]
  unfold pairN
  cases hm : mget C a with
  | none => simp
  | some r =>
    simp only [Option.bind_some]
    cases hq : mget (R r) b with
    | none => simp
    | some v => have := h.ppos _ (mget_some_mem hm) _ (mget_some_mem hq); simpa using Int.le_of_lt this
/-- One more of two things whose first one has a row. -/
theorem TabInv.old (h : TabInv S C R f g) (hC : (C.map (·.1)).Nodup) (hD : (C.map (·.2)).Nodup) {a b : ByteArray} {r : Nat} (hr : mget C a = some r) {n : Int} (hn : 0 < n) : TabInv S C (updR R r (mput (R r) b ((mget (R r) b).getD 0 + n))) f (setG g a b n) where
  one := h.one
  spos := h.spos
  two := fun x y => by
    unfold setG pairN
    by_cases hx : x = a
    · subst hx
      have e := h.two x y
      unfold pairN at e
      rw [hr] at e ⊢
      simp only [Option.bind_some, updR_same] at e ⊢
      rw [mget_mput]
      by_cases hy : y = b
      · subst hy
        simp [← e]
      · rw [if_neg hy, if_neg (fun hh => hy hh.2)]
        exact e
    · rw [if_neg (fun hh => hx hh.1), ← h.two x y]
      unfold pairN
      cases hm : mget C x with
      | none => rfl
      | some r' =>
        have hne : r' ≠ r := fun e => by
          subst e
          have h1 := mget_some_mem hm
          have h2 := mget_some_mem hr
          obtain ⟨i, hi, e1⟩ := List.getElem_of_mem h1
          obtain ⟨j, hj, e2⟩ := List.getElem_of_mem h2
          have hij := (List.getElem_inj (i := i) (j := j) (h₀ := by simpa using hi) (h₁ := by simpa using hj) hD).1 (by simp [e1, e2])
          subst hij
          rw [e1] at e2
          exact hx (Prod.mk.inj e2).1
        simp only [Option.bind_some]
        rw [updR_ne R _ hne]
  ppos := fun p hp q hq => by
    by_cases e : p.2 = r
    · rw [e, updR_same] at hq
      rcases mem_mput_val hq with hq | rfl
      · exact h.ppos _ (mget_some_mem hr) q hq
      · simp only
        have : 0 ≤ (mget (R r) b).getD 0 := by
          cases hm : mget (R r) b with
          | none => simp
          | some v => have := h.ppos _ (mget_some_mem hr) _ (mget_some_mem hm); simpa using Int.le_of_lt this
        omega
    · rw [updR_ne R _ e] at hq
      exact h.ppos p hp q hq
  pne := fun p hp => by
    by_cases e : p.2 = r
    · rw [e, updR_same]; exact mput_ne _ _ _
    · rw [updR_ne R _ e]; exact h.pne p hp
/-- One more of two things whose first one has none. -/
theorem TabInv.new (h : TabInv S C R f g) {a b : ByteArray} {r : Nat} (hr : mget C a = none) (hfr : ∀ p ∈ C, p.2 ≠ r) {n : Int} (hn : 0 < n) : TabInv S (C ++ [(a, r)]) (updR R r [(b, n)]) f (setG g a b n) where
  one := h.one
  spos := h.spos
  two := fun x y => by
    unfold setG pairN
    rw [mget_append]
    by_cases hx : x = a
    · subst hx
      have e := h.two x y
      unfold pairN at e
      rw [hr] at e ⊢
      simp only [mget, Option.none_or, if_true, Option.bind_some, updR_same, Option.bind_none, Option.getD_none] at e ⊢
      by_cases hy : y = b
      · subst hy
        simp [← e]
      · have hy' : ¬ b = y := fun e => hy e.symm
        simp [hy, ← e]
    · rw [if_neg (fun hh => hx hh.1), ← h.two x y]
      unfold pairN
      have hx' : ¬ a = x := fun e => hx e.symm
      cases hm : mget C x with
      | none => simp [mget, hx]
      | some r' =>
        have hne : r' ≠ r := hfr _ (mget_some_mem hm)
        simp only [Option.some_or, Option.bind_some]
        rw [updR_ne R _ hne]
  ppos := fun p hp q hq => by
    rcases List.mem_append.1 hp with hp | hp
    · rw [updR_ne R _ (hfr p hp)] at hq
      exact h.ppos p hp q hq
    · simp at hp
      subst hp
      simp only [updR_same, List.mem_singleton] at hq
      subst hq
      exact hn
  pne := fun p hp => by
    rcases List.mem_append.1 hp with hp | hp
    · rw [updR_ne R _ (hfr p hp)]
      exact h.pne p hp
    · simp at hp
      subst hp
      simp [updR_same]
/-- Where there are no things there are no pairs of a thing with another one, if each pair's things are there. -/
theorem TabInv.empty_of (h : TabInv S C R f g) (hf : ∀ a, f a = 0) : S = [] := by
  cases S with
  | nil => rfl
  | cons p S =>
    have h1 := h.one p.1
    have h2 := h.spos p (by simp)
    rw [hf] at h1
    simp [mget] at h1
    omega
end
end Go.Proofs.Ytbmkejiijkbmlaa
