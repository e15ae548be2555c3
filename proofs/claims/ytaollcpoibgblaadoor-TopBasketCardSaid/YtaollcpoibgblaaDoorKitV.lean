/- Plain facts on texts: their order, equality; sorted lists are one. -/
import Derived.Test.YtaollcpoibgblaaDoorKitA
namespace Go.Proofs.YtaollcpoibgblaaDoor
set_option linter.unusedVariables false
set_option linter.unusedSimpArgs false

theorem toList_data (s : ByteArray) : s.toList = s.data.toList := ByteArray.toList_eq s
theorem toList_inj {s t : ByteArray} (h : s.toList = t.toList) : s = t := by
  rw [toList_data, toList_data] at h
  apply ByteArray.ext
  exact Array.toList_inj.1 h
theorem str_beq (s t : ByteArray) : (s.toList == t.toList) = decide (s = t) := by
  by_cases h : s = t
  · subst h; simp
  · have : ¬ s.toList = t.toList := fun e => h (toList_inj e)
    simp [h, this]

theorem bl_irrefl : ∀ x : List UInt8, Op.bytesLess x x = false
  | [] => rfl
  | a :: x => by simp [Op.bytesLess, bl_irrefl x]
theorem bl_trans : ∀ x y z : List UInt8, Op.bytesLess x y = true → Op.bytesLess y z = true → Op.bytesLess x z = true
  | _, [], _, h, _ => by simp [Op.bytesLess] at h
  | _, _ :: _, [], _, h => by simp [Op.bytesLess] at h
  | [], _ :: _, _ :: _, _, _ => rfl
  | a :: x, b :: y, c :: z, h1, h2 => by
    simp only [Op.bytesLess, Bool.or_eq_true, Bool.and_eq_true, decide_eq_true_eq, beq_iff_eq] at *
    rcases h1 with h1 | ⟨rfl, h1⟩
    · rcases h2 with h2 | ⟨rfl, h2⟩
      · exact .inl (UInt8.lt_trans h1 h2)
      · exact .inl h1
    · rcases h2 with h2 | ⟨rfl, h2⟩
      · exact .inl h2
      · exact .inr ⟨rfl, bl_trans x y z h1 h2⟩
theorem bl_total : ∀ x y : List UInt8, Op.bytesLess x y = false → Op.bytesLess y x = false → x = y
  | [], [], _, _ => rfl
  | [], _ :: _, h, _ => by simp [Op.bytesLess] at h
  | _ :: _, [], _, h => by simp [Op.bytesLess] at h
  | a :: x, b :: y, h1, h2 => by
    simp only [Op.bytesLess, Bool.or_eq_false_iff, Bool.and_eq_false_iff, decide_eq_false_iff_not, beq_eq_false_iff_ne] at *
    have hab : a = b := by
      rcases h1 with ⟨h1, _⟩
      rcases h2 with ⟨h2, _⟩
      exact UInt8.le_antisymm (UInt8.not_lt.1 h2) (UInt8.not_lt.1 h1)
    subst hab
    have e1 := h1.2
    have e2 := h2.2
    simp at e1 e2
    rw [bl_total x y e1 e2]

/-- s stands ahead of t. -/
def sLt (s t : ByteArray) : Bool := Op.bytesLess s.toList t.toList
theorem sLt_irrefl (x : ByteArray) : sLt x x = false := bl_irrefl _
theorem sLt_trans {x y z : ByteArray} (h : sLt x y = true) (h' : sLt y z = true) : sLt x z = true := bl_trans _ _ _ h h'
theorem sLt_total {x y : ByteArray} (h : sLt x y = false) (h' : sLt y x = false) : x = y := toList_inj (bl_total _ _ h h')
theorem sLt_asymm {x y : ByteArray} (h : sLt x y = true) : sLt y x = false := by
  cases h' : sLt y x with
  | false => rfl
  | true => have := sLt_trans h h'; rw [sLt_irrefl] at this; cases this

/-- -1, 0 or 1. -/
def cmpStr (x y : ByteArray) : Int := if sLt x y = true then -1 else if sLt y x = true then 1 else 0
def cmpInt (x y : Int) : Int := if x < y then -1 else if y < x then 1 else 0

theorem gtr_eq (x y : ByteArray) : (!(Op.bytesLess x.toList y.toList || x.toList == y.toList)) = sLt y x := by
  rw [str_beq]
  show (!(sLt x y || _)) = _
  cases h : sLt x y with
  | true => rw [sLt_asymm h]; rfl
  | false =>
    cases h' : sLt y x with
    | true =>
      have : ¬ x = y := fun e => by subst e; rw [sLt_irrefl] at h'; cases h'
      simp [this]
    | false => simp [sLt_total h h']

/-- Is a text in a row? -/
def memB (x : ByteArray) (l : List ByteArray) : Bool := l.any (fun y => decide (y = x))
theorem memB_iff {x : ByteArray} {l : List ByteArray} : memB x l = true ↔ x ∈ l := by simp [memB]
theorem memB_not {x : ByteArray} {l : List ByteArray} : memB x l = false ↔ ¬ x ∈ l := by rw [← memB_iff]; simp

section
variable {α : Type}
/-- Sorted by an order in which no two are alike: one list. -/
theorem sorted_unique (lt : α → α → Bool) (irr : ∀ x, lt x x = false) (tr : ∀ x y z, lt x y = true → lt y z = true → lt x z = true) : ∀ {l m : List α}, l.Perm m → l.Pairwise (fun x y => lt x y = true) → m.Pairwise (fun x y => lt x y = true) → l = m := by
  intro l
  induction l with
  | nil => intro m hp _ _; exact (List.nil_perm.1 hp).symm
  | cons a l ih =>
    intro m hp hl hm
    cases m with
    | nil => exact absurd (List.perm_nil.1 hp) (by simp)
    | cons b m =>
      rw [List.pairwise_cons] at hl hm
      have hab : a = b := by
        have h1 : a ∈ b :: m := hp.subset (by simp)
        have h2 : b ∈ a :: l := hp.symm.subset (by simp)
        rcases List.mem_cons.1 h1 with h1 | h1
        · exact h1
        · rcases List.mem_cons.1 h2 with h2 | h2
          · exact h2.symm
          · have := tr _ _ _ (hl.1 b h2) (hm.1 a h1)
            rw [irr] at this; cases this
      subst hab
      rw [ih ((List.perm_cons a).1 hp) hl.2 hm.2]
end
end Go.Proofs.YtaollcpoibgblaaDoor
