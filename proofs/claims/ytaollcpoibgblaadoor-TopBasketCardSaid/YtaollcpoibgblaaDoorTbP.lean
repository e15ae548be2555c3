/- The plain law of baskets: what is counted of rows of buys, and that the order of arrival plays no part in it. -/
import Derived.Test.YtaollcpoibgblaaDoorKitO
namespace Go.Proofs.YtaollcpoibgblaaDoor
set_option linter.unusedVariables false
set_option linter.unusedSimpArgs false

/-- What is counted: all, the singles, the counts. -/
structure BkS where
  all : Int
  sg : ByteArray → Int
  ct : ByteArray → ByteArray → Int
def BkS.zero : BkS := ⟨0, fun _ => 0, fun _ _ => 0⟩
def BkS.plus (a b : BkS) : BkS := ⟨a.all + b.all, fun x => a.sg x + b.sg x, fun x y => a.ct x y + b.ct x y⟩
theorem BkS.plus_assoc (a b c : BkS) : (a.plus b).plus c = a.plus (b.plus c) := by
  simp [BkS.plus, Int.add_assoc]
theorem BkS.plus_comm (a b : BkS) : a.plus b = b.plus a := by
  simp [BkS.plus, Int.add_comm]
theorem BkS.zero_plus (a : BkS) : BkS.zero.plus a = a := by simp [BkS.plus, BkS.zero]
theorem BkS.plus_zero (a : BkS) : a.plus .zero = a := by simp [BkS.plus, BkS.zero]

abbrev SinceF := ByteArray → Option Int
noncomputable def hasK (s : SinceF) (x : ByteArray) : Int := if (s x).isSome then 1 else 0
noncomputable def twoK (s : SinceF) (x y : ByteArray) : Int := match s x, s y with
  | some a, some c => if a < c then 1 else 0
  | _, _ => 0
noncomputable def oneK (s : SinceF) : BkS := ⟨1, hasK s, twoK s⟩
theorem hasK_bd (s : SinceF) (x : ByteArray) : 0 ≤ hasK s x ∧ hasK s x ≤ 1 := by unfold hasK; split <;> omega
theorem twoK_bd (s : SinceF) (x y : ByteArray) : 0 ≤ twoK s x y ∧ twoK s x y + twoK s y x ≤ hasK s x ∧ twoK s x y ≤ hasK s x := by
  unfold twoK hasK
  cases s x <;> cases s y <;> simp
  split <;> split <;> omega

structure RwS where
  last : Option Int
  since : SinceF
  b : BkS
def cutR (gap : Int) (last : Option Int) (a : Int) : Bool := match last with
  | some p => decide (gap < a - p)
  | none => false
def putS (s : SinceF) (k : ByteArray) (a : Int) : SinceF := if (s k).isSome then s else fun x => if x = k then some a else s x
noncomputable def stepR (gap : Int) (z : RwS) (e : Int × ByteArray) : RwS :=
  if cutR gap z.last e.1 then ⟨some e.1, putS (fun _ => none) e.2 e.1, z.b.plus (oneK z.since)⟩
  else ⟨some e.1, putS z.since e.2 e.1, z.b⟩
noncomputable def beginR (b : BkS) : RwS := ⟨none, fun _ => none, b⟩
noncomputable def endR (z : RwS) : BkS := z.b.plus (oneK z.since)
noncomputable def rowR (gap : Int) (b : BkS) (row : List (Int × ByteArray)) : BkS := endR (row.foldl (stepR gap) (beginR b))

theorem putS_at (s : SinceF) (k : ByteArray) (a : Int) (x : ByteArray) : putS s k a x = if x = k then some ((s k).getD a) else s x := by
  unfold putS
  cases h : s k with
  | none => simp
  | some c =>
    simp
    intro e
    rw [e, h]
theorem putS_comm (s : SinceF) (k j : ByteArray) (a : Int) : putS (putS s k a) j a = putS (putS s j a) k a := by
  funext x
  simp only [putS_at]
  by_cases h1 : x = j <;> by_cases h2 : x = k <;> by_cases h3 : j = k <;> simp_all
theorem stepR_comm {gap : Int} (hg : 0 ≤ gap) (z : RwS) {a b : Int × ByteArray} (h : a.1 = b.1) : stepR gap (stepR gap z a) b = stepR gap (stepR gap z b) a := by
  have hc : ∀ p : Int, cutR gap (some p) p = false := fun p => by unfold cutR; simp; omega
  obtain ⟨a1, a2⟩ := a
  obtain ⟨b1, b2⟩ := b
  simp only at h
  subst h
  unfold stepR
  simp only
  split <;> simp [hc] <;> exact putS_comm _ _ _ _
theorem RwS.plus_step (gap : Int) (c : BkS) (z : RwS) (e : Int × ByteArray) : stepR gap ⟨z.last, z.since, c.plus z.b⟩ e = ⟨(stepR gap z e).last, (stepR gap z e).since, c.plus (stepR gap z e).b⟩ := by
  unfold stepR
  simp only
  split <;> simp [BkS.plus_assoc]
theorem rowR_fold (gap : Int) (c : BkS) (row : List (Int × ByteArray)) (z : RwS) : row.foldl (stepR gap) ⟨z.last, z.since, c.plus z.b⟩ = ⟨(row.foldl (stepR gap) z).last, (row.foldl (stepR gap) z).since, c.plus (row.foldl (stepR gap) z).b⟩ := by
  induction row generalizing z with
  | nil => rfl
  | cons e row ih =>
    rw [List.foldl_cons, List.foldl_cons, RwS.plus_step]
    exact ih (stepR gap z e)
theorem rowR_plus (gap : Int) (b : BkS) (row : List (Int × ByteArray)) : rowR gap b row = b.plus (rowR gap .zero row) := by
  have := rowR_fold gap b row (beginR .zero)
  unfold rowR endR
  rw [show beginR b = ⟨(beginR .zero).last, (beginR .zero).since, b.plus (beginR .zero).b⟩ by simp [beginR, BkS.plus_zero], this]
  simp [BkS.plus_assoc]

/-- Rows that rise, of the same buys: whatever commutes at one height is counted alike. -/
theorem foldl_rise {Z : Type} (f : Z → Int × ByteArray → Z) (hf : ∀ z a b, a.1 = b.1 → f (f z a) b = f (f z b) a) :
    ∀ (s1 s2 : List (Int × ByteArray)) (z : Z), s1.Perm s2 → s1.Pairwise (fun a b => a.1 ≤ b.1) → s2.Pairwise (fun a b => a.1 ≤ b.1) → s1.foldl f z = s2.foldl f z := by
  intro s1
  induction s1 with
  | nil => intro s2 z hp _ _; rw [List.nil_perm.1 hp]
  | cons a t ih =>
    intro s2 z hp h1 h2
    have ha : a ∈ s2 := hp.subset (List.mem_cons_self ..)
    obtain ⟨u, v, rfl⟩ := List.append_of_mem ha
    rw [List.pairwise_append] at h2
    have hu : ∀ x ∈ u, x.1 = a.1 := by
      intro x hx
      have h3 := h2.2.2 x hx a (List.mem_cons_self ..)
      have h4 : x ∈ a :: t := hp.symm.subset (by simp [hx])
      rcases List.mem_cons.1 h4 with rfl | h4
      · rfl
      · have := (List.pairwise_cons.1 h1).1 x h4
        omega
    have hmove : ∀ (u : List (Int × ByteArray)) (z : Z), (∀ x ∈ u, x.1 = a.1) → (u ++ a :: v).foldl f z = (u ++ v).foldl f (f z a) := by
      intro u
      induction u with
      | nil => intro z _; rfl
      | cons b u ihu =>
        intro z hb
        rw [List.cons_append, List.foldl_cons, List.cons_append, List.foldl_cons, ihu (f z b) (fun x hx => hb x (List.mem_cons_of_mem _ hx))]
        rw [hf z b a (hb b (List.mem_cons_self ..))]
    rw [hmove u z hu, List.foldl_cons]
    refine ih (u ++ v) (f z a) ?_ (List.pairwise_cons.1 h1).2 ?_
    · have : (a :: t).Perm (a :: (u ++ v)) := hp.trans List.perm_middle
      exact List.Perm.cons_inv this
    · rw [List.pairwise_append]
      exact ⟨h2.1, (List.pairwise_cons.1 h2.2.1).2, fun x hx y hy => h2.2.2 x hx y (List.mem_cons_of_mem _ hy)⟩
theorem rowR_rise {gap : Int} (hg : 0 ≤ gap) (b : BkS) {s1 s2 : List (Int × ByteArray)} (hp : s1.Perm s2) (h1 : s1.Pairwise (fun a b => a.1 ≤ b.1)) (h2 : s2.Pairwise (fun a b => a.1 ≤ b.1)) : rowR gap b s1 = rowR gap b s2 := by
  unfold rowR
  rw [foldl_rise (stepR gap) (fun z a b h => stepR_comm hg z h) s1 s2 _ hp h1 h2]

/-- What is right of a count. -/
structure BkOk (b : BkS) (n : Int) : Prop where
  a0 : 0 ≤ b.all ∧ b.all ≤ n
  s0 : ∀ x, 0 ≤ b.sg x ∧ b.sg x ≤ b.all
  c0 : ∀ x y, 0 ≤ b.ct x y ∧ b.ct x y ≤ b.sg x
  c2 : ∀ x y, x ≠ y → b.ct x y + b.ct y x ≤ b.sg x
theorem BkOk.zero : BkOk .zero 0 := by constructor <;> simp [BkS.zero]
theorem BkOk.one (s : SinceF) : BkOk (oneK s) 1 := by
  constructor
  · simp [oneK]
  · intro x; have := hasK_bd s x; simp only [oneK]; omega
  · intro x y; have := twoK_bd s x y; simp only [oneK]; omega
  · intro x y _; have := twoK_bd s x y; simp only [oneK]; omega
theorem BkOk.plus {a b : BkS} {n m : Int} (h : BkOk a n) (g : BkOk b m) : BkOk (a.plus b) (n + m) := by
  constructor
  · have := h.a0; have := g.a0; simp only [BkS.plus]; omega
  · intro x; have := h.s0 x; have := g.s0 x; simp only [BkS.plus]; omega
  · intro x y; have := h.c0 x y; have := g.c0 x y; simp only [BkS.plus]; omega
  · intro x y e; have := h.c2 x y e; have := g.c2 x y e; simp only [BkS.plus]; omega
theorem BkOk.step {gap : Int} {z : RwS} {n : Int} (h : BkOk z.b n) (e : Int × ByteArray) : BkOk (stepR gap z e).b (n + 1) := by
  unfold stepR
  split
  · exact h.plus (.one _)
  · exact ⟨⟨h.a0.1, by have := h.a0; simp only; omega⟩, h.s0, h.c0, h.c2⟩
theorem BkOk.mono {b : BkS} {n m : Int} (h : BkOk b n) (hm : n ≤ m) : BkOk b m := ⟨⟨h.a0.1, by have := h.a0; omega⟩, h.s0, h.c0, h.c2⟩
theorem BkOk.fold {gap : Int} {z : RwS} {n : Int} (h : BkOk z.b n) (row : List (Int × ByteArray)) : BkOk (row.foldl (stepR gap) z).b (n + row.length) := by
  induction row generalizing z n with
  | nil => exact h.mono (by simp)
  | cons e row ih => exact (ih (h.step e)).mono (by simp; omega)
theorem BkOk.row {gap : Int} {b : BkS} {n : Int} (h : BkOk b n) (row : List (Int × ByteArray)) : BkOk (rowR gap b row) (n + row.length + 1) :=
  (BkOk.fold (z := beginR b) h row).plus (.one _)

/-- What nobody bought counts nowhere. -/
def Free (b : BkS) (a c : ByteArray) : Prop := b.ct a c = 0 ∧ b.sg a = 0
theorem since_none {gap : Int} {x : ByteArray} (row : List (Int × ByteArray)) (hx : ∀ e ∈ row, e.2 ≠ x) (z : RwS) (hs : z.since x = none) (h0 : z.b.sg x = 0) :
    (row.foldl (stepR gap) z).since x = none ∧ (row.foldl (stepR gap) z).b.sg x = 0 := by
  induction row generalizing z with
  | nil => exact ⟨hs, h0⟩
  | cons e row ih =>
    have hne : ¬ x = e.2 := fun h => hx e (List.mem_cons_self ..) h.symm
    refine ih (fun e he => hx e (List.mem_cons_of_mem _ he)) _ ?_ ?_
    · unfold stepR; split <;> simp [putS_at, hne, hs]
    · unfold stepR; split <;> simp [BkS.plus, oneK, hasK, hs, h0]
theorem rowR_none {gap : Int} {x : ByteArray} (row : List (Int × ByteArray)) (hx : ∀ e ∈ row, e.2 ≠ x) : (rowR gap .zero row).sg x = 0 := by
  obtain ⟨h1, h2⟩ := since_none (gap := gap) row hx (beginR .zero) rfl rfl
  simp [rowR, endR, BkS.plus, oneK, hasK, h1, h2]

/-! ### A row in order -/
def insR (e : Int × ByteArray) : List (Int × ByteArray) → List (Int × ByteArray)
  | [] => [e]
  | x :: t => if e.1 ≤ x.1 then e :: x :: t else x :: insR e t
def isortR : List (Int × ByteArray) → List (Int × ByteArray)
  | [] => []
  | e :: t => insR e (isortR t)
theorem insR_perm (e : Int × ByteArray) (t : List (Int × ByteArray)) : (insR e t).Perm (e :: t) := by
  induction t with
  | nil => exact .refl _
  | cons x t ih =>
    unfold insR
    split
    · exact .refl _
    · exact (List.Perm.cons x ih).trans (.swap _ _ _)
theorem isortR_perm (t : List (Int × ByteArray)) : (isortR t).Perm t := by
  induction t with
  | nil => exact .refl _
  | cons e t ih => exact (insR_perm e _).trans (ih.cons e)
theorem insR_rise (e : Int × ByteArray) (t : List (Int × ByteArray)) (h : t.Pairwise (fun a b => a.1 ≤ b.1)) : (insR e t).Pairwise (fun a b => a.1 ≤ b.1) := by
  induction t with
  | nil => simp [insR]
  | cons x t ih =>
    unfold insR
    split
    · rename_i hle
      rw [List.pairwise_cons]
      refine ⟨fun y hy => ?_, h⟩
      rcases List.mem_cons.1 hy with rfl | hy
      · exact hle
      · have := (List.pairwise_cons.1 h).1 y hy; omega
    · rename_i hle
      rw [List.pairwise_cons]
      refine ⟨fun y hy => ?_, ih (List.pairwise_cons.1 h).2⟩
      rcases List.mem_cons.1 ((insR_perm e t).subset hy) with rfl | hy
      · omega
      · exact (List.pairwise_cons.1 h).1 y hy
theorem isortR_rise (t : List (Int × ByteArray)) : (isortR t).Pairwise (fun a b => a.1 ≤ b.1) := by
  induction t with
  | nil => exact .nil
  | cons e t ih => exact insR_rise e _ ih

/-! ### Buys of persons -/
/-- A buy: who, when, what. -/
abbrev Buy := ByteArray × Int × ByteArray
def rowB (l : List Buy) (p : ByteArray) : List (Int × ByteArray) := (l.filter (fun e => decide (e.1 = p))).map (·.2)
noncomputable def ofP (gap : Int) (l : List Buy) (p : ByteArray) : BkS := if rowB l p = [] then .zero else rowR gap .zero (isortR (rowB l p))
noncomputable def sumP (gap : Int) (l : List Buy) (ps : List ByteArray) : BkS := ps.foldr (fun p b => (ofP gap l p).plus b) .zero
theorem rowB_perm {l m : List Buy} (h : l.Perm m) (p : ByteArray) : (rowB l p).Perm (rowB m p) := (h.filter _).map _
theorem ofP_perm {gap : Int} (hg : 0 ≤ gap) {l m : List Buy} (h : l.Perm m) (p : ByteArray) : ofP gap l p = ofP gap m p := by
  unfold ofP
  have hp := rowB_perm h p
  have : rowB l p = [] ↔ rowB m p = [] := by
    constructor <;> intro e
    · rw [e] at hp; exact List.nil_perm.1 hp
    · rw [e] at hp; exact List.perm_nil.1 hp
  by_cases e : rowB l p = []
  · rw [if_pos e, if_pos (this.1 e)]
  · rw [if_neg e, if_neg (fun x => e (this.2 x))]
    exact rowR_rise hg _ (((isortR_perm _).trans hp).trans (isortR_perm _).symm) (isortR_rise _) (isortR_rise _)
theorem sumP_perm {gap : Int} (hg : 0 ≤ gap) {l m : List Buy} (h : l.Perm m) (ps : List ByteArray) : sumP gap l ps = sumP gap m ps := by
  unfold sumP
  congr 1
  funext p b
  rw [ofP_perm hg h p]
theorem sumP_keys {gap : Int} (l : List Buy) {ks js : List ByteArray} (h : ks.Perm js) : sumP gap l ks = sumP gap l js := by
  unfold sumP
  induction h with
  | nil => rfl
  | cons x _ ih => simp only [List.foldr_cons, ih]
  | swap x y t => simp only [List.foldr_cons]; rw [← BkS.plus_assoc, ← BkS.plus_assoc, BkS.plus_comm (ofP gap l y)]
  | trans _ _ h1 h2 => exact h1.trans h2
theorem sumP_snoc {gap : Int} (l : List Buy) (ks : List ByteArray) (k : ByteArray) : sumP gap l (k :: ks) = (sumP gap l ks).plus (ofP gap l k) := by
  unfold sumP
  rw [List.foldr_cons, BkS.plus_comm]
theorem sumP_of {gap : Int} (l : List Buy) {ps : List ByteArray} : ∀ {ks : List ByteArray}, ks.Nodup → ps.Nodup → (∀ p, p ∈ ks ↔ p ∈ ps ∧ rowB l p ≠ []) → sumP gap l ks = sumP gap l ps := by
  intro ks hk hp hm
  have h1 : ks.Perm (ps.filter (fun p => decide (rowB l p ≠ []))) := by
    rw [List.perm_ext_iff_of_nodup hk (hp.filter _)]
    intro p
    rw [hm, List.mem_filter]
    simp
  rw [sumP_keys l h1]
  clear h1 hm hk
  induction ps with
  | nil => rfl
  | cons p ps ih =>
    have ih := ih (List.nodup_cons.1 hp).2
    by_cases e : rowB l p = []
    · rw [List.filter_cons_of_neg (by simp [e]), ih]
      unfold sumP
      rw [List.foldr_cons, show ofP gap l p = .zero by unfold ofP; rw [if_pos e], BkS.zero_plus]
    · rw [List.filter_cons_of_pos (by simp [e])]
      unfold sumP at ih ⊢
      rw [List.foldr_cons, List.foldr_cons, ih]
theorem ofP_ok (gap : Int) (l : List Buy) (p : ByteArray) : BkOk (ofP gap l p) ((rowB l p).length + 1) := by
  unfold ofP
  split
  · exact BkOk.zero.mono (by omega)
  · have := BkOk.row (gap := gap) BkOk.zero (isortR (rowB l p))
    rw [(isortR_perm _).length_eq] at this
    exact this.mono (by omega)
theorem sumP_ok (gap : Int) (l : List Buy) (ps : List ByteArray) : ∃ n, BkOk (sumP gap l ps) n := by
  induction ps with
  | nil => exact ⟨0, BkOk.zero⟩
  | cons p ps ih =>
    obtain ⟨n, h⟩ := ih
    exact ⟨_, (ofP_ok gap l p).plus h⟩
theorem mem_rowB {l : List Buy} {p : ByteArray} {e : Int × ByteArray} : e ∈ rowB l p ↔ (p, e) ∈ l := by
  unfold rowB
  rw [List.mem_map]
  constructor
  · rintro ⟨⟨q, x⟩, h1, rfl⟩
    rw [List.mem_filter] at h1
    have : q = p := by simpa using h1.2
    rw [← this]; exact h1.1
  · intro h
    exact ⟨(p, e), List.mem_filter.2 ⟨h, by simp⟩, rfl⟩
/-- Whoever bought neither counts neither. -/
theorem ofP_free (gap : Int) (l : List Buy) (p x : ByteArray) (h : ∀ e ∈ rowB l p, e.2 ≠ x) : (ofP gap l p).sg x = 0 := by
  unfold ofP
  split
  · rfl
  · exact rowR_none _ (fun e he => h e ((isortR_perm _).subset he))
/-- Less: the buys of those alone who bought one of two things. -/
theorem sumP_less (gap : Int) (l m : List Buy) (a c : ByteArray) (ps : List ByteArray) (h : ∀ p ∈ ps, rowB m p = rowB l p ∨ rowB m p = [] ∧ ∀ e ∈ rowB l p, e.2 ≠ a ∧ e.2 ≠ c) :
    (sumP gap m ps).ct a c = (sumP gap l ps).ct a c ∧ (sumP gap m ps).sg a = (sumP gap l ps).sg a := by
  induction ps with
  | nil => exact ⟨rfl, rfl⟩
  | cons p ps ih =>
    obtain ⟨i1, i2⟩ := ih (fun p hp => h p (List.mem_cons_of_mem _ hp))
    have key : (ofP gap m p).ct a c = (ofP gap l p).ct a c ∧ (ofP gap m p).sg a = (ofP gap l p).sg a := by
      rcases h p (List.mem_cons_self ..) with e | ⟨e, hn⟩
      · unfold ofP; rw [e]; exact ⟨rfl, rfl⟩
      · have hz : ofP gap m p = .zero := by unfold ofP; rw [if_pos e]
        have hs := ofP_free gap l p a (fun e he => (hn e he).1)
        have hc := (ofP_ok gap l p).c0 a c
        rw [hz]
        constructor
        · show (0 : Int) = _; omega
        · show (0 : Int) = _; omega
    unfold sumP at i1 i2 ⊢
    rw [List.foldr_cons, List.foldr_cons]
    refine ⟨?_, ?_⟩
    · show (ofP gap m p).ct a c + _ = (ofP gap l p).ct a c + _
      rw [key.1, i1]
    · show (ofP gap m p).sg a + _ = (ofP gap l p).sg a + _
      rw [key.2, i2]
end Go.Proofs.YtaollcpoibgblaaDoor
