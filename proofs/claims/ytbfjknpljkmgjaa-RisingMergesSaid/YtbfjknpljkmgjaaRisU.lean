/- Rises of two panes and of both together, plainly. -/
import Derived.Test.YtbfjknpljkmgjaaRisM
import Derived.Test.YtbfjknpljkmgjaaPanN
namespace Go.Proofs.Ytbfjknpljkmgjaa
open Go.ChangeShapes Go.WideShapes Go.ChangeAt Go.RowKit Go.Shelf Go.Lib Go.Sort Go.Proofs
set_option linter.unusedVariables false
set_option linter.unusedSimpArgs false

abbrev OldM := List (ByteArray × RiseV)
def riseVf (r : RiseV) : Value := .agg #[.string r.key, .int .i64 r.new, .int .i64 r.old]
def oldAt (M : OldM) (k : ByteArray) : RiseV := (mget M k).getD ⟨⟨#[]⟩, 0, 0⟩
def addM (M : OldM) (r : RiseV) : OldM := mput M r.key ⟨r.key, (oldAt M r.key).new + r.new, 0⟩
def foldM (l : List RiseV) : OldM := l.foldl addM []
theorem foldM_snoc (l : List RiseV) (r : RiseV) : foldM (l ++ [r]) = addM (foldM l) r := by unfold foldM; rw [List.foldl_append]; rfl
def keySum (l : List RiseV) (k : ByteArray) : Int := (l.map (fun r => if r.key = k then r.new else 0)).sum
theorem keySum_append (l m : List RiseV) (k : ByteArray) : keySum (l ++ m) k = keySum l k + keySum m k := by unfold keySum; rw [List.map_append, List.sum_append]
theorem oldAt_add (M : OldM) (r : RiseV) (k : ByteArray) : (oldAt (addM M r) k).new = (oldAt M k).new + (if r.key = k then r.new else 0) := by
  unfold addM
  have h : mget (mput M r.key (⟨r.key, (oldAt M r.key).new + r.new, 0⟩ : RiseV)) k = if k = r.key then some (⟨r.key, (oldAt M r.key).new + r.new, 0⟩ : RiseV) else mget M k := by rw [mget_mput]
  by_cases e : r.key = k
  · subst e
    rw [if_pos rfl] at h ⊢
    have : oldAt (mput M r.key ⟨r.key, (oldAt M r.key).new + r.new, 0⟩) r.key = ⟨r.key, (oldAt M r.key).new + r.new, 0⟩ := by
      rw [show oldAt (mput M r.key ⟨r.key, (oldAt M r.key).new + r.new, 0⟩) r.key = (mget (mput M r.key ⟨r.key, (oldAt M r.key).new + r.new, 0⟩) r.key).getD ⟨⟨#[]⟩, 0, 0⟩ from rfl, h]
      rfl
    rw [this]
  · rw [if_neg (fun x => e x.symm)] at h
    rw [if_neg e, Int.add_zero]
    unfold oldAt at h ⊢
    rw [h]
theorem foldM_new (l : List RiseV) (k : ByteArray) : (oldAt (foldM l) k).new = keySum l k := by
  have : ∀ (l : List RiseV) (M : OldM), (oldAt (l.foldl addM M) k).new = (oldAt M k).new + keySum l k := by
    intro l
    induction l with
    | nil => intro M; simp [keySum]
    | cons a l ih =>
      intro M
      rw [List.foldl_cons, ih, oldAt_add]
      have e : keySum (a :: l) k = (if a.key = k then a.new else 0) + keySum l k := by unfold keySum; rw [List.map_cons, List.sum_cons]
      omega
  unfold foldM
  rw [this]
  have : (oldAt [] k).new = 0 := rfl
  omega
theorem mem_addM (M : OldM) (r : RiseV) (k : ByteArray) : (mget (addM M r) k).isSome ↔ k = r.key ∨ (mget M k).isSome := by
  unfold addM
  rw [mget_mput]
  by_cases e : k = r.key
  · simp [e]
  · simp [e]
theorem foldM_mem (l : List RiseV) (k : ByteArray) : (mget (foldM l) k).isSome ↔ ∃ r ∈ l, r.key = k := by
  have : ∀ (l : List RiseV) (M : OldM), (mget (l.foldl addM M) k).isSome ↔ (∃ r ∈ l, r.key = k) ∨ (mget M k).isSome := by
    intro l
    induction l with
    | nil => intro M; simp
    | cons a l ih =>
      intro M
      rw [List.foldl_cons, ih, mem_addM]
      constructor
      · rintro (⟨r, hr, e⟩ | rfl | h)
        · exact .inl ⟨r, by simp [hr], e⟩
        · exact .inl ⟨a, by simp, rfl⟩
        · exact .inr h
      · rintro (⟨r, hr, e⟩ | h)
        · rw [List.mem_cons] at hr
          rcases hr with rfl | hr
          · exact .inr (.inl e.symm)
          · exact .inl ⟨r, hr, e⟩
        · exact .inr (.inr h)
  unfold foldM
  rw [this]
  have : (mget ([] : OldM) k).isSome = false := rfl
  rw [this]
  simp
theorem foldM_nodup (l : List RiseV) : ((foldM l).map (·.1)).Nodup := by
  have : ∀ (l : List RiseV) (M : OldM), (M.map (·.1)).Nodup → ((l.foldl addM M).map (·.1)).Nodup := by
    intro l
    induction l with
    | nil => intro M h; exact h
    | cons a l ih => intro M h; rw [List.foldl_cons]; exact ih _ (nodup_mput h _ _)
  exact this l [] (by simp)

theorem keySum_rises {w : World} {pb : Nat} {F : Nat → Prop} {wd span now : Int} {hist : List AddD} {rs : List RiseV} (hO : PaneObj w pb F wd hist) (hB : ofB wd span now = true) (h : RisesOf wd hist span now 0 rs) (k : ByteArray) :
    keySum rs k = histTot wd hist k ((begB wd now - span) / wd) (begB wd now / wd) ∧ ((∃ r ∈ rs, r.key = k) ↔ 0 < histTot wd hist k ((begB wd now - span) / wd) (begB wd now / wd)) := by
  have hbd := (hO.tot_bd k ((begB wd now - span) / wd) (begB wd now / wd)).1
  unfold RisesOf at h
  rw [if_pos hB] at h
  have hn := riseLt_nodup h.1
  have hmem : (∃ r ∈ rs, r.key = k) ↔ 0 < histTot wd hist k ((begB wd now - span) / wd) (begB wd now / wd) := by
    constructor
    · rintro ⟨r, hr, e⟩
      obtain ⟨e1, h1, _⟩ := (h.2 r).1 hr
      have : r.new = histTot wd hist r.key ((begB wd now - span) / wd) (begB wd now / wd) := congrArg RiseV.new e1
      rw [e] at this
      omega
    · intro hp
      exact ⟨riseOf wd hist span (begB wd now) k, (h.2 _).2 ⟨rfl, by show 1 ≤ histTot _ _ _ _ _; omega, by show 0 ≤ histTot _ _ _ _ _; omega⟩, rfl⟩
  refine ⟨?_, hmem⟩
  have hall : ∀ r ∈ rs, r.key = k → r = riseOf wd hist span (begB wd now) k := fun r hr e => by
    have := ((h.2 r).1 hr).1
    rw [e] at this
    exact this
  have key : ∀ l : List RiseV, l.Nodup → (∀ r ∈ l, r ∈ rs) → keySum l k = if riseOf wd hist span (begB wd now) k ∈ l then (riseOf wd hist span (begB wd now) k).new else 0 := by
    intro l
    induction l with
    | nil => intro _ _; rfl
    | cons a l ih =>
      intro hn hs
      rw [List.nodup_cons] at hn
      have e : keySum (a :: l) k = (if a.key = k then a.new else 0) + keySum l k := by unfold keySum; rw [List.map_cons, List.sum_cons]
      rw [e, ih hn.2 (fun r hr => hs r (by simp [hr]))]
      by_cases ek : a.key = k
      · have ea := hall a (hs a (by simp)) ek
        rw [if_pos ek, ea]
        rw [ea] at hn
        rw [if_neg hn.1, if_pos (by simp)]
        omega
      · have hne : riseOf wd hist span (begB wd now) k ≠ a := fun e => ek (by rw [← e]; rfl)
        rw [if_neg ek, Int.zero_add]
        simp [hne]
  rw [key rs hn (fun _ h => h)]
  by_cases hp : 0 < histTot wd hist k ((begB wd now - span) / wd) (begB wd now / wd)
  · rw [if_pos ((h.2 _).2 ⟨rfl, by show 1 ≤ histTot _ _ _ _ _; omega, by show 0 ≤ histTot _ _ _ _ _; omega⟩)]
    rfl
  · rw [if_neg]
    · omega
    · intro hm
      exact hp (hmem.1 ⟨_, hm, rfl⟩)

/-- The law: keys and sums of both. -/
theorem merges_plain {w w1 w2 : World} {pb qb rb : Nat} {F G K : Nat → Prop} {wd span now : Int} {h1 h2 : List AddD} {a b all : List RiseV} (hp : PaneObj w pb F wd h1) (hq : PaneObj w1 qb G wd h2) (hr : PaneObj w2 rb K wd (h1 ++ h2))
    (ha : RisesOf wd h1 span now 0 a) (hb : RisesOf wd h2 span now 0 b) (hc : RisesOf wd (h1 ++ h2) span now 0 all) :
    (∀ r ∈ all, (oldAt (foldM (a ++ b)) r.key).new = r.new) ∧ all.length = (foldM (a ++ b)).length := by
  by_cases hB : ofB wd span now = true
  · have ka := keySum_rises hp hB ha
    have kb := keySum_rises hq hB hb
    have kc := keySum_rises hr hB hc
    have hsum : ∀ k, keySum (a ++ b) k = keySum all k := fun k => by rw [keySum_append, (ka k).1, (kb k).1, (kc k).1, histTot_append]
    have hc' := hc
    unfold RisesOf at hc'
    rw [if_pos hB] at hc'
    refine ⟨fun r hr' => ?_, ?_⟩
    · rw [foldM_new, hsum, (kc _).1]
      exact (congrArg RiseV.new ((hc'.2 r).1 hr').1).symm
    · have hkeys : ∀ k, k ∈ all.map (·.key) ↔ k ∈ (foldM (a ++ b)).map (·.1) := by
        intro k
        have e1 : k ∈ all.map (·.key) ↔ ∃ r ∈ all, r.key = k := by rw [List.mem_map]
        have e2 : k ∈ (foldM (a ++ b)).map (·.1) ↔ (mget (foldM (a ++ b)) k).isSome := by rw [mget_isSome_iff, List.mem_map]
        rw [e1, e2, foldM_mem, (kc k).2, histTot_append]
        have h3 := (hp.tot_bd k ((begB wd now - span) / wd) (begB wd now / wd)).1
        have h4 := (hq.tot_bd k ((begB wd now - span) / wd) (begB wd now / wd)).1
        constructor
        · intro h
          by_cases h5 : 0 < histTot wd h1 k ((begB wd now - span) / wd) (begB wd now / wd)
          · obtain ⟨r, hr, e⟩ := (ka k).2.2 h5
            exact ⟨r, by simp [hr], e⟩
          · obtain ⟨r, hr, e⟩ := (kb k).2.2 (by omega)
            exact ⟨r, by simp [hr], e⟩
        · rintro ⟨r, hr, e⟩
          rw [List.mem_append] at hr
          rcases hr with hr | hr
          · have := (ka k).2.1 ⟨r, hr, e⟩; omega
          · have := (kb k).2.1 ⟨r, hr, e⟩; omega
      have hn : (all.map (·.key)).Nodup := by
        refine List.pairwise_map.2 ?_
        refine hc'.1.imp_of_mem ?_
        intro x y hx hy hxy e
        have ex := ((hc'.2 x).1 hx).1
        have ey := ((hc'.2 y).1 hy).1
        have : x = y := by rw [ex, ey, e]
        rw [this, riseLt_irr] at hxy
        cases hxy
      have l1 := nodup_le hn (fun k hk => (hkeys k).1 hk)
      have l2 := nodup_le (foldM_nodup (a ++ b)) (fun k hk => (hkeys k).2 hk)
      simp at l1 l2
      omega
  · unfold RisesOf at ha hb hc
    rw [if_neg hB] at ha hb hc
    subst ha hb hc
    exact ⟨by simp, rfl⟩
theorem keySum_bd {l : List RiseV} (h : ∀ r ∈ l, 0 ≤ r.new ∧ r.new ≤ 1099511627776) (k : ByteArray) : 0 ≤ keySum l k ∧ keySum l k ≤ 1099511627776 * l.length := by
  induction l with
  | nil => simp [keySum]
  | cons a l ih =>
    have h1 := ih (fun r hr => h r (by simp [hr]))
    have h2 := h a (by simp)
    have e : keySum (a :: l) k = (if a.key = k then a.new else 0) + keySum l k := by unfold keySum; rw [List.map_cons, List.sum_cons]
    rw [e, List.length_cons]
    have : ((l.length + 1 : Nat) : Int) = (l.length : Int) + 1 := by omega
    rw [this]
    split <;> omega
end Go.Proofs.Ytbfjknpljkmgjaa
