/- Plain facts on sums by keys and panes: no program in sight. -/
import Derived.Test.YtmigjlceogofaaaKitM
namespace Go.Proofs.Ytmigjlceogofaaa
set_option linter.unusedVariables false
set_option linter.unusedSimpArgs false

/-- What was added: a key, a tick, a number. -/
structure AddD where
  key : ByteArray
  at_ : Int
  n : Int

abbrev SumsL := List ((ByteArray × Int) × Int)

def val (S : SumsL) (c : ByteArray × Int) : Int := (mget S c).getD 0
def tot (S : SumsL) (key : ByteArray) (lo hi : Int) : Int := ((S.filter (fun p => decide (p.1.1 = key) && (decide (lo ≤ p.1.2) && decide (p.1.2 < hi)))).map (·.2)).sum
def histTot (wd : Int) (hist : List AddD) (key : ByteArray) (lo hi : Int) : Int := ((hist.filter (fun a => decide (a.key = key) && (decide (lo ≤ a.at_ / wd) && decide (a.at_ / wd < hi)))).map (·.n)).sum

theorem tot_nil (key : ByteArray) (lo hi : Int) : tot [] key lo hi = 0 := rfl
theorem tot_cons (p : (ByteArray × Int) × Int) (S : SumsL) (key : ByteArray) (lo hi : Int) : tot (p :: S) key lo hi = (if p.1.1 = key ∧ lo ≤ p.1.2 ∧ p.1.2 < hi then p.2 else 0) + tot S key lo hi := by
  unfold tot
  by_cases h : p.1.1 = key ∧ lo ≤ p.1.2 ∧ p.1.2 < hi
  · simp [List.filter_cons, h.1, h.2.1, h.2.2]
  · have : (decide (p.1.1 = key) && (decide (lo ≤ p.1.2) && decide (p.1.2 < hi))) = false := by
      simp only [Bool.and_eq_false_iff, decide_eq_false_iff_not]
      by_cases a : p.1.1 = key
      · by_cases b : lo ≤ p.1.2
        · exact .inr (.inr (fun c => h ⟨a, b, c⟩))
        · exact .inr (.inl b)
      · exact .inl a
    rw [List.filter_cons, this, if_neg h]
    simp

theorem val_cons (p : (ByteArray × Int) × Int) (S : SumsL) (hn : ((p :: S).map (·.1)).Nodup) (c : ByteArray × Int) : val (p :: S) c = (if c = p.1 then p.2 else 0) + val S c := by
  obtain ⟨a, v⟩ := p
  simp only [List.map_cons, List.nodup_cons, List.mem_map, not_exists, not_and] at hn
  unfold val
  by_cases h : c = a
  · subst h
    have : mget S c = none := mget_none_iff.2 (fun p hp e => hn.1 p hp e)
    simp [mget, this]
  · have h1 : ¬ c = a := h
    simp [mget, h1, h]

theorem sum_ite_nodup (ns : List Int) (hn : ns.Nodup) (m v : Int) : (ns.map (fun n => if n = m then v else 0)).sum = if m ∈ ns then v else 0 := by
  induction ns with
  | nil => simp
  | cons a ns ih =>
    simp only [List.nodup_cons] at hn
    simp only [List.map_cons, List.sum_cons, ih hn.2, List.mem_cons]
    by_cases h : a = m
    · subst h; simp [hn.1]
    · simp [h, Ne.symm h]

theorem sum_add (ns : List Int) (f g : Int → Int) : (ns.map (fun n => f n + g n)).sum = (ns.map f).sum + (ns.map g).sum := by
  induction ns with
  | nil => simp
  | cons a ns ih => simp only [List.map_cons, List.sum_cons, ih]; omega

theorem sum_zero (ns : List Int) (f : Int → Int) (h : ∀ n ∈ ns, f n = 0) : (ns.map f).sum = 0 := by
  induction ns with
  | nil => simp
  | cons a ns ih => simp only [List.map_cons, List.sum_cons, h a (by simp), ih (fun n hn => h n (by simp [hn]))]; omega

/-- The sum over any row of different panes of the range that has all of the key's. -/
theorem sum_vals (S : SumsL) (hS : (S.map (·.1)).Nodup) (key : ByteArray) (lo hi : Int) (ns : List Int) (hn : ns.Nodup) (hr : ∀ n ∈ ns, lo ≤ n ∧ n < hi)
    (hall : ∀ p ∈ S, p.1.1 = key → lo ≤ p.1.2 → p.1.2 < hi → p.1.2 ∈ ns) : (ns.map (fun n => val S (key, n))).sum = tot S key lo hi := by
  induction S with
  | nil =>
    rw [tot_nil]
    exact sum_zero _ _ (fun n _ => rfl)
  | cons p S ih =>
    have hS' : (S.map (·.1)).Nodup := by simp only [List.map_cons, List.nodup_cons] at hS; exact hS.2
    have ih' := ih hS' (fun q hq => hall q (by simp [hq]))
    rw [tot_cons]
    have e : (ns.map (fun n => val (p :: S) (key, n))).sum = (ns.map (fun n => (if (key, n) = p.1 then p.2 else 0) + val S (key, n))).sum := by
      congr 1
      exact List.map_congr_left (fun n _ => val_cons p S hS (key, n))
    rw [e, sum_add, ih']
    congr 1
    by_cases hk : p.1.1 = key
    · have e2 : (ns.map (fun n => if (key, n) = p.1 then p.2 else 0)).sum = (ns.map (fun n => if n = p.1.2 then p.2 else 0)).sum := by
        congr 1
        apply List.map_congr_left
        intro n _
        have : (key, n) = p.1 ↔ n = p.1.2 := by
          constructor
          · intro h; rw [← h]
          · intro h; rw [h, ← hk]
        simp [this]
      rw [e2, sum_ite_nodup ns hn]
      by_cases hm : p.1.2 ∈ ns
      · have := hr _ hm; simp [hm, hk, this.1, this.2]
      · have : ¬ (lo ≤ p.1.2 ∧ p.1.2 < hi) := fun h => hm (hall p (by simp) hk h.1 h.2)
        simp [hm, hk, this]
    · have : ¬ (p.1.1 = key ∧ lo ≤ p.1.2 ∧ p.1.2 < hi) := fun h => hk h.1
      rw [if_neg this]
      exact sum_zero _ _ (fun n _ => by rw [if_neg (fun h => hk (by rw [← h]))])

theorem tot_append (S T : SumsL) (key : ByteArray) (lo hi : Int) : tot (S ++ T) key lo hi = tot S key lo hi + tot T key lo hi := by
  unfold tot; rw [List.filter_append, List.map_append, List.sum_append]

theorem tot_update (c0 : ByteArray × Int) (v : Int) (key : ByteArray) (lo hi : Int) : ∀ (S : SumsL), (S.map (·.1)).Nodup → (mget S c0).isSome →
    tot (S.map (fun p => if p.1 = c0 then (c0, v) else p)) key lo hi = tot S key lo hi + (if c0.1 = key ∧ lo ≤ c0.2 ∧ c0.2 < hi then v - val S c0 else 0)
  | [], _, h => by simp [mget] at h
  | (a, u) :: S, hn, h => by
    have hn' : (S.map (·.1)).Nodup := by simp only [List.map_cons, List.nodup_cons] at hn; exact hn.2
    by_cases ha : a = c0
    · subst ha
      have hnone : ∀ p ∈ S, p.1 ≠ a := fun p hp e => by
        simp only [List.map_cons, List.nodup_cons, List.mem_map, not_exists, not_and] at hn
        exact hn.1 p hp e
      have e : S.map (fun p => if p.1 = a then (a, v) else p) = S := by
        conv => rhs; rw [← List.map_id S]
        exact List.map_congr_left (fun p hp => by rw [if_neg (hnone p hp)]; rfl)
      rw [List.map_cons, if_pos rfl, e, tot_cons, tot_cons]
      have hv : val ((a, u) :: S) a = u := by simp [val, mget]
      rw [hv]
      simp only
      split <;> omega
    · have h1 : ¬ c0 = a := Ne.symm ha
      have h' : (mget S c0).isSome := by simpa [mget, h1] using h
      have hv : val ((a, u) :: S) c0 = val S c0 := by simp [val, mget, h1]
      rw [List.map_cons, if_neg ha, tot_cons, tot_cons, tot_update c0 v key lo hi S hn' h', hv]
      omega

theorem tot_mput (S : SumsL) (hn : (S.map (·.1)).Nodup) (c0 : ByteArray × Int) (v : Int) (key : ByteArray) (lo hi : Int) :
    tot (mput S c0 v) key lo hi = tot S key lo hi + (if c0.1 = key ∧ lo ≤ c0.2 ∧ c0.2 < hi then v - val S c0 else 0) := by
  unfold mput
  split
  · rename_i h; exact tot_update c0 v key lo hi S hn h
  · rename_i h
    have hnone : mget S c0 = none := Option.not_isSome_iff_eq_none.1 h
    rw [tot_append, tot_cons, tot_nil]
    simp only [val, hnone, Option.getD_none]
    split <;> omega

theorem histTot_snoc (wd : Int) (hist : List AddD) (a : AddD) (key : ByteArray) (lo hi : Int) :
    histTot wd (hist ++ [a]) key lo hi = histTot wd hist key lo hi + (if a.key = key ∧ lo ≤ a.at_ / wd ∧ a.at_ / wd < hi then a.n else 0) := by
  unfold histTot
  rw [List.filter_append, List.map_append, List.sum_append]
  congr 1
  by_cases h : a.key = key ∧ lo ≤ a.at_ / wd ∧ a.at_ / wd < hi
  · simp [List.filter_cons, h.1, h.2.1, h.2.2]
  · rw [if_neg h]
    have : (decide (a.key = key) && (decide (lo ≤ a.at_ / wd) && decide (a.at_ / wd < hi))) = false := by
      simp only [Bool.and_eq_false_iff, decide_eq_false_iff_not]
      by_cases x : a.key = key
      · by_cases y : lo ≤ a.at_ / wd
        · exact .inr (.inr (fun z => h ⟨x, y, z⟩))
        · exact .inr (.inl y)
      · exact .inl x
    simp [List.filter_cons, this]

/-- A row of a key: its slice's address and capacity, and its panes. -/
structure RowV where
  A : Option Addr
  c : Nat
  ns : List Int

abbrev RowsL := List (ByteArray × RowV)

/-- What holds of the sums and rows of panes. -/
structure PaneInv (wd : Int) (S : SumsL) (R : RowsL) (hist : List AddD) : Prop where
  nodS : (S.map (·.1)).Nodup
  nodR : (R.map (·.1)).Nodup
  pos : ∀ p ∈ S, 0 < p.2
  rowN : ∀ p ∈ R, p.2.ns.Nodup
  rowM : ∀ p ∈ R, ∀ n, n ∈ p.2.ns ↔ (mget S (p.1, n)).isSome
  rowS : ∀ p ∈ S, (mget R p.1.1).isSome
  lenR : ∀ p ∈ R, p.2.ns.length ≤ hist.length
  cnt : hist.length ≤ 1048576
  ticks : ∀ a ∈ hist, 0 ≤ a.at_ ∧ a.at_ ≤ 1099511627776 ∧ 0 ≤ a.n ∧ a.n ≤ 1048576 ∧ 1 ≤ a.key.size ∧ a.key.size ≤ 24
  wide : 1 ≤ wd ∧ wd ≤ 1099511627776
  same : ∀ key lo hi, tot S key lo hi = histTot wd hist key lo hi

theorem histTot_bound (wd : Int) : ∀ (hist : List AddD), (∀ a ∈ hist, 0 ≤ a.n ∧ a.n ≤ 1048576) → ∀ key lo hi, 0 ≤ histTot wd hist key lo hi ∧ histTot wd hist key lo hi ≤ 1048576 * hist.length
  | [], _, key, lo, hi => by simp [histTot]
  | a :: hist, h, key, lo, hi => by
    have ih := histTot_bound wd hist (fun b hb => h b (by simp [hb])) key lo hi
    have ha := h a (by simp)
    have e : histTot wd (a :: hist) key lo hi = (if (decide (a.key = key) && (decide (lo ≤ a.at_ / wd) && decide (a.at_ / wd < hi))) = true then a.n else 0) + histTot wd hist key lo hi := by
      unfold histTot
      rw [List.filter_cons]
      split <;> simp
    rw [e]
    simp only [List.length_cons]
    have : ((hist.length + 1 : Nat) : Int) = (hist.length : Int) + 1 := by omega
    rw [this]
    split <;> omega

theorem PaneInv.bound {wd : Int} {S : SumsL} {R : RowsL} {hist : List AddD} (h : PaneInv wd S R hist) (key : ByteArray) (lo hi : Int) : 0 ≤ tot S key lo hi ∧ tot S key lo hi ≤ 1099511627776 := by
  rw [h.same]
  have := histTot_bound wd hist (fun a ha => ⟨(h.ticks a ha).2.2.1, (h.ticks a ha).2.2.2.1⟩) key lo hi
  have := h.cnt
  omega

/-- One sum is the total of one pane. -/
theorem val_tot (S : SumsL) (hS : (S.map (·.1)).Nodup) (key : ByteArray) (n : Int) : val S (key, n) = tot S key n (n + 1) := by
  have := sum_vals S hS key n (n + 1) [n] (by simp) (by intro m hm; simp at hm; omega) (by intro p hp h1 h2 h3; simp; omega)
  simpa using this

theorem PaneInv.valB {wd : Int} {S : SumsL} {R : RowsL} {hist : List AddD} (h : PaneInv wd S R hist) (c : ByteArray × Int) : 0 ≤ val S c ∧ val S c ≤ 1099511627776 := by
  obtain ⟨key, n⟩ := c
  rw [val_tot S h.nodS]
  exact h.bound _ _ _

theorem PaneInv.start (wd : Int) (h : 1 ≤ wd ∧ wd ≤ 1099511627776) : PaneInv wd [] [] [] :=
  ⟨by simp, by simp, by simp, by simp, by simp, by simp, by simp, by simp, by simp, h, fun _ _ _ => rfl⟩

theorem mget_isSome_iff {κ υ : Type} [DecidableEq κ] {l : List (κ × υ)} {x : κ} : (mget l x).isSome ↔ ∃ p ∈ l, p.1 = x := by
  constructor
  · intro h
    obtain ⟨v, hv⟩ := Option.isSome_iff_exists.1 h
    exact ⟨(x, v), mget_some_mem hv, rfl⟩
  · rintro ⟨p, hp, rfl⟩
    cases hl : mget l p.1 with
    | none => exact absurd rfl (mget_none_iff.1 hl p hp)
    | some v => rfl

theorem mem_mput {κ υ : Type} [DecidableEq κ] {l : List (κ × υ)} {x : κ} {v : υ} {p : κ × υ} (h : p ∈ mput l x v) : p = (x, v) ∨ (p ∈ l ∧ p.1 ≠ x) := by
  unfold mput at h
  split at h
  · obtain ⟨q, hq, rfl⟩ := List.mem_map.1 h
    by_cases e : q.1 = x
    · left; simp [e]
    · right; rw [if_neg e]; exact ⟨hq, e⟩
  · rename_i hs
    have hn : mget l x = none := Option.not_isSome_iff_eq_none.1 hs
    rcases List.mem_append.1 h with h | h
    · exact .inr ⟨h, mget_none_iff.1 hn p h⟩
    · left; simpa using h

/-- Nothing more: a number of nought. -/
theorem PaneInv.zero {wd : Int} {S : SumsL} {R : RowsL} {hist : List AddD} (h : PaneInv wd S R hist) {a : AddD} (ha : 0 ≤ a.at_ ∧ a.at_ ≤ 1099511627776 ∧ 1 ≤ a.key.size ∧ a.key.size ≤ 24) (hn : a.n = 0) (hc : hist.length < 1048576) :
    PaneInv wd S R (hist ++ [a]) where
  nodS := h.nodS
  nodR := h.nodR
  pos := h.pos
  rowN := h.rowN
  rowM := h.rowM
  rowS := h.rowS
  lenR := fun p hp => by have := h.lenR p hp; simp; omega
  cnt := by simp; omega
  ticks := fun b hb => by
    rcases List.mem_append.1 hb with hb | hb
    · exact h.ticks b hb
    · simp at hb; subst hb; exact ⟨ha.1, ha.2.1, by omega, by omega, ha.2.2.1, ha.2.2.2⟩
  wide := h.wide
  same := fun key lo hi => by rw [histTot_snoc, h.same, hn]; split <;> omega

/-- One sum grows; where it was nought, the row has the pane more. -/
theorem PaneInv.put {wd : Int} {S : SumsL} {R : RowsL} {hist : List AddD} (h : PaneInv wd S R hist) {a : AddD} (ha : 0 ≤ a.at_ ∧ a.at_ ≤ 1099511627776 ∧ 1 ≤ a.key.size ∧ a.key.size ≤ 24) (hn : 1 ≤ a.n ∧ a.n ≤ 1048576) (hc : hist.length < 1048576)
    {R' : RowsL} (hR : (0 < val S (a.key, a.at_ / wd) ∧ R' = R) ∨ (val S (a.key, a.at_ / wd) = 0 ∧ ∃ A c, R' = mput R a.key ⟨A, c, ((mget R a.key).map (·.ns)).getD [] ++ [a.at_ / wd]⟩)) :
    PaneInv wd (mput S (a.key, a.at_ / wd) (val S (a.key, a.at_ / wd) + a.n)) R' (hist ++ [a]) := by
  generalize hq : a.at_ / wd = q at *
  have hvb := h.valB (a.key, q)
  have hnodS := nodup_mput h.nodS (a.key, q) (val S (a.key, q) + a.n)
  have hsome : ∀ c, (mget (mput S (a.key, q) (val S (a.key, q) + a.n)) c).isSome ↔ c = (a.key, q) ∨ (mget S c).isSome := by
    intro c
    rw [mget_mput]
    by_cases e : c = (a.key, q)
    · simp [e]
    · simp [e]
  have hpos : ∀ p ∈ mput S (a.key, q) (val S (a.key, q) + a.n), 0 < p.2 := by
    intro p hp
    rcases mem_mput hp with rfl | ⟨hp, _⟩
    · show 0 < val S (a.key, q) + a.n; omega
    · exact h.pos p hp
  have hticks : ∀ b ∈ hist ++ [a], 0 ≤ b.at_ ∧ b.at_ ≤ 1099511627776 ∧ 0 ≤ b.n ∧ b.n ≤ 1048576 ∧ 1 ≤ b.key.size ∧ b.key.size ≤ 24 := by
    intro b hb
    rcases List.mem_append.1 hb with hb | hb
    · exact h.ticks b hb
    · simp at hb; subst hb; exact ⟨ha.1, ha.2.1, by omega, by omega, ha.2.2.1, ha.2.2.2⟩
  have hsame : ∀ key lo hi, tot (mput S (a.key, q) (val S (a.key, q) + a.n)) key lo hi = histTot wd (hist ++ [a]) key lo hi := by
    intro key lo hi
    rw [histTot_snoc, tot_mput S h.nodS, h.same, hq]
    simp only
    split <;> omega
  have hcnt : (hist ++ [a]).length ≤ 1048576 := by simp; omega
  rcases hR with ⟨hv, rfl⟩ | ⟨hv, A, c, rfl⟩
  · have hin : (mget S (a.key, q)).isSome := by
      cases hl : mget S (a.key, q) with
      | none => simp [val, hl] at hv
      | some v => rfl
    have hsome' : ∀ c, (mget (mput S (a.key, q) (val S (a.key, q) + a.n)) c).isSome ↔ (mget S c).isSome := by
      intro c
      rw [hsome]
      constructor
      · rintro (rfl | h)
        · exact hin
        · exact h
      · exact .inr
    refine ⟨hnodS, h.nodR, hpos, h.rowN, fun p hp n => by rw [hsome']; exact h.rowM p hp n, fun p hp => ?_, fun p hp => by have := h.lenR p hp; simp; omega, hcnt, hticks, h.wide, hsame⟩
    rcases mem_mput hp with rfl | ⟨hp, _⟩
    · obtain ⟨p, hp, e⟩ := mget_isSome_iff.1 hin
      have := h.rowS p hp
      rw [e] at this
      exact this
    · exact h.rowS p hp
  · have hnone : mget S (a.key, q) = none := by
      cases hl : mget S (a.key, q) with
      | none => rfl
      | some v =>
        have := h.pos _ (mget_some_mem hl)
        simp [val, hl] at hv
        simp at this
        omega
    have hold : ∀ n, n ∈ ((mget R a.key).map (·.ns)).getD [] ↔ (mget S (a.key, n)).isSome := by
      intro n
      cases hl : mget R a.key with
      | none =>
        simp only [Option.map_none, Option.getD_none, List.not_mem_nil, false_iff]
        intro hs
        obtain ⟨p, hp, e⟩ := mget_isSome_iff.1 hs
        have := h.rowS p hp
        rw [e] at this
        simp [hl] at this
      | some r => exact h.rowM _ (mget_some_mem hl) n
    have hoN : (((mget R a.key).map (·.ns)).getD []).Nodup := by
      cases hl : mget R a.key with
      | none => simp
      | some r => exact h.rowN _ (mget_some_mem hl)
    have hoL : (((mget R a.key).map (·.ns)).getD []).length ≤ hist.length := by
      cases hl : mget R a.key with
      | none => simp
      | some r => exact h.lenR _ (mget_some_mem hl)
    refine ⟨hnodS, nodup_mput h.nodR _ _, hpos, ?_, ?_, ?_, ?_, hcnt, hticks, h.wide, hsame⟩
    · intro p hp
      rcases mem_mput hp with rfl | ⟨hp, _⟩
      · show (_ ++ [q]).Nodup
        rw [List.nodup_append]
        refine ⟨hoN, by simp, ?_⟩
        intro x hx y hy
        simp at hy
        subst hy
        intro e
        subst e
        have := (hold x).1 hx
        rw [hnone] at this
        simp at this
      · exact h.rowN p hp
    · intro p hp n
      rw [hsome]
      rcases mem_mput hp with rfl | ⟨hp, hne⟩
      · show n ∈ _ ++ [q] ↔ _
        rw [List.mem_append, hold]
        simp
        constructor
        · rintro (h | h)
          · exact .inr h
          · exact .inl h
        · rintro (h | h)
          · exact .inr h
          · exact .inl h
      · rw [h.rowM p hp n]
        constructor
        · exact .inr
        · rintro (e | h)
          · exact absurd (congrArg Prod.fst e) hne
          · exact h
    · intro p hp
      rw [mget_mput]
      rcases mem_mput hp with rfl | ⟨hp, hne⟩
      · simp
      · by_cases e : p.1.1 = a.key
        · simp [e]
        · rw [if_neg e]; exact h.rowS p hp
    · intro p hp
      rcases mem_mput hp with rfl | ⟨hp, hne⟩
      · show (_ ++ [q]).length ≤ _
        simp
        omega
      · have := h.lenR p hp
        simp
        omega

end Go.Proofs.Ytmigjlceogofaaa
