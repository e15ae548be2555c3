/- The first ones of a window, plainly: together they are all that it holds. -/
import Derived.Test.YtcaglkefhbbnbaaWtD
import Derived.Test.YtcaglkefhbbnbaaKitL
namespace Go.Proofs.Ytcaglkefhbbnbaa
open Go.ChangeShapes Go.WideShapes Go.ChangeAt Go.RowKit Go.Shelf Go.Lib Go.Sort Go.Proofs
set_option linter.unusedVariables false
set_option linter.unusedSimpArgs false

theorem isum_permC {l m : List Int} (h : l.Perm m) : l.sum = m.sum := by
  induction h with
  | nil => rfl
  | cons x _ ih => simp [ih]
  | swap x y l => simp; omega
  | trans _ _ h1 h2 => exact h1.trans h2
theorem sum_filter_pos (V : ByteArray → Int) (h : ∀ k, 0 ≤ V k) : ∀ ks : List ByteArray, ((ks.filter (fun k => decide (0 < V k))).map V).sum = (ks.map V).sum
  | [] => rfl
  | k :: ks => by
    have ih := sum_filter_pos V h ks
    have h0 := h k
    by_cases hk : 0 < V k
    · simp [List.filter_cons, hk, ih]
    · have : V k = 0 := by omega
      simp [List.filter_cons, hk, ih, this]
/-- All that a window holds: by counts, and by keys. -/
theorem firsts_sum {V : ByteArray → Int} (hV : ∀ k, 0 ≤ V k) {cs : List CntV} {ks : List ByteArray} (hn : (cs.map (·.key)).Nodup) (hk : ks.Nodup) (h1 : ∀ r ∈ cs, r.n = V r.key) (h2 : ∀ k, (k ∈ cs.map (·.key)) ↔ (k ∈ ks ∧ 0 < V k)) : (cs.map (·.n)).sum = (ks.map V).sum := by
  have e1 : cs.map (·.n) = (cs.map (·.key)).map V := by
    rw [List.map_map]
    exact List.map_congr_left (fun r hr => h1 r hr)
  have hp : (cs.map (·.key)).Perm (ks.filter (fun k => decide (0 < V k))) := perm_of_mem hn (hk.sublist List.filter_sublist) (fun k => by rw [h2, List.mem_filter]; simp)
  rw [e1, isum_permC (hp.map V), sum_filter_pos V hV]

theorem CntsOf.nodupK {wd : Int} {hist : List AddD} {lo hi : Int} {cs : List CntV} (h : CntsOf wd hist lo hi cs) : (cs.map (·.key)).Nodup := by
  refine List.pairwise_map.2 (h.1.imp_of_mem ?_)
  intro x y hx hy hxy e
  have ex := ((h.2 x).1 hx).1
  have ey := ((h.2 y).1 hy).1
  have : x = y := CntV.same ⟨e, by rw [ex, ey, e]⟩
  rw [this, cntLt_irr] at hxy
  cases hxy

/-- What holds of the first thousand. -/
structure AllC (wd : Int) (hist : List AddD) (s h e : Int) (cs : List CntV) : Prop where
  sorted : cs.Pairwise (fun x y => cntLt x y = true)
  nodup : (cs.map (·.key)).Nodup
  vals : ∀ r ∈ cs, r.n = atV wd hist s h r.key e ∧ 1 ≤ r.n
  keys : ∀ k, k ∈ cs.map (·.key) ↔ 0 < atV wd hist s h k e
theorem AllC.of {wd s h e : Int} {hist : List AddD} {ts : List CntV} (ht : TopIs wd hist s h e 1000 ts) (hl : hist.length ≤ 60) : AllC wd hist s h e ts := by
  unfold TopIs at ht
  by_cases hE : isEndB s h wd e = true
  · rw [if_pos ⟨by omega, hE⟩] at ht
    obtain ⟨cs, hc, rfl⟩ := ht
    have hcl := hc.len
    have e0 : topM 1000 cs.length = cs.length := by unfold topM; omega
    rw [e0, List.take_length]
    have ev : ∀ k, atV wd hist s h k e = histTot wd hist k ((e - s) / wd) (e / wd) := fun k => by unfold atV; rw [if_pos hE]
    refine ⟨hc.1, hc.nodupK, fun r hr => ?_, fun k => ?_⟩
    · have := (hc.2 r).1 hr
      rw [ev]
      omega
    · rw [ev, List.mem_map]
      constructor
      · rintro ⟨r, hr, rfl⟩
        have := (hc.2 r).1 hr
        omega
      · intro hp
        exact ⟨⟨k, histTot wd hist k ((e - s) / wd) (e / wd)⟩, (hc.2 _).2 ⟨rfl, hp⟩, rfl⟩
  · rw [if_neg (fun x => hE x.2)] at ht
    subst ht
    refine ⟨List.Pairwise.nil, by simp, by simp, fun k => ?_⟩
    have : atV wd hist s h k e = 0 := by unfold atV; rw [if_neg hE]
    rw [this]
    simp
theorem firsts_same {wd s h e n : Int} {hist : List AddD} {all ts : List CntV} (ha : TopIs wd hist s h e 1000 all) (ht : TopIs wd hist s h e n ts) (hl : hist.length ≤ 60) : ts = all.take (topM n all.length) := by
  unfold TopIs at ha ht
  by_cases hE : isEndB s h wd e = true
  · rw [if_pos ⟨by omega, hE⟩] at ha
    obtain ⟨cs, hc, rfl⟩ := ha
    have hcl := hc.len
    have e0 : topM 1000 cs.length = cs.length := by unfold topM; omega
    rw [e0, List.take_length]
    by_cases hn : 0 < n
    · rw [if_pos ⟨hn, hE⟩] at ht
      obtain ⟨ds, hd, rfl⟩ := ht
      rw [hd.uniq hc]
    · rw [if_neg (fun x => hn x.1)] at ht
      have : topM n cs.length = 0 := by unfold topM; omega
      rw [ht, this, List.take_zero]
  · rw [if_neg (fun x => hE x.2)] at ha ht
    subst ha ht
    simp

abbrev KeyM := List (ByteArray × Bool)
def boolVf (b : Bool) : Value := .bool b
def sumC (cs : List CntV) : Int := (cs.map (·.n)).sum
theorem sumC_take (cs : List CntV) {k : Nat} (hk : k < cs.length) : sumC (cs.take (k + 1)) = sumC (cs.take k) + cs[k].n := by
  unfold sumC
  rw [List.take_succ_eq_append_getElem hk, List.map_append, List.sum_append]
  simp
/-- The keys that were met. -/
structure MetK (V : ByteArray → Int) (ks : List AddD) (M : KeyM) (want : Int) : Prop where
  tru : ∀ p ∈ M, p.2 = true
  mem : ∀ k, (mget M k).isSome ↔ ∃ a ∈ ks, a.key = k
  sum : want = (M.map (fun p => V p.1)).sum
  nod : (M.map (·.1)).Nodup
theorem MetK.nil (V : ByteArray → Int) : MetK V [] [] 0 := ⟨by simp, fun k => by simp [mget], rfl, by simp⟩
theorem MetK.has {V : ByteArray → Int} {ks : List AddD} {M : KeyM} {want : Int} (h : MetK V ks M want) (k : ByteArray) : ((mget M k).getD false = true) ↔ (mget M k).isSome := by
  cases hl : mget M k with
  | none => simp
  | some v =>
    have := h.tru _ (mget_some_mem hl)
    simp at this
    simp [this]
theorem MetK.old {V : ByteArray → Int} {ks : List AddD} {M : KeyM} {want : Int} (h : MetK V ks M want) {a : AddD} (ha : (mget M a.key).isSome) : MetK V (ks ++ [a]) M want :=
  ⟨h.tru, fun k => by
    rw [h.mem]
    constructor
    · rintro ⟨x, hx, e⟩; exact ⟨x, by simp [hx], e⟩
    · rintro ⟨x, hx, e⟩
      rw [List.mem_append] at hx
      rcases hx with hx | hx
      · exact ⟨x, hx, e⟩
      · simp at hx
        subst hx
        obtain ⟨y, hy, ey⟩ := (h.mem _).1 ha
        exact ⟨y, hy, ey.trans e⟩, h.sum, h.nod⟩
theorem MetK.new {V : ByteArray → Int} {ks : List AddD} {M : KeyM} {want : Int} (h : MetK V ks M want) {a : AddD} (ha : ¬ (mget M a.key).isSome) : MetK V (ks ++ [a]) (mput M a.key true) (want + V a.key) := by
  have e0 : mput M a.key true = M ++ [(a.key, true)] := by
    unfold mput
    rw [if_neg ha]
  refine ⟨fun p hp => ?_, fun k => ?_, ?_, nodup_mput h.nod _ _⟩
  · rw [e0, List.mem_append] at hp
    rcases hp with hp | hp
    · exact h.tru p hp
    · simp at hp; rw [hp]
  · rw [mget_mput]
    by_cases e : k = a.key
    · subst e
      simp only [if_pos]
      simp
    · rw [if_neg e, h.mem]
      constructor
      · rintro ⟨x, hx, e⟩; exact ⟨x, by simp [hx], e⟩
      · rintro ⟨x, hx, e'⟩
        rw [List.mem_append] at hx
        rcases hx with hx | hx
        · exact ⟨x, hx, e'⟩
        · simp at hx
          subst hx
          exact absurd e'.symm e
  · rw [e0, List.map_append, List.sum_append, h.sum]
    simp
theorem MetK.fin {wd s h e want : Int} {l : List AddD} {M : KeyM} {cs : List CntV} (hm : MetK (fun k => atV wd (l.filter rightB) s h k e) l M want) (ha : AllC wd (l.filter rightB) s h e cs) (hV : ∀ k, 0 ≤ atV wd (l.filter rightB) s h k e) : sumC cs = want := by
  rw [hm.sum]
  have e1 : M.map (fun p => (fun k => atV wd (l.filter rightB) s h k e) p.1) = (M.map (·.1)).map (fun k => atV wd (l.filter rightB) s h k e) := by rw [List.map_map]; rfl
  rw [e1]
  refine firsts_sum hV ha.nodup hm.nod (fun r hr => (ha.vals r hr).1) (fun k => ?_)
  rw [ha.keys]
  constructor
  · intro hp
    refine ⟨?_, hp⟩
    have h0 : histTot wd (l.filter rightB) k ((e - s) / wd) (e / wd) ≠ 0 := by
      unfold atV at hp
      split at hp
      · omega
      · omega
    obtain ⟨a, ha', ek, _⟩ := histTot_key h0
    obtain ⟨p, hp', ep⟩ := mget_isSome_iff.1 ((hm.mem k).2 ⟨a, (List.mem_filter.1 ha').1, ek⟩)
    exact List.mem_map.2 ⟨p, hp', ep⟩
  · rintro ⟨_, hp⟩; exact hp
theorem sum_bdC {V : ByteArray → Int} (h : ∀ k, 0 ≤ V k ∧ V k ≤ 1099511627776) : ∀ M : KeyM, 0 ≤ (M.map (fun p => V p.1)).sum ∧ (M.map (fun p => V p.1)).sum ≤ 1099511627776 * M.length
  | [] => by simp
  | p :: M => by
    have h1 := sum_bdC h M
    have h2 := h p.1
    simp only [List.map_cons, List.sum_cons, List.length_cons]
    have : ((M.length + 1 : Nat) : Int) = (M.length : Int) + 1 := by omega
    rw [this]
    omega
theorem MetK.len {V : ByteArray → Int} {ks : List AddD} {M : KeyM} {want : Int} (h : MetK V ks M want) : M.length ≤ ks.length := by
  have := nodup_le h.nod (m := ks.map (·.key)) (fun k hk => by
    obtain ⟨p, hp, rfl⟩ := List.mem_map.1 hk
    obtain ⟨a, ha, e⟩ := (h.mem p.1).1 (mget_isSome_iff.2 ⟨p, hp, rfl⟩)
    exact List.mem_map.2 ⟨a, ha, e⟩)
  simpa using this
theorem sumC_bd {cs : List CntV} (h : ∀ r ∈ cs, 0 ≤ r.n ∧ r.n ≤ 1099511627776) (k : Nat) : 0 ≤ sumC (cs.take k) ∧ sumC (cs.take k) ≤ 1099511627776 * cs.length := by
  have : ∀ l : List CntV, (∀ r ∈ l, 0 ≤ r.n ∧ r.n ≤ 1099511627776) → 0 ≤ sumC l ∧ sumC l ≤ 1099511627776 * l.length := by
    intro l
    induction l with
    | nil => intro _; simp [sumC]
    | cons a l ih =>
      intro hh
      have h1 := ih (fun r hr => hh r (by simp [hr]))
      have h2 := hh a (by simp)
      unfold sumC at *
      simp only [List.map_cons, List.sum_cons, List.length_cons]
      have : ((l.length + 1 : Nat) : Int) = (l.length : Int) + 1 := by omega
      rw [this]
      omega
  have h1 := this (cs.take k) (fun r hr => h r (List.mem_of_mem_take hr))
  have h2 := List.length_take_le k cs
  have h3 : ((cs.take k).length : Int) ≤ (cs.length : Int) := by rw [List.length_take]; omega
  omega
end Go.Proofs.Ytcaglkefhbbnbaa
