/- The plain part of CachePlays: the cache's entries in order of use are the reference's row. -/
import Derived.Test.YtjfknojkiiileaaCacK
import Derived.Test.YtjfknojkiiileaaRefB
namespace Go.Proofs.Ytjfknojkiiileaa
set_option linter.unusedVariables false
set_option linter.unusedSimpArgs false

def rplain (e : REnt) : ByteArray × ByteArray × List ByteArray := (e.key, e.val, e.deps.l)
def pplain (p : ByteArray × PEnt) : ByteArray × ByteArray × List ByteArray := (p.1, p.2.val, p.2.deps)
/-- The reference's row is the view in order of use. -/
def Sim (V : CView) (m : List REnt) : Prop := ∃ M, InOrder M V ∧ m.map rplain = M.map pplain

section
variable {κ υ : Type} [DecidableEq κ]
theorem mput_perm {l : List (κ × υ)} (hn : (l.map (·.1)).Nodup) (x : κ) (v : υ) : (mput l x v).Perm (mdel l x ++ [(x, v)]) := by
  induction l with
  | nil => simp [mput, mget, mdel]
  | cons a l ih =>
    simp only [List.map_cons, List.nodup_cons] at hn
    have ih' := ih hn.2
    by_cases ha : a.1 = x
    · have hno : mget l x = none := mget_none_iff.2 (fun p hp e => hn.1 (by rw [ha, ← e]; exact List.mem_map.2 ⟨p, hp, rfl⟩))
      have e1 : mput (a :: l) x v = (x, v) :: l := by
        unfold mput
        obtain ⟨a1, a2⟩ := a
        simp only at ha
        subst ha
        simp only [mget, if_true, Option.isSome_some, List.map_cons, if_true]
        congr 1
        rw [List.map_congr_left (g := id) (fun p hp => by
          have := mget_none_iff.1 hno p hp
          simp [this])]
        simp
      have e2 : mdel (a :: l) x = l := by
        unfold mdel
        rw [List.filter_cons, if_neg (by simp [ha]), List.filter_eq_self]
        intro p hp
        simpa using mget_none_iff.1 hno p hp
      rw [e1, e2]
      exact (List.perm_append_comm (l₁ := l) (l₂ := [(x, v)])).symm
    · have e1 : mput (a :: l) x v = a :: mput l x v := by
        unfold mput
        obtain ⟨a1, a2⟩ := a
        simp only at ha
        have ha' : ¬ x = a1 := fun e => ha e.symm
        simp only [mget, ha', if_false]
        split
        · simp [ha]
        · simp
      have e2 : mdel (a :: l) x = a :: mdel l x := by
        unfold mdel
        rw [List.filter_cons, if_pos (by simpa using ha)]
      rw [e1, e2]
      exact List.Perm.cons a ih'
theorem mdel_perm_of {l m : List (κ × υ)} (h : l.Perm m) (x : κ) : (mdel l x).Perm (mdel m x) := h.filter _
end

theorem sim_keys {V : CView} {m : List REnt} (h : Sim V m) : ∃ M, InOrder M V ∧ m.map rplain = M.map pplain ∧ m.map (·.key) = M.map (·.1) ∧ m.length = V.length := by
  obtain ⟨M, hM, he⟩ := h
  refine ⟨M, hM, he, ?_, ?_⟩
  · have := congrArg (List.map (fun q : ByteArray × ByteArray × List ByteArray => q.1)) he
    rw [List.map_map, List.map_map] at this
    exact this
  · have h1 := congrArg List.length he
    simp at h1
    rw [h1]
    exact hM.1.length_eq
theorem sim_nodup {V : CView} {m : List REnt} (h : Sim V m) (hn : (V.map (·.1)).Nodup) : (m.map (·.key)).Nodup := by
  obtain ⟨M, hM, _, hk, _⟩ := sim_keys h
  rw [hk]
  exact (hM.1.map _).nodup_iff.2 hn
theorem wo_map {m : List REnt} {M : CView} (h : m.map rplain = M.map pplain) (key : ByteArray) : (woV m key).map rplain = (mdel M key).map pplain := by
  unfold woV mdel
  refine filter_aligned _ _ _ _ _ _ h (fun i x y hx hy => ?_)
  have h1 : (m.map rplain)[i]? = some (rplain x) := by rw [List.getElem?_map, hx]; rfl
  rw [h, List.getElem?_map, hy] at h1
  have : x.key = y.1 := by
    have := Option.some.inj h1
    have := congrArg (fun q : ByteArray × ByteArray × List ByteArray => q.1) this
    exact this.symm
  rw [this]

theorem order_put {us : Int} {V M : CView} (hi : VInv us V) (hM : InOrder M V) (key : ByteArray) (q : PEnt) (hq : q.used = us + 1) : InOrder (mdel M key ++ [(key, q)]) (mput V key q) := by
  refine ⟨((mdel_perm_of hM.1 key).append_right _).trans (mput_perm hi.nd key q).symm, ?_⟩
  rw [List.pairwise_append]
  refine ⟨hM.2.sublist List.filter_sublist, by simp, fun a ha b hb => ?_⟩
  simp at hb
  subst hb
  have := hi.le a (hM.1.subset (mem_mdel.1 ha).1)
  simp only
  omega

theorem sim_put {us sz : Int} {V V' : CView} {m : List REnt} (hi : VInv us V) (h : Sim V m) (e : REnt) (q : PEnt) (hq : q.used = us + 1) (hv : rplain e = pplain (e.key, q)) (hc : COut sz (mput V e.key q) V') : Sim V' (rputV m sz e) := by
  obtain ⟨M, hM, he⟩ := h
  have hO := order_put hi hM e.key q hq
  have hw := wo_map he e.key
  obtain ⟨a1, a2, a3⟩ := put_common hi.nd hi.dis hi.le e.key q hq
  have hm1 : (woV m e.key ++ [e]).map rplain = (mdel M e.key ++ [(e.key, q)]).map pplain := by
    rw [List.map_append, List.map_append, hw]
    simp [hv]
  have hlen : (woV m e.key).length + 1 = (mput V e.key q).length := by
    have h1 := congrArg List.length hm1
    have h2 := hO.1.length_eq
    simp at h1 h2
    omega
  unfold rputV
  rcases hc with ⟨hl, rfl⟩ | ⟨hl, o, eo, ho, hmin, rfl⟩
  · rw [if_neg (by omega)]
    exact ⟨_, hO, hm1⟩
  · rw [if_pos (by omega)]
    generalize mdel M e.key ++ [(e.key, q)] = M1 at *
    cases M1 with
    | nil =>
      have := hO.1.symm.subset ho
      simp at this
    | cons a M2 =>
      refine ⟨M2, ⟨?_, (List.pairwise_cons.1 hO.2).2⟩, ?_⟩
      · have hao : a.1 = o := by
          have haV : a ∈ mput V e.key q := hO.1.subset (by simp)
          have h1 := hmin a haV
          have ho' := hO.1.symm.subset ho
          rcases List.mem_cons.1 ho' with h2 | h2
          · rw [← h2]
          · have h3 := (List.pairwise_cons.1 hO.2).1 _ h2
            simp only at h3
            omega
        have hp := hO.1
        have hd : (mdel (a :: M2) o).Perm (mdel (mput V e.key q) o) := mdel_perm_of hp o
        have hnd : ((a :: M2).map (·.1)).Nodup := (hp.map _).nodup_iff.2 a1
        have e2 : mdel (a :: M2) o = M2 := by
          simp only [List.map_cons, List.nodup_cons] at hnd
          unfold mdel
          rw [List.filter_cons, if_neg (by simp [hao]), List.filter_eq_self]
          intro p hp
          have : p.1 ≠ o := fun e => hnd.1 (by rw [hao, ← e]; exact List.mem_map.2 ⟨p, hp, rfl⟩)
          simpa using this
        rw [e2] at hd
        exact hd
      · have h1 := congrArg (List.drop 1) hm1
        rw [← List.map_drop, ← List.map_drop] at h1
        simpa using h1

theorem useV_perm {V : CView} (hn : (V.map (·.1)).Nodup) {key : ByteArray} {q : PEnt} (hg : mget V key = some q) (x : Int) : (useV V key x).Perm (mput V key { q with used := x }) := by
  have : useV V key x = mput V key { q with used := x } := by
    unfold useV mput
    rw [hg]
    simp only [Option.isSome_some, if_true]
    apply List.map_congr_left
    intro p hp
    by_cases e : p.1 = key
    · rw [if_pos e, if_pos e]
      have h1 := mget_of_mem hn (x := p.1) (v := p.2) (by simpa using hp)
      rw [e, hg] at h1
      injection h1 with h1
      rw [e, h1]
    · rw [if_neg e, if_neg e]
  rw [this]
theorem sim_use {us sz : Int} {V : CView} {m : List REnt} (hi : VInv us V) (h : Sim V m) (hs : (V.length : Int) ≤ sz) {e : REnt} (hem : e ∈ m) {q : PEnt} (hg : mget V e.key = some q) (hv : rplain e = pplain (e.key, q)) : Sim (useV V e.key (us + 1)) (rputV m sz e) := by
  have hp := useV_perm hi.nd hg (us + 1)
  have hl : (mput V e.key { q with used := us + 1 }).length = V.length := by rw [← hp.length_eq]; simp [useV]
  have := sim_put (sz := sz) (V' := mput V e.key { q with used := us + 1 }) hi h e { q with used := us + 1 } rfl hv (.inl ⟨by omega, rfl⟩)
  obtain ⟨M, hM, he⟩ := this
  exact ⟨M, ⟨hM.1.trans hp.symm, hM.2⟩, he⟩
/-- What the reference has of a key. -/
theorem sim_at {us : Int} {V : CView} {m : List REnt} (hi : VInv us V) (h : Sim V m) {e : REnt} (he : e ∈ m) : ∃ q, mget V e.key = some q ∧ rplain e = pplain (e.key, q) := by
  obtain ⟨M, hM, hm⟩ := h
  have h1 : rplain e ∈ M.map pplain := by rw [← hm]; exact List.mem_map.2 ⟨e, he, rfl⟩
  obtain ⟨p, hp, hpe⟩ := List.mem_map.1 h1
  have hk : p.1 = e.key := congrArg (fun q : ByteArray × ByteArray × List ByteArray => q.1) hpe
  have h2 := mget_of_mem hi.nd (x := p.1) (v := p.2) (by simpa using hM.1.subset hp)
  rw [hk] at h2
  refine ⟨p.2, h2, ?_⟩
  rw [← hpe]
  unfold pplain
  rw [hk]
theorem sim_none {V : CView} {m : List REnt} (h : Sim V m) {key : ByteArray} (hno : ∀ e ∈ m, e.key ≠ key) : mget V key = none := by
  obtain ⟨M, hM, _, hk, _⟩ := sim_keys h
  rw [mget_none_iff]
  intro p hp e
  have : p.1 ∈ m.map (·.key) := by rw [hk]; exact List.mem_map.2 ⟨p, hM.1.symm.subset hp, rfl⟩
  obtain ⟨x, hx, hxe⟩ := List.mem_map.1 this
  exact hno x hx (hxe.trans e)
theorem any_mem_comm (a b : List ByteArray) : (a.any fun d => memB d b) = b.any (fun d => memB d a) := by
  rw [Bool.eq_iff_iff, List.any_eq_true, List.any_eq_true]
  constructor
  · rintro ⟨x, hx, h⟩; exact ⟨x, memB_iff.1 h, memB_iff.2 hx⟩
  · rintro ⟨x, hx, h⟩; exact ⟨x, memB_iff.1 h, memB_iff.2 hx⟩
theorem sim_touch {V : CView} {m : List REnt} (h : Sim V m) (ds : List ByteArray) : Sim (touchV V ds) (rtouchV m ds) := by
  obtain ⟨M, hM, he⟩ := h
  refine ⟨touchV M ds, ⟨hM.1.filter _, hM.2.sublist List.filter_sublist⟩, ?_⟩
  unfold touchV rtouchV
  refine filter_aligned _ _ _ _ _ _ he (fun i x y hx hy => ?_)
  have h1 : (m.map rplain)[i]? = some (rplain x) := by rw [List.getElem?_map, hx]; rfl
  rw [he, List.getElem?_map, hy] at h1
  have : x.deps.l = y.2.deps := by
    have := Option.some.inj h1
    have := congrArg (fun q : ByteArray × ByteArray × List ByteArray => q.2.2) this
    exact this.symm
  rw [this, any_mem_comm]
theorem sim_len {V : CView} {m : List REnt} (h : Sim V m) : m.length = V.length := by
  obtain ⟨M, _, _, _, h⟩ := sim_keys h
  exact h
theorem rput_mem {m : List REnt} {sz : Int} {e x : REnt} (h : x ∈ rputV m sz e) : x ∈ m ∨ x = e := by
  have h1 : x ∈ woV m e.key ++ [e] := by
    unfold rputV at h
    split at h
    · exact List.mem_of_mem_drop h
    · exact h
  rcases List.mem_append.1 h1 with h2 | h2
  · exact .inl (List.mem_filter.1 h2).1
  · exact .inr (by simpa using h2)
end Go.Proofs.Ytjfknojkiiileaa
