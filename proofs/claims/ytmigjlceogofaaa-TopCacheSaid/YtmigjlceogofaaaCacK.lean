/- The plain part of CacheRow: what was used last stands last. -/
import Derived.Test.YtmigjlceogofaaaCacJ
namespace Go.Proofs.Ytmigjlceogofaaa
set_option linter.unusedVariables false
set_option linter.unusedSimpArgs false

theorem COut.sub' {sz : Int} {V1 V' : CView} (h : COut sz V1 V') : ∀ p ∈ V', p ∈ V1 := by
  rcases h with ⟨_, rfl⟩ | ⟨_, o, e, _, _, rfl⟩
  · exact fun p hp => hp
  · exact fun p hp => (mem_mdel.1 hp).1

/-- What a cache's view always is. -/
structure VInv (us : Int) (V : CView) : Prop where
  nd : (V.map (·.1)).Nodup
  dis : UsesApart V
  le : ∀ p ∈ V, p.2.used ≤ us
theorem VInv.init : VInv 0 [] := ⟨by simp, by simp [UsesApart], by simp⟩
theorem VInv.put {us sz : Int} {V V' : CView} (h : VInv us V) {d : ByteArray} {e : PEnt} (he : e.used = us + 1) (hc : COut sz (mput V d e) V') : VInv (us + 1) V' := by
  obtain ⟨a1, a2, a3⟩ := put_common h.nd h.dis h.le d e he
  obtain ⟨b1, b2, b3, b4⟩ := del_common a1 a2 a3 hc
  exact ⟨b1, b2, b3⟩
theorem VInv.use {us : Int} {V : CView} (h : VInv us V) (d : ByteArray) : VInv (us + 1) (useV V d (us + 1)) := by
  refine ⟨by rw [keys_useV]; exact h.nd, ?_, ?_⟩
  · intro p hp q hq hu
    obtain ⟨p0, hp0, e1, _, _, f1⟩ := mem_useV hp
    obtain ⟨q0, hq0, e2, _, _, f2⟩ := mem_useV hq
    rw [e1, e2]
    have l1 := h.le p0 hp0
    have l2 := h.le q0 hq0
    rcases f1 with ⟨g1, u1⟩ | ⟨g1, u1⟩ <;> rcases f2 with ⟨g2, u2⟩ | ⟨g2, u2⟩
    · rw [g1, g2]
    · omega
    · omega
    · exact h.dis p0 hp0 q0 hq0 (by omega)
  · intro p hp
    obtain ⟨p0, hp0, _, _, _, f1⟩ := mem_useV hp
    have l1 := h.le p0 hp0
    rcases f1 with ⟨_, u1⟩ | ⟨_, u1⟩ <;> omega
theorem VInv.filter {us : Int} {V : CView} (h : VInv us V) (f : ByteArray × PEnt → Bool) : VInv us (V.filter f) :=
  ⟨h.nd.sublist (List.filter_sublist.map _), fun p hp q hq => h.dis p (List.mem_filter.1 hp).1 q (List.mem_filter.1 hq).1, fun p hp => h.le p (List.mem_filter.1 hp).1⟩

/-- A row of entries in the order of use. -/
def InOrder (M V : CView) : Prop := M.Perm V ∧ M.Pairwise (fun p q => p.2.used < q.2.used)
theorem order_of {us : Int} {V : CView} (h : VInv us V) : ∃ M, InOrder M V := by
  have hp : (V.mergeSort (fun p q => decide (p.2.used ≤ q.2.used))).Perm V := List.mergeSort_perm _ _
  refine ⟨V.mergeSort (fun p q => decide (p.2.used ≤ q.2.used)), hp, ?_⟩
  have h1 : (V.mergeSort (fun p q => decide (p.2.used ≤ q.2.used))).Pairwise (fun p q => decide (p.2.used ≤ q.2.used) = true) := List.pairwise_mergeSort (fun a b c h1 h2 => by simp at *; omega) (fun a b => by simp; omega) _
  have h2 : ((V.mergeSort (fun p q => decide (p.2.used ≤ q.2.used))).map (·.1)).Nodup := (hp.map _).nodup_iff.2 h.nd
  rw [List.Nodup, List.pairwise_map] at h2
  have h3 : ∀ p ∈ V.mergeSort (fun p q => decide (p.2.used ≤ q.2.used)), p ∈ V := fun p hp' => hp.subset hp'
  generalize V.mergeSort (fun p q => decide (p.2.used ≤ q.2.used)) = M at *
  clear hp
  induction M with
  | nil => simp
  | cons a M ih =>
    rw [List.pairwise_cons] at h1 h2 ⊢
    refine ⟨fun b hb => ?_, ih h1.2 h2.2 (fun p hp => h3 p (by simp [hp]))⟩
    have e1 := h1.1 b hb
    have e2 := h2.1 b hb
    have e3 : a.2.used ≠ b.2.used := fun e => e2 (h.dis a (h3 a (by simp)) b (h3 b (by simp [hb])) e)
    simp at e1
    omega
/-- What was used last stands last. -/
theorem order_last {M V : CView} (h : InOrder M V) {d : ByteArray} {e : PEnt} (hm : (d, e) ∈ V) (hlt : ∀ p ∈ V, p.1 ≠ d → p.2.used < e.used) (hn : (V.map (·.1)).Nodup) : ∃ K, M.map (·.1) = K ++ [d] := by
  have hmM : (d, e) ∈ M := h.1.symm.subset hm
  obtain ⟨K0, K1, hK⟩ := List.append_of_mem hmM
  cases K1 with
  | nil => exact ⟨K0.map (·.1), by rw [hK]; simp⟩
  | cons b K1 =>
    exfalso
    have hs := h.2
    rw [hK, List.pairwise_append] at hs
    have h1 := (List.pairwise_cons.1 hs.2.1).1 b (by simp)
    have hbV : b ∈ V := h.1.subset (by rw [hK]; simp)
    by_cases e1 : b.1 = d
    · have a1 := mget_of_mem hn (x := b.1) (v := b.2) (by simpa using hbV)
      have a2 := mget_of_mem hn hm
      rw [e1, a2] at a1
      injection a1 with a1
      rw [← a1] at h1
      simp at h1
    · have := hlt b hbV e1
      simp only at h1
      omega
theorem nodup_take {l : List ByteArray} (hn : l.Nodup) {j : Nat} (hj : j < l.length) : memB l[j] (l.take j) = false := by
  rw [memB_not]
  intro h
  obtain ⟨i, hi, e⟩ := List.getElem_of_mem h
  rw [List.getElem_take] at e
  simp at hi
  have := (List.getElem_inj hn).1 e
  omega

/-- There is room: what is put stands there, and was used last. -/
theorem put_stands {us sz : Int} {V V' : CView} (h : VInv us V) (hs : 0 < sz) {d : ByteArray} {e : PEnt} (he : e.used = us + 1) (hc : COut sz (mput V d e) V') : (d, e) ∈ V' ∧ ∀ p ∈ V', p.1 ≠ d → p.2.used < e.used := by
  obtain ⟨a1, a2, a3⟩ := put_common h.nd h.dis h.le d e he
  have hm : (d, e) ∈ mput V d e := mput_mem _ _ _
  refine ⟨?_, ?_⟩
  · rcases hc with ⟨_, rfl⟩ | ⟨hl, o, q, ho, hmin, rfl⟩
    · exact hm
    · rw [mem_mdel]
      refine ⟨hm, fun e1 => ?_⟩
      simp only at e1
      subst e1
      have hq : q = e := by
        have b1 := mget_of_mem a1 ho
        rw [mget_of_mem a1 hm] at b1
        injection b1 with b1
        exact b1.symm
      subst hq
      have hex : ∃ p ∈ mput V d q, p.1 ≠ d := by
        refine Classical.byContradiction fun hno => ?_
        have hall : ∀ p ∈ mput V d q, p.1 = d := fun p hp => Classical.byContradiction fun hne => hno ⟨p, hp, hne⟩
        have := nodup_sub_len _ [d] a1 (fun x hx => by
          obtain ⟨p, hp, rfl⟩ := List.mem_map.1 hx
          simp [hall p hp])
        simp at this
        omega
      obtain ⟨p, hp, hne⟩ := hex
      have h1 := hmin p hp
      rcases mem_mput.1 hp with ⟨hp', _⟩ | rfl
      · have := h.le p hp'; omega
      · exact hne rfl
  · intro p hp hne
    rcases mem_mput.1 (hc.sub' p hp) with ⟨hp', _⟩ | rfl
    · have := h.le p hp'; omega
    · exact absurd rfl hne
theorem use_stands {us : Int} {V : CView} (h : VInv us V) {d : ByteArray} {q : PEnt} (hg : mget V d = some q) : (d, { q with used := us + 1 }) ∈ useV V d (us + 1) ∧ ∀ p ∈ useV V d (us + 1), p.1 ≠ d → p.2.used < us + 1 := by
  refine ⟨List.mem_map.2 ⟨(d, q), mget_some_mem hg, by simp⟩, fun p hp hne => ?_⟩
  obtain ⟨p0, hp0, e1, _, _, f⟩ := mem_useV hp
  have := h.le p0 hp0
  rcases f with ⟨g, _⟩ | ⟨_, u⟩
  · exact absurd (e1.trans g) hne
  · omega
theorem COut.size {sz : Int} {V1 V' : CView} (h : COut sz V1 V') (hn : (V1.map (·.1)).Nodup) (hl : (V1.length : Int) ≤ sz + 1) : (V'.length : Int) ≤ sz := by
  rcases h with ⟨h, rfl⟩ | ⟨_, o, e, ho, _, rfl⟩
  · exact h
  · have := mdel_len hn (p := (o, e)) ho
    simp only at this
    omega
theorem touch_twice (V : CView) (ds : List ByteArray) : touchV (touchV V ds) ds = touchV V ds := by
  unfold touchV
  rw [List.filter_filter]
  apply List.filter_congr
  intro p _
  simp
end Go.Proofs.Ytmigjlceogofaaa
