/- Panes that are merged, plainly. -/
import Derived.Test.YtbfjknpljkmgjaaPaneC
import Derived.Test.YtbfjknpljkmgjaaPaneK
import Derived.Test.YtbfjknpljkmgjaaPaneD
import Derived.Test.YtbfjknpljkmgjaaPaneE
import Derived.Test.YtbfjknpljkmgjaaKitR
namespace Go.Proofs.Ytbfjknpljkmgjaa
set_option linter.unusedVariables false
set_option linter.unusedSimpArgs false

/-- What holds of sums and rows, whatever was added. -/
structure PCore (S : SumsL) (R : RowsL) : Prop where
  nodS : (S.map (·.1)).Nodup
  nodR : (R.map (·.1)).Nodup
  pos : ∀ p ∈ S, 0 < p.2
  rowN : ∀ p ∈ R, p.2.ns.Nodup
  rowM : ∀ p ∈ R, ∀ n, n ∈ p.2.ns ↔ (mget S (p.1, n)).isSome
  rowS : ∀ p ∈ S, (mget R p.1.1).isSome
theorem PaneInv.core {wd : Int} {S : SumsL} {R : RowsL} {hist : List AddD} (h : PaneInv wd S R hist) : PCore S R := ⟨h.nodS, h.nodR, h.pos, h.rowN, h.rowM, h.rowS⟩
theorem val_nonneg {S : SumsL} (h : ∀ p ∈ S, 0 < p.2) (c : ByteArray × Int) : 0 ≤ val S c := by
  unfold val
  cases hl : mget S c with
  | none => simp
  | some v => have := h _ (mget_some_mem hl); simp; simp at this; omega
theorem tot_nonneg {S : SumsL} (h : ∀ p ∈ S, 0 < p.2) (key : ByteArray) (lo hi : Int) : 0 ≤ tot S key lo hi := by
  induction S with
  | nil => simp [tot]
  | cons p S ih =>
    rw [tot_cons]
    have h1 := ih (fun q hq => h q (by simp [hq]))
    have h2 := h p (by simp)
    split <;> omega
theorem isum_perm {l m : List Int} (h : l.Perm m) : l.sum = m.sum := by
  induction h with
  | nil => rfl
  | cons x _ ih => simp [ih]
  | swap x y l => simp; omega
  | trans _ _ h1 h2 => exact h1.trans h2
theorem tot_perm {S T : SumsL} (h : S.Perm T) (key : ByteArray) (lo hi : Int) : tot S key lo hi = tot T key lo hi := by
  unfold tot
  exact isum_perm ((h.filter _).map _)

theorem PCore.put {S : SumsL} {R : RowsL} (h : PCore S R) {key : ByteArray} {q n : Int} (hn : 1 ≤ n)
    {R' : RowsL} (hR : (0 < val S (key, q) ∧ R' = R) ∨ (val S (key, q) = 0 ∧ ∃ A c, R' = mput R key ⟨A, c, ((mget R key).map (·.ns)).getD [] ++ [q]⟩)) :
    PCore (mput S (key, q) (val S (key, q) + n)) R' := by
  have hvb := val_nonneg h.pos (key, q)
  have hnodS := nodup_mput h.nodS (key, q) (val S (key, q) + n)
  have hsome : ∀ c, (mget (mput S (key, q) (val S (key, q) + n)) c).isSome ↔ c = (key, q) ∨ (mget S c).isSome := by
    intro c
    rw [mget_mput]
    by_cases e : c = (key, q)
    · simp [e]
    · simp [e]
  have hpos : ∀ p ∈ mput S (key, q) (val S (key, q) + n), 0 < p.2 := by
    intro p hp
    rcases mem_mput hp with rfl | ⟨hp, _⟩
    · show 0 < val S (key, q) + n; omega
    · exact h.pos p hp
  rcases hR with ⟨hv, rfl⟩ | ⟨hv, A, c, rfl⟩
  · have hin : (mget S (key, q)).isSome := by
      cases hl : mget S (key, q) with
      | none => simp [val, hl] at hv
      | some v => rfl
    have hsome' : ∀ c, (mget (mput S (key, q) (val S (key, q) + n)) c).isSome ↔ (mget S c).isSome := by
      intro c
      rw [hsome]
      constructor
      · rintro (rfl | h)
        · exact hin
        · exact h
      · exact .inr
    refine ⟨hnodS, h.nodR, hpos, h.rowN, fun p hp n => by rw [hsome']; exact h.rowM p hp n, fun p hp => ?_⟩
    rcases mem_mput hp with rfl | ⟨hp, _⟩
    · obtain ⟨p, hp, e⟩ := mget_isSome_iff.1 hin
      have := h.rowS p hp
      rw [e] at this
      exact this
    · exact h.rowS p hp
  · have hnone : mget S (key, q) = none := by
      cases hl : mget S (key, q) with
      | none => rfl
      | some v =>
        have := h.pos _ (mget_some_mem hl)
        simp [val, hl] at hv
        simp at this
        omega
    have hold : ∀ n, n ∈ ((mget R key).map (·.ns)).getD [] ↔ (mget S (key, n)).isSome := by
      intro n
      cases hl : mget R key with
      | none =>
        simp only [Option.map_none, Option.getD_none, List.not_mem_nil, false_iff]
        intro hs
        obtain ⟨p, hp, e⟩ := mget_isSome_iff.1 hs
        have := h.rowS p hp
        rw [e] at this
        simp [hl] at this
      | some r => exact h.rowM _ (mget_some_mem hl) n
    have hoN : (((mget R key).map (·.ns)).getD []).Nodup := by
      cases hl : mget R key with
      | none => simp
      | some r => exact h.rowN _ (mget_some_mem hl)
    refine ⟨hnodS, nodup_mput h.nodR _ _, hpos, ?_, ?_, ?_⟩
    · intro p hp
      rcases mem_mput hp with rfl | ⟨hp, _⟩
      · show (_ ++ [q]).Nodup
        rw [List.nodup_append]
        refine ⟨hoN, by simp, ?_⟩
        intro x hx y hy
        simp at hy
        subst hy
        intro e
        subst e
        have := (hold x).1 hx
        rw [hnone] at this
        simp at this
      · exact h.rowN p hp
    · intro p hp n
      rw [hsome]
      rcases mem_mput hp with rfl | ⟨hp, hne⟩
      · show n ∈ _ ++ [q] ↔ _
        rw [List.mem_append, hold]
        simp
        constructor
        · rintro (h | h)
          · exact .inr h
          · exact .inl h
        · rintro (h | h)
          · exact .inr h
          · exact .inl h
      · rw [h.rowM p hp n]
        constructor
        · exact .inr
        · rintro (e | h)
          · exact absurd (congrArg Prod.fst e) hne
          · exact h
    · intro p hp
      rw [mget_mput]
      rcases mem_mput hp with rfl | ⟨hp, hne⟩
      · simp
      · by_cases e : p.1.1 = key
        · simp [e]
        · rw [if_neg e]; exact h.rowS p hp

/-- What holds while sums are being merged: those that are left to come make up what is lacking. -/
structure MInv (wd : Int) (H : List AddD) (left S : SumsL) (R : RowsL) : Prop where
  core : PCore S R
  lpos : ∀ p ∈ left, 0 < p.2
  lnod : (left.map (·.1)).Nodup
  cnt : H.length ≤ 1048576
  ticks : ∀ a ∈ H, 0 ≤ a.at_ ∧ a.at_ ≤ 1099511627776 ∧ 0 ≤ a.n ∧ a.n ≤ 1048576 ∧ 1 ≤ a.key.size ∧ a.key.size ≤ 24
  wide : 1 ≤ wd ∧ wd ≤ 1099511627776
  sums : ∀ key lo hi, tot S key lo hi + tot left key lo hi = histTot wd H key lo hi

theorem histTot_app (wd : Int) (hist ext : List AddD) (key : ByteArray) (lo hi : Int) : histTot wd (hist ++ ext) key lo hi = histTot wd hist key lo hi + histTot wd ext key lo hi := by
  unfold histTot
  rw [List.filter_append, List.map_append, List.sum_append]
theorem MInv.start {wd : Int} {S S2 : SumsL} {R R2 : RowsL} {hist hist2 : List AddD} (h : PaneInv wd S R hist) (h2 : PaneInv wd S2 R2 hist2) (hc : hist.length + hist2.length ≤ 1048576) : MInv wd (hist ++ hist2) S2 S R where
  core := h.core
  lpos := h2.pos
  lnod := h2.nodS
  cnt := by rw [List.length_append]; exact hc
  ticks := fun a ha => by
    rcases List.mem_append.1 ha with ha | ha
    · exact h.ticks a ha
    · exact h2.ticks a ha
  wide := h.wide
  sums := fun key lo hi => by rw [h.same, h2.same, histTot_app]
section
variable {wd : Int} {H : List AddD} {left S : SumsL} {R : RowsL}
theorem MInv.bd (h : MInv wd H left S R) (key : ByteArray) (lo hi : Int) : 0 ≤ tot S key lo hi ∧ 0 ≤ tot left key lo hi ∧ tot S key lo hi ≤ 1099511627776 ∧ tot left key lo hi ≤ 1099511627776 := by
  have h1 := histTot_bound wd H (fun a ha => ⟨(h.ticks a ha).2.2.1, (h.ticks a ha).2.2.2.1⟩) key lo hi
  have h2 := h.sums key lo hi
  have h3 := tot_nonneg h.core.pos key lo hi
  have h4 := tot_nonneg h.lpos key lo hi
  have := h.cnt
  omega
theorem MInv.valB (h : MInv wd H left S R) (key : ByteArray) (q : Int) : 0 ≤ val S (key, q) ∧ val S (key, q) ≤ 1099511627776 := by
  rw [val_tot S h.core.nodS]
  have := h.bd key q (q + 1)
  omega
theorem MInv.leftB (h : MInv wd H left S R) {key : ByteArray} {q v : Int} (hp : ((key, q), v) ∈ left) : 1 ≤ v ∧ v ≤ 1099511627776 := by
  have h1 := h.lpos _ hp
  have h2 := (h.bd key q (q + 1)).2.2.2
  rw [← val_tot left h.lnod] at h2
  have h3 : mget left (key, q) = some v := mget_of_mem h.lnod hp
  unfold val at h2
  rw [h3] at h2
  simp at h1 h2
  omega
/-- A pane of which there is something was added to. -/
theorem MInv.seen (h : MInv wd H left S R) {key : ByteArray} {q : Int} (hp : (mget S (key, q)).isSome) : (key, q) ∈ H.map (fun a => (a.key, a.at_ / wd)) := by
  obtain ⟨v, hv⟩ := Option.isSome_iff_exists.1 hp
  have h1 := h.core.pos _ (mget_some_mem hv)
  have h2 : val S (key, q) = v := by unfold val; rw [hv]; rfl
  rw [val_tot S h.core.nodS] at h2
  have h3 := h.sums key q (q + 1)
  have h4 := tot_nonneg h.lpos key q (q + 1)
  simp only at h1
  obtain ⟨a, ha, e1, e2, e3⟩ := histTot_key (wd := wd) (hist := H) (key := key) (lo := q) (hi := q + 1) (by omega)
  refine List.mem_map.2 ⟨a, ha, ?_⟩
  rw [e1, show a.at_ / wd = q by omega]
theorem MInv.rowL (h : MInv wd H left S R) {p : ByteArray × RowV} (hp : p ∈ R) : p.2.ns.length ≤ H.length := by
  have h1 := nodup_le (l := p.2.ns.map (fun n => (p.1, n))) (m := H.map (fun a => (a.key, a.at_ / wd))) (by
    refine List.pairwise_map.2 ((h.core.rowN p hp).imp ?_)
    intro a b hab e
    exact hab (congrArg Prod.snd e)) (fun x hx => by
      obtain ⟨n, hn, rfl⟩ := List.mem_map.1 hx
      exact h.seen ((h.core.rowM p hp n).1 hn))
  simpa using h1
theorem MInv.rowOfL (h : MInv wd H left S R) (key : ByteArray) : (rowOf R key).ns.length ≤ 1048576 := by
  unfold rowOf
  cases hl : mget R key with
  | none => simp
  | some r => have h1 := h.rowL (mget_some_mem hl); exact Nat.le_trans h1 h.cnt
theorem MInv.ok (h : MInv wd H left S R) {key : ByteArray} {q v : Int} (hp : ((key, q), v) ∈ left) : cellOk (key, q) := by
  have h1 := h.lpos _ hp
  have h2 : val left (key, q) = v := by unfold val; rw [mget_of_mem h.lnod hp]; rfl
  rw [val_tot left h.lnod] at h2
  have h3 := h.sums key q (q + 1)
  have h4 := tot_nonneg h.core.pos key q (q + 1)
  simp only at h1
  obtain ⟨a, ha, e1, e2, e3⟩ := histTot_key (wd := wd) (hist := H) (key := key) (lo := q) (hi := q + 1) (by omega)
  have ht := h.ticks a ha
  have hq : a.at_ / wd = q := by omega
  have hb := floor_bd a.at_ wd 1099511627776 h.wide.1 (by omega) (by omega) ht.2.1
  rw [hq] at hb
  refine ⟨?_, ?_⟩
  · rw [← e1]; show a.key.size ≤ _; unfold maxLen; omega
  · show _ ≤ q ∧ q ≤ _; omega
theorem MInv.put (h : MInv wd H left S R) {key : ByteArray} {q n : Int} (hp : ((key, q), n) ∈ left) {R' : RowsL} (hR : (0 < val S (key, q) ∧ R' = R) ∨ (val S (key, q) = 0 ∧ ∃ A c, R' = mput R key ⟨A, c, (rowOf R key).ns ++ [q]⟩)) :
    MInv wd H (mdel left (key, q)) (mput S (key, q) (val S (key, q) + n)) R' where
  core := h.core.put (h.leftB hp).1 (by rw [← rowOf_eq]; exact hR)
  lpos := fun p hp' => h.lpos p (List.mem_filter.1 hp').1
  lnod := mdel_nodup h.lnod _
  cnt := h.cnt
  ticks := h.ticks
  wide := h.wide
  sums := fun k lo hi => by
    rw [← h.sums k lo hi, tot_mput S h.core.nodS, tot_perm (mdel_perm h.lnod hp) k lo hi, tot_cons]
    simp only
    split <;> omega
theorem MInv.fin (h : MInv wd H [] S R) : PaneInv wd S R H :=
  ⟨h.core.nodS, h.core.nodR, h.core.pos, h.core.rowN, h.core.rowM, h.core.rowS, fun p hp => h.rowL hp, h.cnt, h.ticks, h.wide, fun key lo hi => by have := h.sums key lo hi; rw [tot_nil] at this; omega⟩
end
end Go.Proofs.Ytbfjknpljkmgjaa
