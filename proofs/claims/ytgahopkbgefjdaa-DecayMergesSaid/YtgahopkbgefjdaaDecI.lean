/- Plain facts on trimming: what is left of rows, and of what was added. -/
import Derived.Test.YtgahopkbgefjdaaDecP
namespace Go.Proofs.Ytgahopkbgefjdaa
set_option linter.unusedVariables false
set_option linter.unusedSimpArgs false

def kp (old : Int) (q : Int × Int) : Bool := decide (old < q.1)
def np (old : Int) (q : Int × Int) : Bool := decide (q.1 ≤ old)

/-- Trimmed are the keys of done. -/
structure TrimPart (S : KeysL) (R : Nat → RowL) (old : Int) (done : List ByteArray) (S' : KeysL) (R' : Nat → RowL) : Prop where
  sub : S'.Sublist S
  rest : ∀ p ∈ S, ¬ p.1 ∈ done → p ∈ S' ∧ R' p.2 = R p.2
  cut : ∀ p ∈ S', p.1 ∈ done → R' p.2 = (R p.2).filter (kp old) ∧ R' p.2 ≠ []
  gone : ∀ p ∈ S, p.1 ∈ done → ¬ p ∈ S' → (R p.2).filter (kp old) = []
theorem TrimPart.start (S : KeysL) (R : Nat → RowL) (old : Int) : TrimPart S R old [] S R := ⟨List.Sublist.refl _, fun p hp _ => ⟨hp, rfl⟩, by simp, by simp⟩

section
variable {S S' : KeysL} {R R' : Nat → RowL} {old : Int} {done : List ByteArray}
/-- A key's row was cut, and there is something left. -/
theorem TrimPart.keep (h : TrimPart S R old done S' R') (hS : (S.map (·.1)).Nodup) (hD : (S.map (·.2)).Nodup) {k : ByteArray} {b : Nat} (hk : (k, b) ∈ S) (hn : ¬ k ∈ done) (hne : (R b).filter (kp old) ≠ []) : TrimPart S R old (done ++ [k]) S' (upd R' b ((R b).filter (kp old))) := by
  have hb : ∀ p ∈ S, p.2 = b → p = (k, b) := fun p hp e => by
    obtain ⟨i, hi, rfl⟩ := List.getElem_of_mem hp
    obtain ⟨j, hj, e2⟩ := List.getElem_of_mem hk
    have := List.getElem_inj (i := i) (j := j) (h₀ := by simpa using hi) (h₁ := by simpa using hj) hD
    have hij : i = j := this.1 (by simp [e, e2])
    subst hij
    exact e2
  have hkS' := (h.rest _ hk hn).1
  refine ⟨h.sub, fun p hp hd => ?_, fun p hp hd => ?_, fun p hp hd hns => ?_⟩
  · have hd1 : ¬ p.1 ∈ done := fun e => hd (by simp [e])
    have hd2 : p.1 ≠ k := fun e => hd (by simp [e])
    have := h.rest p hp hd1
    refine ⟨this.1, ?_⟩
    rw [upd_ne _ _ (fun e => hd2 (by rw [hb p hp e]))]
    exact this.2
  · by_cases e : p.2 = b
    · have := hb p (h.sub.subset hp) e
      subst this
      refine ⟨by rw [upd_same], by rw [upd_same]; exact hne⟩
    · rw [upd_ne _ _ e]
      refine h.cut p hp ?_
      rcases List.mem_append.1 hd with h1 | h1
      · exact h1
      · simp at h1
        have h2 := mget_of_mem hS (x := p.1) (v := p.2) (by simpa using h.sub.subset hp)
        have h3 := mget_of_mem hS hk
        rw [h1, h3] at h2
        injection h2 with h2
        exact absurd h2.symm e
  · rcases List.mem_append.1 hd with h1 | h1
    · exact h.gone p hp h1 hns
    · simp at h1
      have h2 := mget_of_mem hS (x := p.1) (v := p.2) (by simpa using hp)
      have h3 := mget_of_mem hS hk
      rw [h1, h3] at h2
      injection h2 with h2
      have : p = (k, b) := Prod.ext h1 h2.symm
      rw [this] at hns
      exact absurd hkS' hns
/-- A key's row was cut, and nothing is left. -/
theorem TrimPart.drop (h : TrimPart S R old done S' R') (hS : (S.map (·.1)).Nodup) (hD : (S.map (·.2)).Nodup) {k : ByteArray} {b : Nat} (hk : (k, b) ∈ S) (hn : ¬ k ∈ done) (hne : (R b).filter (kp old) = []) (r : RowL) : TrimPart S R old (done ++ [k]) (mdel S' k) (upd R' b r) := by
  have hb : ∀ p ∈ S, p.2 = b → p = (k, b) := fun p hp e => by
    obtain ⟨i, hi, rfl⟩ := List.getElem_of_mem hp
    obtain ⟨j, hj, e2⟩ := List.getElem_of_mem hk
    have := List.getElem_inj (i := i) (j := j) (h₀ := by simpa using hi) (h₁ := by simpa using hj) hD
    have hij : i = j := this.1 (by simp [e, e2])
    subst hij
    exact e2
  have hmem : ∀ {p : ByteArray × Nat}, p ∈ mdel S' k ↔ p ∈ S' ∧ p.1 ≠ k := fun {p} => by unfold mdel; rw [List.mem_filter]; simp
  refine ⟨List.filter_sublist.trans h.sub, fun p hp hd => ?_, fun p hp hd => ?_, fun p hp hd hns => ?_⟩
  · have hd1 : ¬ p.1 ∈ done := fun e => hd (by simp [e])
    have hd2 : p.1 ≠ k := fun e => hd (by simp [e])
    have := h.rest p hp hd1
    refine ⟨hmem.2 ⟨this.1, hd2⟩, ?_⟩
    rw [upd_ne _ _ (fun e => hd2 (by rw [hb p hp e]))]
    exact this.2
  · obtain ⟨hp1, hp2⟩ := hmem.1 hp
    rw [upd_ne _ _ (fun e => hp2 (by rw [hb p (h.sub.subset hp1) e]))]
    refine h.cut p hp1 ?_
    rcases List.mem_append.1 hd with h1 | h1
    · exact h1
    · simp at h1; exact absurd h1 hp2
  · by_cases e : p.1 = k
    · have h2 := mget_of_mem hS (x := p.1) (v := p.2) (by simpa using hp)
      have h3 := mget_of_mem hS hk
      rw [e, h3] at h2
      injection h2 with h2
      rw [← h2]; exact hne
    · refine h.gone p hp ?_ (fun h1 => hns (hmem.2 ⟨h1, e⟩))
      rcases List.mem_append.1 hd with h1 | h1
      · exact h1
      · simp at h1; exact absurd h1 e

theorem TrimPart.row (h : TrimPart S R old done S' R') (hS : (S.map (·.1)).Nodup) (hall : ∀ p ∈ S, p.1 ∈ done) (key : ByteArray) : mrow S' R' key = (mrow S R key).filter (kp old) := by
  have hS' : (S'.map (·.1)).Nodup := hS.sublist (h.sub.map _)
  unfold mrow
  cases hg : mget S key with
  | none =>
    have : mget S' key = none := mget_none_iff.2 (fun p hp => mget_none_iff.1 hg p (h.sub.subset hp))
    rw [this]
    rfl
  | some b =>
    have hm := mget_some_mem hg
    by_cases hin : (key, b) ∈ S'
    · rw [mget_of_mem hS' hin]
      exact (h.cut _ hin (hall _ hm)).1
    · have h0 := h.gone _ hm (hall _ hm) hin
      have : mget S' key = none := by
        cases hg' : mget S' key with
        | none => rfl
        | some b' =>
          have hm' := mget_some_mem hg'
          have := mget_of_mem hS (h.sub.subset hm')
          rw [hg] at this
          injection this with this
          subst this
          exact absurd hm' hin
      rw [this]
      simp only at h0 ⊢
      exact h0.symm
end

theorem rowSum_filter (f : Int → Int) (old : Int) : ∀ r : RowL, rowSum f (r.filter (kp old)) = rowSum (fun a => if old < a then f a else 0) r
  | [] => rfl
  | q :: r => by
    have ih := rowSum_filter f old r
    have e1 : rowSum (fun a => if old < a then f a else 0) (q :: r) = q.2 * (if old < q.1 then f q.1 else 0) + rowSum (fun a => if old < a then f a else 0) r := rfl
    rw [List.filter_cons, e1, ← ih]
    unfold kp
    by_cases h : old < q.1
    · rw [if_pos (by simpa using h), if_pos h]; rfl
    · rw [if_neg (by simpa using h), if_neg h]; simp
def hk (old : Int) (a : AddD) : Bool := decide (old < a.at_)
theorem histSum_filter (f : Int → Int) (key : ByteArray) (old : Int) : ∀ l : List AddD, histSum f key (l.filter (hk old)) = histSum (fun a => if old < a then f a else 0) key l
  | [] => rfl
  | a :: l => by
    have ih := histSum_filter f key old l
    have e1 : histSum (fun a => if old < a then f a else 0) key (a :: l) = histN (fun a => if old < a then f a else 0) key a + histSum (fun a => if old < a then f a else 0) key l := rfl
    rw [List.filter_cons, e1, ← ih]
    unfold hk
    by_cases h : old < a.at_
    · rw [if_pos (by simpa using h)]
      have : histN (fun a => if old < a then f a else 0) key a = histN f key a := by unfold histN; simp [h]
      rw [this]; rfl
    · rw [if_neg (by simpa using h)]
      have : histN (fun a => if old < a then f a else 0) key a = 0 := by unfold histN; split <;> simp [h]
      rw [this, Int.zero_add]

theorem sum_filter_le (l : List AddD) (p : AddD → Bool) (h : ∀ a ∈ l, 0 ≤ a.n) : ((l.filter p).map (·.n)).sum ≤ (l.map (·.n)).sum := by
  induction l with
  | nil => simp
  | cons a l ih =>
    have ih' := ih (fun b hb => h b (by simp [hb]))
    have h0 := h a (by simp)
    rw [List.filter_cons]
    split
    · simp only [List.map_cons, List.sum_cons]; omega
    · simp only [List.map_cons, List.sum_cons]; omega

theorem DecInv.trim {S S' : KeysL} {R R' : Nat → RowL} {hist : List AddD} {cnt : Int} (h : DecInv S R hist cnt) {old : Int} {done : List ByteArray} (ht : TrimPart S R old done S' R') (hS : (S.map (·.1)).Nodup) (hall : ∀ p ∈ S, p.1 ∈ done) : DecInv S' R' (hist.filter (hk old)) cnt where
  eqs := fun key f => by rw [ht.row hS hall key, rowSum_filter, h.eqs, histSum_filter]
  some_ := fun p hp => (ht.cut p hp (hall p (ht.sub.subset hp))).2
  pos := fun p hp q hq => by
    rw [(ht.cut p hp (hall p (ht.sub.subset hp))).1] at hq
    exact h.pos p (ht.sub.subset hp) q (List.mem_filter.1 hq).1
  good := fun a ha => h.good a (List.mem_filter.1 ha).1
  total := Int.le_trans (sum_filter_le hist _ (fun a ha => (h.good a ha).1)) h.total
  cnt0 := h.cnt0

/-- How many ticks of keys go. -/
def trimN (S : KeysL) (R : Nat → RowL) (old : Int) (ks : List ByteArray) : Nat := (ks.map fun k => ((mrow S R k).filter (np old)).length).sum
theorem trimN_snoc (S : KeysL) (R : Nat → RowL) (old : Int) (ks : List ByteArray) (k : ByteArray) : trimN S R old (ks ++ [k]) = trimN S R old ks + ((mrow S R k).filter (np old)).length := by simp [trimN]
theorem trimN_perm {S : KeysL} {R : Nat → RowL} {old : Int} {ks ks' : List ByteArray} (h : ks.Perm ks') : trimN S R old ks = trimN S R old ks' := (h.map _).sum_nat
end Go.Proofs.Ytgahopkbgefjdaa
