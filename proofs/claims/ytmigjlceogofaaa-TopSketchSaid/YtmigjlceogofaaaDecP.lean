/- Plain facts on sums of keys by ticks: no program in sight. -/
import Derived.Test.YtmigjlceogofaaaPaneP
namespace Go.Proofs.Ytmigjlceogofaaa
set_option linter.unusedVariables false
set_option linter.unusedSimpArgs false

abbrev RowL := List (Int × Int)
abbrev KeysL := List (ByteArray × Nat)

def rowSum (f : Int → Int) (r : RowL) : Int := (r.map (fun q => q.2 * f q.1)).sum
def histN (f : Int → Int) (key : ByteArray) (a : AddD) : Int := if a.key = key then a.n * f a.at_ else 0
def histSum (f : Int → Int) (key : ByteArray) (hist : List AddD) : Int := (hist.map (histN f key)).sum
def mrow (S : KeysL) (R : Nat → RowL) (key : ByteArray) : RowL := match mget S key with | some b => R b | none => []
def upd (R : Nat → RowL) (b : Nat) (r : RowL) (k : Nat) : RowL := if k = b then r else R k

theorem upd_same (R : Nat → RowL) (b : Nat) (r : RowL) : upd R b r b = r := by simp [upd]
theorem upd_ne (R : Nat → RowL) {b k : Nat} (r : RowL) (h : k ≠ b) : upd R b r k = R k := by simp [upd, h]

theorem histSum_snoc (f : Int → Int) (key : ByteArray) (l : List AddD) (a : AddD) : histSum f key (l ++ [a]) = histSum f key l + histN f key a := by simp [histSum]

theorem rowSum_update (f : Int → Int) (x v : Int) : ∀ r : RowL, (r.map (·.1)).Nodup → (mget r x).isSome → rowSum f (r.map (fun p => if p.1 = x then (x, v) else p)) = rowSum f r + (v - (mget r x).getD 0) * f x
  | [], _, h => by simp [mget] at h
  | (a, u) :: r, hn, h => by
    have hn' : (r.map (·.1)).Nodup := by simp only [List.map_cons, List.nodup_cons] at hn; exact hn.2
    by_cases ha : a = x
    · subst ha
      have hnone : ∀ p ∈ r, p.1 ≠ a := fun p hp e => by
        simp only [List.map_cons, List.nodup_cons, List.mem_map, not_exists, not_and] at hn
        exact hn.1 p hp e
      have e : r.map (fun p => if p.1 = a then (a, v) else p) = r := by
        conv => rhs; rw [← List.map_id r]
        exact List.map_congr_left (fun p hp => by rw [if_neg (hnone p hp)]; rfl)
      have e2 : rowSum f ((a, u) :: r) = u * f a + rowSum f r := rfl
      have e3 : rowSum f ((a, v) :: r) = v * f a + rowSum f r := rfl
      rw [List.map_cons, if_pos rfl, e, e2, e3]
      simp [mget, Int.sub_mul]
      omega
    · have h1 : ¬ x = a := Ne.symm ha
      have h' : (mget r x).isSome := by simpa [mget, h1] using h
      have ih := rowSum_update f x v r hn' h'
      have e2 : rowSum f ((a, u) :: r) = u * f a + rowSum f r := rfl
      rw [List.map_cons, if_neg ha, e2]
      show u * f a + rowSum f _ = _
      rw [ih]
      simp [mget, h1]
      omega

theorem rowSum_mput (f : Int → Int) (r : RowL) (hn : (r.map (·.1)).Nodup) (x n : Int) : rowSum f (mput r x ((mget r x).getD 0 + n)) = rowSum f r + n * f x := by
  unfold mput
  split
  · rename_i h
    rw [rowSum_update f x _ r hn h]
    congr 2
    omega
  · rename_i h
    have hnone : mget r x = none := Option.not_isSome_iff_eq_none.1 h
    simp [rowSum, hnone]

theorem mem_rowput {r : RowL} {x v : Int} {q : Int × Int} (h : q ∈ mput r x v) : q = (x, v) ∨ q ∈ r := by
  unfold mput at h
  split at h
  · obtain ⟨p, hp, e⟩ := List.mem_map.1 h
    split at e
    · exact .inl e.symm
    · subst e; exact .inr hp
  · rcases List.mem_append.1 h with h | h
    · exact .inr h
    · simp at h; exact .inl h
theorem mput_ne_nil (r : RowL) (x v : Int) : mput r x v ≠ [] := by
  unfold mput
  split
  · rename_i h
    intro e
    have : r = [] := by simpa using e
    subst this
    simp [mget] at h
  · simp

/-- What stands of what was added. -/
structure DecInv (S : KeysL) (R : Nat → RowL) (hist : List AddD) (cnt : Int) : Prop where
  eqs : ∀ key f, rowSum f (mrow S R key) = histSum f key hist
  some_ : ∀ p ∈ S, R p.2 ≠ []
  pos : ∀ p ∈ S, ∀ q ∈ R p.2, 0 < q.2 ∧ 0 ≤ q.1 ∧ q.1 ≤ 1099511627776
  good : ∀ a ∈ hist, 0 ≤ a.n ∧ 0 ≤ a.at_ ∧ a.at_ ≤ 1099511627776
  total : (hist.map (·.n)).sum ≤ 1048576 * cnt
  cnt0 : 0 ≤ cnt ∧ cnt ≤ 1048576

theorem DecInv.start (R : Nat → RowL) : DecInv [] R [] 0 :=
  ⟨fun _ _ => rfl, by simp, by simp, by simp, by simp, by omega⟩

theorem histSum_le (key : ByteArray) : ∀ hist : List AddD, (∀ a ∈ hist, 0 ≤ a.n ∧ 0 ≤ a.at_ ∧ a.at_ ≤ 1099511627776) → histSum (fun _ => 1) key hist ≤ (hist.map (·.n)).sum
  | [], _ => by simp [histSum]
  | a :: l, hg => by
    have e3 : histSum (fun _ => 1) key (a :: l) = histN (fun _ => 1) key a + histSum (fun _ => 1) key l := rfl
    have h1 := histSum_le key l (fun z hz => hg z (by simp [hz]))
    have h3 := (hg a (by simp)).1
    have h4 : histN (fun _ => 1) key a ≤ a.n := by
      unfold histN
      split
      · simp
      · exact h3
    rw [e3, List.map_cons, List.sum_cons]
    omega

theorem DecInv.val_bd {S : KeysL} {R : Nat → RowL} {hist : List AddD} {cnt : Int} (h : DecInv S R hist cnt) {p : ByteArray × Nat} (hp : p ∈ S) (hS : (S.map (·.1)).Nodup) (x : Int) : 0 ≤ (mget (R p.2) x).getD 0 ∧ (mget (R p.2) x).getD 0 ≤ 1099511627776 := by
  cases hg : mget (R p.2) x with
  | none => simp
  | some v =>
    have hm := mget_some_mem hg
    have h0 := h.pos p hp _ hm
    simp only [Option.getD_some]
    refine ⟨by have := h0.1; simp at this; omega, ?_⟩
    have e := h.eqs p.1 (fun _ => 1)
    have hr : mrow S R p.1 = R p.2 := by
      have : mget S p.1 = some p.2 := mget_of_mem hS hp
      simp [mrow, this]
    rw [hr] at e
    have h1 : v ≤ rowSum (fun _ => 1) (R p.2) := by
      have hpos := h.pos p hp
      clear e hr hg h0
      generalize R p.2 = r at *
      clear hp
      induction r with
      | nil => simp at hm
      | cons q r ih =>
        have e2 : rowSum (fun _ => 1) (q :: r) = q.2 * 1 + rowSum (fun _ => 1) r := rfl
        have hnn : 0 ≤ rowSum (fun _ => 1) r := by
          clear ih hm e2
          induction r with
          | nil => simp [rowSum]
          | cons q' r ih' =>
            have e3 : rowSum (fun _ => 1) (q' :: r) = q'.2 * 1 + rowSum (fun _ => 1) r := rfl
            have := (hpos q' (by simp)).1
            have := ih' (fun z hz => hpos z (by simp at hz ⊢; rcases hz with h | h <;> simp [h]))
            omega
        have := (hpos q (by simp)).1
        rcases List.mem_cons.1 hm with e | hm
        · subst e; simp at *; omega
        · have := ih hm (fun z hz => hpos z (by simp [hz])); omega
    have h2 := histSum_le p.1 hist h.good
    have := h.total
    have := h.cnt0
    omega

theorem DecInv.zero {S : KeysL} {R : Nat → RowL} {hist : List AddD} {cnt : Int} (h : DecInv S R hist cnt) {a : AddD} (hn : a.n = 0) (ha : 0 ≤ a.at_ ∧ a.at_ ≤ 1099511627776) (hc : cnt < 1048576) : DecInv S R (hist ++ [a]) (cnt + 1) where
  eqs := fun key f => by
    rw [h.eqs, histSum_snoc]
    have : histN f key a = 0 := by unfold histN; split <;> simp [hn]
    omega
  some_ := h.some_
  pos := h.pos
  good := fun b hb => by
    rcases List.mem_append.1 hb with hb | hb
    · exact h.good b hb
    · simp at hb; subst hb; omega
  total := by
    have := h.total
    rw [List.map_append, List.sum_append]
    simp [hn]
    omega
  cnt0 := by have := h.cnt0; omega

theorem DecInv.old {S : KeysL} {R : Nat → RowL} {hist : List AddD} {cnt : Int} (h : DecInv S R hist cnt) (hS : (S.map (·.1)).Nodup) (hD : (S.map (·.2)).Nodup) {key : ByteArray} {at_ n : Int} {b : Nat} (hb : mget S key = some b) (hr : ((R b).map (·.1)).Nodup) (n1 : 1 ≤ n) (n2 : n ≤ 1048576)
    (ha : 0 ≤ at_ ∧ at_ ≤ 1099511627776) (hc : cnt < 1048576) : DecInv S (upd R b (mput (R b) at_ ((mget (R b) at_).getD 0 + n))) (hist ++ [⟨key, at_, n⟩]) (cnt + 1) := by
  have hmem := mget_some_mem hb
  have hne : ∀ p ∈ S, p.2 = b → p = (key, b) := fun p hp e => by
    obtain ⟨i, hi, rfl⟩ := List.getElem_of_mem hp
    obtain ⟨j, hj, e2⟩ := List.getElem_of_mem hmem
    have := List.getElem_inj (i := i) (j := j) (h₀ := by simpa using hi) (h₁ := by simpa using hj) hD
    have hij : i = j := this.1 (by simp [e, e2])
    subst hij
    exact e2
  refine ⟨fun k f => ?_, fun p hp => ?_, fun p hp q hq => ?_, fun a ha' => ?_, ?_, by have := h.cnt0; omega⟩
  · rw [histSum_snoc, ← h.eqs]
    by_cases hk : k = key
    · subst hk
      have e1 : mrow S (upd R b (mput (R b) at_ ((mget (R b) at_).getD 0 + n))) k = mput (R b) at_ ((mget (R b) at_).getD 0 + n) := by simp [mrow, hb, upd_same]
      have e2 : mrow S R k = R b := by simp [mrow, hb]
      rw [e1, e2, rowSum_mput f _ hr]
      simp [histN]
    · have e1 : mrow S (upd R b (mput (R b) at_ ((mget (R b) at_).getD 0 + n))) k = mrow S R k := by
        unfold mrow
        cases hg : mget S k with
        | none => rfl
        | some b' =>
          have hb' : b' ≠ b := fun e => hk (by have := hne (k, b') (mget_some_mem hg) e; injection this)
          exact upd_ne R _ hb'
      have e2 : histN f k ⟨key, at_, n⟩ = 0 := by unfold histN; rw [if_neg (Ne.symm hk)]
      rw [e1, e2, Int.add_zero]
  · by_cases e : p.2 = b
    · rw [e, upd_same]; exact mput_ne_nil _ _ _
    · rw [upd_ne R _ e]; exact h.some_ p hp
  · by_cases e : p.2 = b
    · rw [e, upd_same] at hq
      rcases mem_rowput hq with rfl | hq
      · have := (h.val_bd hmem hS at_).1
        simp only
        have e3 : ((key, b) : ByteArray × Nat).2 = b := rfl
        simp only [e3] at this
        omega
      · exact h.pos _ hmem q hq
    · rw [upd_ne R _ e] at hq; exact h.pos p hp q hq
  · rcases List.mem_append.1 ha' with h1 | h1
    · exact h.good a h1
    · simp at h1; subst h1; simp; omega
  · have := h.total
    rw [List.map_append, List.sum_append]
    simp
    omega

theorem DecInv.new {S : KeysL} {R : Nat → RowL} {hist : List AddD} {cnt : Int} (h : DecInv S R hist cnt) {key : ByteArray} {at_ n : Int} {b : Nat} (hb : mget S key = none) (hf : ∀ p ∈ S, p.2 ≠ b) (n1 : 1 ≤ n) (n2 : n ≤ 1048576)
    (ha : 0 ≤ at_ ∧ at_ ≤ 1099511627776) (hc : cnt < 1048576) : DecInv (S ++ [(key, b)]) (upd R b [(at_, n)]) (hist ++ [⟨key, at_, n⟩]) (cnt + 1) := by
  refine ⟨fun k f => ?_, fun p hp => ?_, fun p hp q hq => ?_, fun a ha' => ?_, ?_, by have := h.cnt0; omega⟩
  · rw [histSum_snoc, ← h.eqs]
    by_cases hk : k = key
    · subst hk
      have e1 : mrow (S ++ [(k, b)]) (upd R b [(at_, n)]) k = [(at_, n)] := by simp [mrow, mget_append, hb, mget, upd_same]
      have e2 : mrow S R k = [] := by simp [mrow, hb]
      rw [e1, e2]
      simp [histN, rowSum]
    · have e1 : mrow (S ++ [(key, b)]) (upd R b [(at_, n)]) k = mrow S R k := by
        unfold mrow
        have : mget (S ++ [(key, b)]) k = mget S k := by
          rw [mget_append]
          have h1 : ¬ k = key := hk
          simp [mget, h1]
        rw [this]
        cases hg : mget S k with
        | none => rfl
        | some b' => exact upd_ne R _ (hf _ (mget_some_mem hg))
      have e2 : histN f k ⟨key, at_, n⟩ = 0 := by unfold histN; rw [if_neg (Ne.symm hk)]
      rw [e1, e2, Int.add_zero]
  · rcases List.mem_append.1 hp with hp | hp
    · rw [upd_ne R _ (hf p hp)]; exact h.some_ p hp
    · simp at hp; subst hp; simp [upd_same]
  · rcases List.mem_append.1 hp with hp | hp
    · rw [upd_ne R _ (hf p hp)] at hq; exact h.pos p hp q hq
    · simp at hp; subst hp; simp [upd_same] at hq; subst hq; simp; omega
  · rcases List.mem_append.1 ha' with h1 | h1
    · exact h.good a h1
    · simp at h1; subst h1; simp; omega
  · have := h.total
    rw [List.map_append, List.sum_append]
    simp
    omega
end Go.Proofs.Ytmigjlceogofaaa
