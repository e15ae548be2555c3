/- Plain facts on merging: rows that are added one tick of a key behind the other. -/
import Derived.Test.YtgahopkbgefjdaaDecI
namespace Go.Proofs.Ytgahopkbgefjdaa
set_option linter.unusedVariables false
set_option linter.unusedSimpArgs false

section
variable {S : KeysL} {R : Nat → RowL} {hist : List AddD} {cnt : Int}
theorem DecInv.moreC (h : DecInv S R hist cnt) {cnt' : Int} (h1 : cnt ≤ cnt') (h2 : cnt' ≤ 1048576) : DecInv S R hist cnt' :=
  { h with total := by have := h.total; omega, cnt0 := by have := h.cnt0; omega }

theorem DecInv.oldG (h : DecInv S R hist cnt) (hS : (S.map (·.1)).Nodup) (hD : (S.map (·.2)).Nodup) {key : ByteArray} {at_ n : Int} {b : Nat} (hb : mget S key = some b) (hr : ((R b).map (·.1)).Nodup) (n1 : 1 ≤ n)
    (ha : 0 ≤ at_ ∧ at_ ≤ 1099511627776) (ht : (hist.map (·.n)).sum + n ≤ 1048576 * cnt) : DecInv S (upd R b (mput (R b) at_ ((mget (R b) at_).getD 0 + n))) (hist ++ [⟨key, at_, n⟩]) cnt := by
  have hmem := mget_some_mem hb
  have hne : ∀ p ∈ S, p.2 = b → p = (key, b) := fun p hp e => by
    obtain ⟨i, hi, rfl⟩ := List.getElem_of_mem hp
    obtain ⟨j, hj, e2⟩ := List.getElem_of_mem hmem
    have := List.getElem_inj (i := i) (j := j) (h₀ := by simpa using hi) (h₁ := by simpa using hj) hD
    have hij : i = j := this.1 (by simp [e, e2])
    subst hij
    exact e2
  refine ⟨fun k f => ?_, fun p hp => ?_, fun p hp q hq => ?_, fun a ha' => ?_, ?_, h.cnt0⟩
  · rw [histSum_snoc, ← h.eqs]
    by_cases hk : k = key
    · subst hk
      have e1 : mrow S (upd R b (mput (R b) at_ ((mget (R b) at_).getD 0 + n))) k = mput (R b) at_ ((mget (R b) at_).getD 0 + n) := by simp [mrow, hb, upd_same]
      have e2 : mrow S R k = R b := by simp [mrow, hb]
      rw [e1, e2, rowSum_mput f _ hr]
      simp [histN]
    · have e1 : mrow S (upd R b (mput (R b) at_ ((mget (R b) at_).getD 0 + n))) k = mrow S R k := by
        unfold mrow
        cases hg : mget S k with
        | none => rfl
        | some b' =>
          have hb' : b' ≠ b := fun e => hk (by have := hne (k, b') (mget_some_mem hg) e; injection this)
          exact upd_ne R _ hb'
      have e2 : histN f k ⟨key, at_, n⟩ = 0 := by unfold histN; rw [if_neg (Ne.symm hk)]
      rw [e1, e2, Int.add_zero]
  · by_cases e : p.2 = b
    · rw [e, upd_same]; exact mput_ne_nil _ _ _
    · rw [upd_ne R _ e]; exact h.some_ p hp
  · by_cases e : p.2 = b
    · rw [e, upd_same] at hq
      rcases mem_rowput hq with rfl | hq
      · have := (h.val_bd hmem hS at_).1
        simp only
        have e3 : ((key, b) : ByteArray × Nat).2 = b := rfl
        simp only [e3] at this
        omega
      · exact h.pos _ hmem q hq
    · rw [upd_ne R _ e] at hq; exact h.pos p hp q hq
  · rcases List.mem_append.1 ha' with h1 | h1
    · exact h.good a h1
    · simp at h1; subst h1; simp; omega
  · rw [List.map_append, List.sum_append]
    simpa using ht

theorem DecInv.newG (h : DecInv S R hist cnt) {key : ByteArray} {at_ n : Int} {b : Nat} (hb : mget S key = none) (hf : ∀ p ∈ S, p.2 ≠ b) (n1 : 1 ≤ n)
    (ha : 0 ≤ at_ ∧ at_ ≤ 1099511627776) (ht : (hist.map (·.n)).sum + n ≤ 1048576 * cnt) : DecInv (S ++ [(key, b)]) (upd R b [(at_, n)]) (hist ++ [⟨key, at_, n⟩]) cnt := by
  refine ⟨fun k f => ?_, fun p hp => ?_, fun p hp q hq => ?_, fun a ha' => ?_, ?_, h.cnt0⟩
  · rw [histSum_snoc, ← h.eqs]
    by_cases hk : k = key
    · subst hk
      have e1 : mrow (S ++ [(k, b)]) (upd R b [(at_, n)]) k = [(at_, n)] := by simp [mrow, mget_append, hb, mget, upd_same]
      have e2 : mrow S R k = [] := by simp [mrow, hb]
      rw [e1, e2]
      simp [histN, rowSum]
    · have e1 : mrow (S ++ [(key, b)]) (upd R b [(at_, n)]) k = mrow S R k := by
        unfold mrow
        have : mget (S ++ [(key, b)]) k = mget S k := by
          rw [mget_append]
          have h1 : ¬ k = key := hk
          simp [mget, h1]
        rw [this]
        cases hg : mget S k with
        | none => rfl
        | some b' => exact upd_ne R _ (hf _ (mget_some_mem hg))
      have e2 : histN f k ⟨key, at_, n⟩ = 0 := by unfold histN; rw [if_neg (Ne.symm hk)]
      rw [e1, e2, Int.add_zero]
  · rcases List.mem_append.1 hp with hp | hp
    · rw [upd_ne R _ (hf p hp)]; exact h.some_ p hp
    · simp at hp; subst hp; simp [upd_same]
  · rcases List.mem_append.1 hp with hp | hp
    · rw [upd_ne R _ (hf p hp)] at hq; exact h.pos p hp q hq
    · simp at hp; subst hp; simp [upd_same] at hq; subst hq; simp; omega
  · rcases List.mem_append.1 ha' with h1 | h1
    · exact h.good a h1
    · simp at h1; subst h1; simp; omega
  · rw [List.map_append, List.sum_append]
    simpa using ht

theorem histSum_append (f : Int → Int) (key : ByteArray) (l m : List AddD) : histSum f key (l ++ m) = histSum f key l + histSum f key m := by simp [histSum]
/-- Another history that sums to the same. -/
theorem DecInv.rehist {P Q : List AddD} (h : DecInv S R (hist ++ P) cnt) (he : ∀ key f, histSum f key P = histSum f key Q) (hg : ∀ a ∈ Q, 0 ≤ a.n ∧ 0 ≤ a.at_ ∧ a.at_ ≤ 1099511627776) (ht : ((hist ++ Q).map (·.n)).sum ≤ 1048576 * cnt) : DecInv S R (hist ++ Q) cnt where
  eqs := fun key f => by rw [h.eqs, histSum_append, histSum_append, he]
  some_ := h.some_
  pos := h.pos
  good := fun a ha => (List.mem_append.1 ha).elim (fun h1 => h.good a (by simp [h1])) (hg a)
  total := ht
  cnt0 := h.cnt0
end

/-- What is still to come of rows. -/
def leftSum (R : Nat → RowL) (f : Int → Int) (key : ByteArray) (left : KeysL) : Int := (left.map fun p => if p.1 = key then rowSum f (R p.2) else 0).sum
def leftAll (R : Nat → RowL) (left : KeysL) : Int := (left.map fun p => rowSum (fun _ => 1) (R p.2)).sum
theorem leftSum_perm {R : Nat → RowL} {f : Int → Int} {key : ByteArray} {l m : KeysL} (h : l.Perm m) : leftSum R f key l = leftSum R f key m := by
  unfold leftSum
  induction h with
  | nil => rfl
  | cons x _ ih => simp only [List.map_cons, List.sum_cons, ih]
  | swap x y l => simp only [List.map_cons, List.sum_cons]; omega
  | trans _ _ ih1 ih2 => exact ih1.trans ih2
theorem leftAll_perm {R : Nat → RowL} {l m : KeysL} (h : l.Perm m) : leftAll R l = leftAll R m := by
  unfold leftAll
  induction h with
  | nil => rfl
  | cons x _ ih => simp only [List.map_cons, List.sum_cons, ih]
  | swap x y l => simp only [List.map_cons, List.sum_cons]; omega
  | trans _ _ ih1 ih2 => exact ih1.trans ih2
theorem leftSum_cons (R : Nat → RowL) (f : Int → Int) (key : ByteArray) (p : ByteArray × Nat) (l : KeysL) : leftSum R f key (p :: l) = (if p.1 = key then rowSum f (R p.2) else 0) + leftSum R f key l := rfl
theorem leftAll_cons (R : Nat → RowL) (p : ByteArray × Nat) (l : KeysL) : leftAll R (p :: l) = rowSum (fun _ => 1) (R p.2) + leftAll R l := rfl
theorem leftSum_none {R : Nat → RowL} {f : Int → Int} {key : ByteArray} {l : KeysL} (h : ∀ p ∈ l, p.1 ≠ key) : leftSum R f key l = 0 := by
  induction l with
  | nil => rfl
  | cons p l ih =>
    rw [leftSum_cons, if_neg (h p (by simp)), ih (fun q hq => h q (by simp [hq]))]
    rfl
theorem leftSum_all {S : KeysL} {R : Nat → RowL} (hS : (S.map (·.1)).Nodup) (f : Int → Int) (key : ByteArray) : leftSum R f key S = rowSum f (mrow S R key) := by
  induction S with
  | nil => rfl
  | cons p S ih =>
    simp only [List.map_cons, List.nodup_cons] at hS
    rw [leftSum_cons]
    obtain ⟨a, b⟩ := p
    by_cases e : a = key
    · subst e
      rw [if_pos rfl, leftSum_none (fun q hq e => hS.1 (by rw [← e]; exact List.mem_map.2 ⟨q, hq, rfl⟩))]
      simp [mrow, mget]
    · have e' : ¬ key = a := Ne.symm e
      rw [if_neg e, ih hS.2]
      simp [mrow, mget, e']
theorem keysum_le {S : KeysL} (hS : (S.map (·.1)).Nodup) : ∀ hist : List AddD, (∀ a ∈ hist, 0 ≤ a.n) → (S.map fun p => histSum (fun _ => 1) p.1 hist).sum ≤ (hist.map (·.n)).sum
  | [], _ => by
    have : (S.map fun p => histSum (fun _ => 1) p.1 []) = S.map (fun _ => 0) := rfl
    rw [this]
    clear this
    induction S with
    | nil => simp
    | cons p S ih =>
      simp only [List.map_cons, List.nodup_cons] at hS
      have := ih hS.2
      simp only [List.map_cons, List.sum_cons, List.map_nil, List.sum_nil] at this ⊢
      omega
  | a :: hist, hg => by
    have ih := keysum_le hS hist (fun b hb => hg b (by simp [hb]))
    have h0 := hg a (by simp)
    have e : (S.map fun p => histSum (fun _ => 1) p.1 (a :: hist)).sum = (S.map fun p => histN (fun _ => 1) p.1 a).sum + (S.map fun p => histSum (fun _ => 1) p.1 hist).sum := by
      clear ih hS
      induction S with
      | nil => rfl
      | cons p S ihS =>
        simp only [List.map_cons, List.sum_cons]
        rw [ihS]
        have : histSum (fun _ => 1) p.1 (a :: hist) = histN (fun _ => 1) p.1 a + histSum (fun _ => 1) p.1 hist := rfl
        omega
    have h1 : (S.map fun p => histN (fun _ => 1) p.1 a).sum ≤ a.n := by
      clear ih e
      induction S with
      | nil => simpa using h0
      | cons p S ihS =>
        simp only [List.map_cons, List.nodup_cons] at hS
        simp only [List.map_cons, List.sum_cons]
        by_cases e : a.key = p.1
        · have hz : (S.map fun p => histN (fun _ => 1) p.1 a) = S.map (fun _ => 0) := List.map_congr_left (fun q hq => by
            have : a.key ≠ q.1 := fun e2 => hS.1 (by rw [← e, e2]; exact List.mem_map.2 ⟨q, hq, rfl⟩)
            unfold histN; rw [if_neg this])
          have hz2 : (S.map (fun _ => (0 : Int))).sum = 0 := by
            clear hz ihS hS
            induction S with
            | nil => rfl
            | cons q S ih2 => simp only [List.map_cons, List.sum_cons, ih2]; rfl
          rw [hz, hz2]
          unfold histN
          rw [if_pos e]
          simp
        · have : histN (fun _ => 1) p.1 a = 0 := by unfold histN; rw [if_neg e]
          rw [this]
          have := ihS hS.2
          omega
    rw [e, List.map_cons, List.sum_cons]
    omega
theorem DecInv.leftAll {S : KeysL} {R : Nat → RowL} {hist : List AddD} {cnt : Int} (h : DecInv S R hist cnt) (hS : (S.map (·.1)).Nodup) : leftAll R S ≤ (hist.map (·.n)).sum := by
  have h1 := keysum_le hS hist (fun a ha => (h.good a ha).1)
  have e : Go.Proofs.Ytgahopkbgefjdaa.leftAll R S = (S.map fun p => histSum (fun _ => 1) p.1 hist).sum := by
    unfold Go.Proofs.Ytgahopkbgefjdaa.leftAll
    congr 1
    apply List.map_congr_left
    intro p hp
    have := h.eqs p.1 (fun _ => 1)
    have h2 : mrow S R p.1 = R p.2 := by
      have : mget S p.1 = some p.2 := mget_of_mem hS hp
      simp [mrow, this]
    rw [h2] at this
    exact this
  rw [e]
  exact h1
end Go.Proofs.Ytgahopkbgefjdaa
