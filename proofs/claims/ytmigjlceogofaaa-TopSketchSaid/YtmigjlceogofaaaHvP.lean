/- heavy, plainly: what is made of the counters by an add, a cut and a merge; the bounds. No program in sight. -/
import Derived.Test.YtmigjlceogofaaaHvB
namespace Go.Proofs.Ytmigjlceogofaaa
set_option linter.unusedVariables false
set_option linter.unusedSimpArgs false

def sumS (S : CntrL) : Int := (S.map (·.2)).sum
theorem sumS_cons (p : ByteArray × Int) (S : CntrL) : sumS (p :: S) = p.2 + sumS S := by simp [sumS]
theorem sumS_append (S T : CntrL) : sumS (S ++ T) = sumS S + sumS T := by simp [sumS]
theorem sumS_perm {S T : CntrL} (h : S.Perm T) : sumS S = sumS T := by
  induction h with
  | nil => rfl
  | cons x _ ih => rw [sumS_cons, sumS_cons, ih]
  | swap x y l => rw [sumS_cons, sumS_cons, sumS_cons, sumS_cons]; omega
  | trans _ _ h1 h2 => rw [h1, h2]
abbrev PosS (S : CntrL) : Prop := ∀ p ∈ S, 0 < p.2
theorem sumS_nonneg {S : CntrL} (h : PosS S) : 0 ≤ sumS S := by
  induction S with
  | nil => simp [sumS]
  | cons p S ih =>
    rw [sumS_cons]
    have := h p (by simp)
    have := ih (fun q hq => h q (by simp [hq]))
    omega
theorem mem_le_sum {S : CntrL} (h : PosS S) : ∀ p ∈ S, p.2 ≤ sumS S := by
  induction S with
  | nil => simp
  | cons p S ih =>
    intro q hq
    have hp := h p (by simp)
    have h' : PosS S := fun q hq => h q (by simp [hq])
    have h2 := sumS_nonneg h'
    rw [sumS_cons]
    rcases List.mem_cons.1 hq with rfl | hq
    · omega
    · have := ih h' q hq; omega
theorem lowV_nil (k : ByteArray) : lowV [] k = 0 := rfl
theorem lowV_cons (p : ByteArray × Int) (S : CntrL) (k : ByteArray) : lowV (p :: S) k = if k = p.1 then p.2 else lowV S k := by
  obtain ⟨a, v⟩ := p
  unfold lowV
  simp only [mget]
  by_cases h : k = a
  · simp [h]
  · simp [h]
theorem lowV_mem {S : CntrL} (hn : (S.map (·.1)).Nodup) {p : ByteArray × Int} (hp : p ∈ S) : lowV S p.1 = p.2 := by
  unfold lowV
  rw [mget_of_mem hn (x := p.1) (v := p.2) hp]
  rfl
theorem lowV_not {S : CntrL} {k : ByteArray} (h : ∀ p ∈ S, p.1 ≠ k) : lowV S k = 0 := by
  unfold lowV
  rw [mget_none_iff.2 h]
  rfl
theorem lowV_pos {S : CntrL} {k : ByteArray} (h : lowV S k ≠ 0) : (k, lowV S k) ∈ S := by
  unfold lowV at *
  cases e : mget S k with
  | none => rw [e] at h; simp at h
  | some v => simpa using mget_some_mem e
theorem lowV_nonneg {S : CntrL} (h : PosS S) (k : ByteArray) : 0 ≤ lowV S k := by
  by_cases e : lowV S k = 0
  · omega
  · have := h _ (lowV_pos e); simp at this; omega
theorem lowV_le {S : CntrL} (h : PosS S) (k : ByteArray) : lowV S k ≤ sumS S := by
  by_cases e : lowV S k = 0
  · have := sumS_nonneg h; omega
  · exact mem_le_sum h _ (lowV_pos e)
theorem lowV_perm {S T : CntrL} (h : S.Perm T) (hn : (S.map (·.1)).Nodup) (k : ByteArray) : lowV S k = lowV T k := by
  have hT : (T.map (·.1)).Nodup := ((h.map (·.1)).nodup_iff).1 hn
  by_cases e : ∃ p ∈ S, p.1 = k
  · obtain ⟨p, hp, rfl⟩ := e
    rw [lowV_mem hn hp, lowV_mem hT (h.subset hp)]
  · have h1 : ∀ p ∈ S, p.1 ≠ k := fun p hp e' => e ⟨p, hp, e'⟩
    rw [lowV_not h1, lowV_not (fun p hp => h1 p (h.symm.subset hp))]
theorem nodup_pairs {S : CntrL} (hn : (S.map (·.1)).Nodup) : S.Nodup := by
  refine List.Pairwise.imp ?_ (List.pairwise_map.1 hn)
  intro a b h e
  exact h (by rw [e])
/-- The same numbers of all keys: the same counters. -/
theorem perm_of_low {S T : CntrL} (hS : (S.map (·.1)).Nodup) (hT : (T.map (·.1)).Nodup) (pS : PosS S) (pT : PosS T) (h : ∀ k, lowV S k = lowV T k) : S.Perm T := by
  have key : ∀ {S T : CntrL}, (S.map (·.1)).Nodup → PosS S → (∀ k, lowV S k = lowV T k) → ∀ p ∈ S, p ∈ T := by
    intro S T hS pS h p hp
    have h1 := lowV_mem hS hp
    have h2 := pS p hp
    have h3 : lowV T p.1 ≠ 0 := by rw [← h, h1]; omega
    have h4 := lowV_pos h3
    rw [← h, h1] at h4
    exact h4
  refine (List.perm_ext_iff_of_nodup (nodup_pairs hS) (nodup_pairs hT)).2 (fun p => ⟨key hS pS h p, key hT pT (fun k => (h k).symm) p⟩)

/-! ### An add's number -/
def plusS (S : CntrL) (k : ByteArray) (n : Int) : CntrL := if n = 0 then S else mput S k (lowV S k + n)
theorem plusS_nodup {S : CntrL} (hn : (S.map (·.1)).Nodup) (k : ByteArray) (n : Int) : ((plusS S k n).map (·.1)).Nodup := by
  unfold plusS
  split
  · exact hn
  · exact nodup_mput hn _ _
theorem lowV_mput (S : CntrL) (k : ByteArray) (v : Int) (x : ByteArray) : lowV (mput S k v) x = if x = k then v else lowV S x := by
  unfold lowV
  rw [mget_mput]
  split <;> rfl
theorem lowV_plus (S : CntrL) (k : ByteArray) (n : Int) (x : ByteArray) : lowV (plusS S k n) x = lowV S x + if x = k then n else 0 := by
  unfold plusS
  by_cases h : n = 0
  · rw [if_pos h, h]; split <;> omega
  · rw [if_neg h, lowV_mput]
    by_cases hx : x = k
    · subst hx; simp
    · simp [hx]
theorem mem_mputH {S : CntrL} {k : ByteArray} {v : Int} {p : ByteArray × Int} (h : p ∈ mput S k v) : p = (k, v) ∨ p ∈ S := by
  unfold mput at h
  split at h
  · obtain ⟨q, hq, e⟩ := List.mem_map.1 h
    split at e
    · exact .inl e.symm
    · exact .inr (e ▸ hq)
  · rcases List.mem_append.1 h with h | h
    · exact .inr h
    · simp at h; exact .inl h
theorem plusS_pos {S : CntrL} (h : PosS S) (k : ByteArray) {n : Int} (hn : 0 ≤ n) : PosS (plusS S k n) := by
  unfold plusS
  split
  · exact h
  · intro p hp
    rcases mem_mputH hp with rfl | hp
    · have := lowV_nonneg h k; show 0 < lowV S k + n; omega
    · exact h p hp
theorem plusS_keys {S : CntrL} {K : ByteArray → Prop} (h : ∀ p ∈ S, K p.1) {k : ByteArray} (hk : K k) (n : Int) : ∀ p ∈ plusS S k n, K p.1 := by
  unfold plusS
  split
  · exact h
  · intro p hp
    rcases mem_mputH hp with rfl | hp
    · exact hk
    · exact h p hp
theorem plusS_new {S : CntrL} {k : ByteArray} (h : ∀ p ∈ S, p.1 ≠ k) {n : Int} (hn : n ≠ 0) : plusS S k n = S ++ [(k, n)] := by
  unfold plusS
  rw [if_neg hn, lowV_not h, mput_new _ h]
  simp
theorem mput_len_old {S : CntrL} {k : ByteArray} (h : ∃ p ∈ S, p.1 = k) (v : Int) : (mput S k v).length = S.length := by
  have : mget S k ≠ none := fun e => by
    obtain ⟨p, hp, e'⟩ := h
    exact mget_none_iff.1 e p hp e'
  unfold mput
  rw [if_pos (by cases hm : mget S k with | none => exact absurd hm this | some v => rfl)]
  simp
theorem plusS_len (S : CntrL) (k : ByteArray) (n : Int) : (plusS S k n).length ≤ S.length + 1 := by
  by_cases hn : n = 0
  · unfold plusS; rw [if_pos hn]; omega
  · by_cases h : ∃ p ∈ S, p.1 = k
    · unfold plusS; rw [if_neg hn, mput_len_old h]; omega
    · rw [plusS_new (fun p hp e => h ⟨p, hp, e⟩) hn]; simp
/-- One too many: the key is a new one. -/
theorem plusS_over {S : CntrL} {k : ByteArray} {n : Int} (h : S.length < (plusS S k n).length) : n ≠ 0 ∧ (∀ p ∈ S, p.1 ≠ k) ∧ plusS S k n = S ++ [(k, n)] := by
  have hn : n ≠ 0 := fun e => by unfold plusS at h; rw [if_pos e] at h; omega
  have hk : ∀ p ∈ S, p.1 ≠ k := fun p hp e => by
    unfold plusS at h
    rw [if_neg hn, mput_len_old ⟨p, hp, e⟩] at h
    omega
  exact ⟨hn, hk, plusS_new hk hn⟩
theorem sumS_low : ∀ {S : CntrL}, (S.map (·.1)).Nodup → ∀ (k : ByteArray) (v : Int), (∃ p ∈ S, p.1 = k) → sumS (S.map (fun p => if p.1 = k then (k, v) else p)) = sumS S - lowV S k + v
  | [], _, k, v, h => by obtain ⟨p, hp, _⟩ := h; simp at hp
  | p :: S, hn, k, v, h => by
    rw [List.map_cons, sumS_cons, sumS_cons, lowV_cons]
    rw [List.map_cons, List.nodup_cons] at hn
    by_cases e : p.1 = k
    · have hno : ∀ q ∈ S, q.1 ≠ k := fun q hq e' => hn.1 (List.mem_map.2 ⟨q, hq, e'.trans e.symm⟩)
      have : S.map (fun p => if p.1 = k then (k, v) else p) = S := by
        refine (List.map_congr_left (fun q hq => ?_)).trans (List.map_id S)
        rw [if_neg (hno q hq)]; rfl
      rw [this, if_pos e, if_pos e.symm]
      show v + _ = _
      omega
    · have h' : ∃ p ∈ S, p.1 = k := by
        obtain ⟨q, hq, e'⟩ := h
        rcases List.mem_cons.1 hq with rfl | hq
        · exact absurd e' e
        · exact ⟨q, hq, e'⟩
      rw [if_neg e, if_neg (Ne.symm e), sumS_low hn.2 k v h']
      omega
theorem sumS_plus {S : CntrL} (hn : (S.map (·.1)).Nodup) (k : ByteArray) (n : Int) : sumS (plusS S k n) = sumS S + n := by
  by_cases h0 : n = 0
  · unfold plusS; rw [if_pos h0]; omega
  · by_cases h : ∃ p ∈ S, p.1 = k
    · have hm : (mget S k).isSome = true := by
        cases e : mget S k with
        | none => obtain ⟨p, hp, e'⟩ := h; exact absurd e' (mget_none_iff.1 e p hp)
        | some v => rfl
      unfold plusS mput
      rw [if_neg h0, if_pos hm, sumS_low hn k _ h]
      omega
    · rw [plusS_new (fun p hp e => h ⟨p, hp, e⟩) h0, sumS_append]
      simp [sumS]

/-! ### What is taken from each -/
theorem takeL_cons (p : ByteArray × Int) (S : CntrL) (c : Int) : takeL (p :: S) c = if c < p.2 then (p.1, p.2 - c) :: takeL S c else takeL S c := by
  unfold takeL
  rw [List.map_cons, List.filter_cons]
  by_cases h : c < p.2
  · rw [if_pos h, if_pos (by simp; omega)]
  · rw [if_neg h, if_neg (by simp; omega)]
theorem mem_takeL {S : CntrL} {c : Int} {p : ByteArray × Int} : p ∈ takeL S c ↔ (p.1, p.2 + c) ∈ S ∧ 0 < p.2 := by
  unfold takeL
  rw [List.mem_filter, List.mem_map]
  constructor
  · rintro ⟨⟨q, hq, rfl⟩, h⟩
    simp at h ⊢
    exact ⟨hq, h⟩
  · rintro ⟨h1, h2⟩
    exact ⟨⟨_, h1, by simp⟩, by simpa using h2⟩
theorem takeL_pos (S : CntrL) (c : Int) : PosS (takeL S c) := fun p hp => (mem_takeL.1 hp).2
theorem takeL_nodup {S : CntrL} (hn : (S.map (·.1)).Nodup) (c : Int) : ((takeL S c).map (·.1)).Nodup := by
  induction S with
  | nil => simp [takeL]
  | cons p S ih =>
    rw [List.map_cons, List.nodup_cons] at hn
    rw [takeL_cons]
    split
    · rw [List.map_cons, List.nodup_cons]
      refine ⟨fun h => hn.1 ?_, ih hn.2⟩
      obtain ⟨q, hq, e⟩ := List.mem_map.1 h
      exact List.mem_map.2 ⟨_, (mem_takeL.1 hq).1, e⟩
    · exact ih hn.2
theorem takeL_keys {S : CntrL} {K : ByteArray → Prop} (h : ∀ p ∈ S, K p.1) (c : Int) : ∀ p ∈ takeL S c, K p.1 := fun p hp => h (p.1, p.2 + c) (mem_takeL.1 hp).1
theorem takeL_perm {S T : CntrL} (h : S.Perm T) (c : Int) : (takeL S c).Perm (takeL T c) := (h.map _).filter _
theorem lowV_take {S : CntrL} (hn : (S.map (·.1)).Nodup) (hp : PosS S) {c : Int} (hc : 0 ≤ c) (k : ByteArray) : lowV (takeL S c) k = max (lowV S k - c) 0 := by
  by_cases e : c < lowV S k
  · have h0 : lowV S k ≠ 0 := by omega
    have hm := lowV_pos h0
    have : (k, lowV S k - c) ∈ takeL S c := mem_takeL.2 ⟨by show (k, lowV S k - c + c) ∈ S; rw [show lowV S k - c + c = lowV S k by omega]; exact hm, by show 0 < lowV S k - c; omega⟩
    have := lowV_mem (takeL_nodup hn c) this
    simp at this
    rw [this]
    omega
  · have : lowV (takeL S c) k = 0 := by
      refine lowV_not (fun p hp' e' => ?_)
      obtain ⟨h1, h2⟩ := mem_takeL.1 hp'
      have := lowV_mem hn h1
      simp only at this
      rw [e'] at this
      omega
    rw [this]
    omega

/-- c is the number of the one at place r, by their numbers falling. -/
def NthV (S : CntrL) (r : Nat) (c : Int) : Prop := r + 1 ≤ S.countP (fun p => decide (c ≤ p.2)) ∧ S.countP (fun p => decide (c < p.2)) ≤ r
theorem NthV.uniq {S : CntrL} {r : Nat} {c d : Int} (h : NthV S r c) (k : NthV S r d) : c = d := by
  have key : ∀ {c d : Int}, NthV S r c → NthV S r d → ¬ c < d := by
    intro c d h k hlt
    have : S.countP (fun p => decide (d ≤ p.2)) ≤ S.countP (fun p => decide (c < p.2)) := List.countP_mono_left (fun p _ hp => by simp at hp ⊢; omega)
    have := k.1
    have := h.2
    omega
  have h1 := key h k
  have h2 := key k h
  omega
theorem NthV.perm {S T : CntrL} {r : Nat} {c : Int} (h : NthV S r c) (hp : S.Perm T) : NthV T r c := by
  unfold NthV at *
  rw [← hp.countP_eq, ← hp.countP_eq]
  exact h
theorem NthV.pos {S : CntrL} {r : Nat} {c : Int} (h : NthV S r c) (hp : PosS S) (hl : r < S.length) : 0 < c := by
  rcases Int.lt_or_le 0 c with h' | h'
  · exact h'
  · have : S.countP (fun p => decide (c < p.2)) = S.length := List.countP_eq_length.2 (fun p hp' => by have := hp p hp'; simp; omega)
    have := h.2
    omega
theorem NthV.mem {S : CntrL} {r : Nat} {c : Int} (h : NthV S r c) : ∃ p ∈ S, p.2 = c := by
  refine Classical.byContradiction (fun hno => ?_)
  have : S.countP (fun p => decide (c ≤ p.2)) ≤ S.countP (fun p => decide (c < p.2)) := List.countP_mono_left (fun p hp' hp => by
    simp at hp ⊢
    have : p.2 ≠ c := fun e => hno ⟨p, hp', e⟩
    omega)
  have := h.1
  have := h.2
  omega
theorem NthV.le {S : CntrL} {r : Nat} {c : Int} (h : NthV S r c) (hp : PosS S) : c ≤ sumS S := by
  obtain ⟨p, hp', rfl⟩ := h.mem
  exact mem_le_sum hp p hp'
theorem takeL_len (S : CntrL) (c : Int) : (takeL S c).length = S.countP (fun p => decide (c < p.2)) := by
  induction S with
  | nil => simp [takeL]
  | cons p S ih =>
    rw [takeL_cons, List.countP_cons]
    by_cases h : c < p.2
    · simp [h, ih]
    · simp [h, ih]
theorem take_sum {S : CntrL} {c : Int} (hc : 0 ≤ c) (hp : PosS S) : sumS (takeL S c) + (S.countP (fun p => decide (c ≤ p.2)) : Int) * c ≤ sumS S := by
  induction S with
  | nil => simp [takeL, sumS]
  | cons p S ih =>
    have h0 := hp p (by simp)
    have ih := ih (fun q hq => hp q (by simp [hq]))
    rw [takeL_cons, List.countP_cons, sumS_cons]
    by_cases h : c < p.2
    · rw [if_pos h, if_pos (by simp; omega), sumS_cons]
      simp only [Int.natCast_add, Int.natCast_one, Int.add_mul, Int.one_mul]
      omega
    · rw [if_neg h]
      by_cases h2 : c ≤ p.2
      · rw [if_pos (by simpa using h2)]
        simp only [Int.natCast_add, Int.natCast_one, Int.add_mul, Int.one_mul]
        omega
      · rw [if_neg (by simpa using h2)]
        simp only [Nat.add_zero]
        omega
theorem NthV.sum {S : CntrL} {r : Nat} {c : Int} (h : NthV S r c) (hp : PosS S) (hl : r < S.length) : sumS (takeL S c) + ((r : Int) + 1) * c ≤ sumS S := by
  have h0 := h.pos hp hl
  have h1 := take_sum (c := c) (by omega) hp
  have h2 : ((r : Int) + 1) * c ≤ (S.countP (fun p => decide (c ≤ p.2)) : Int) * c := Int.mul_le_mul_of_nonneg_right (by have := h.1; omega) (by omega)
  omega
open Classical in
noncomputable def nthV (S : CntrL) (r : Nat) : Int := if h : ∃ c, NthV S r c then h.choose else 0
theorem nthV_is {S : CntrL} {r : Nat} {c : Int} (h : NthV S r c) : nthV S r = c := by
  unfold nthV
  have hx : ∃ c, NthV S r c := ⟨c, h⟩
  rw [dif_pos hx]
  exact hx.choose_spec.uniq h

/-! ### The state -/
structure HvS where
  room : Int
  added : Int
  total : Int
  slack : Int
  S : CntrL
structure HvInv (s : HvS) : Prop where
  r1 : 1 ≤ s.room
  r2 : s.room ≤ 4096
  a0 : 0 ≤ s.added
  a1 : s.added ≤ 1048576
  t0 : 0 ≤ s.total
  t1 : s.total ≤ s.added * 1048576
  s0 : 0 ≤ s.slack
  pos : PosS s.S
  nd : (s.S.map (·.1)).Nodup
  ks : ∀ p ∈ s.S, (1 : Int) ≤ p.1.size ∧ (p.1.size : Int) ≤ 24
  sum : sumS s.S + (s.room + 1) * s.slack ≤ s.total
  len : (s.S.length : Int) ≤ s.room
theorem HvInv.sl {s : HvS} (h : HvInv s) : s.slack ≤ s.total ∧ sumS s.S ≤ s.total ∧ s.total ≤ 1099511627776 := by
  have h1 := sumS_nonneg h.pos
  have h2 : (0 + 1) * s.slack ≤ (s.room + 1) * s.slack := Int.mul_le_mul_of_nonneg_right (by have := h.r1; omega) h.s0
  have h3 : (0 : Int) ≤ (s.room + 1) * s.slack := Int.mul_nonneg (by have := h.r1; omega) h.s0
  have h4 := h.sum
  have h5 := h.t1
  have h6 := h.a1
  refine ⟨by omega, by omega, by omega⟩
theorem HvInv.low {s : HvS} (h : HvInv s) (k : ByteArray) : 0 ≤ lowV s.S k ∧ lowV s.S k ≤ s.total := ⟨lowV_nonneg h.pos k, Int.le_trans (lowV_le h.pos k) h.sl.2.1⟩
def newH (m : Int) : HvS := ⟨min (max m 1) 4096, 0, 0, 0, []⟩
theorem newH_inv (m : Int) : HvInv (newH m) := by
  refine ⟨?_, ?_, ?_, ?_, ?_, ?_, ?_, ?_, ?_, ?_, ?_, ?_⟩ <;> simp [newH, sumS, PosS] <;> omega
/-- How much is taken where there are too many. -/
noncomputable def cutC (room : Int) (S : CntrL) : Int := if room < (S.length : Int) then nthV S room.toNat else 0
noncomputable def cutS (room : Int) (S : CntrL) : CntrL := if room < (S.length : Int) then takeL S (nthV S room.toNat) else S
def hokB (s : HvS) (k : ByteArray) (n : Int) : Bool := decide ((1 : Int) ≤ k.size) && decide ((k.size : Int) ≤ 24) && decide (0 ≤ n) && decide (n ≤ 1048576) && decide (s.added < 1048576)
noncomputable def addH (s : HvS) (k : ByteArray) (n : Int) : HvS :=
  if hokB s k n = true then ⟨s.room, s.added + 1, s.total + n, s.slack + cutC s.room (plusS s.S k n), cutS s.room (plusS s.S k n)⟩ else s
theorem hokB_iff {s : HvS} {k : ByteArray} {n : Int} : hokB s k n = true ↔ ((1 : Int) ≤ k.size ∧ (k.size : Int) ≤ 24 ∧ 0 ≤ n ∧ n ≤ 1048576 ∧ s.added < 1048576) := by
  unfold hokB
  simp only [Bool.and_eq_true, decide_eq_true_eq]
  constructor
  · rintro ⟨⟨⟨⟨a, b⟩, c⟩, d⟩, e⟩; exact ⟨a, b, c, d, e⟩
  · rintro ⟨a, b, c, d, e⟩; exact ⟨⟨⟨⟨a, b⟩, c⟩, d⟩, e⟩

/-- The least of some. -/
def leastV (S : CntrL) (n : Int) : Int := S.foldl (fun a p => min a p.2) n
theorem leastV_le (S : CntrL) : ∀ n, leastV S n ≤ n ∧ ∀ p ∈ S, leastV S n ≤ p.2 := by
  induction S with
  | nil => intro n; simp [leastV]
  | cons p S ih =>
    intro n
    have := ih (min n p.2)
    unfold leastV at *
    rw [List.foldl_cons]
    refine ⟨by omega, fun q hq => ?_⟩
    rcases List.mem_cons.1 hq with rfl | hq
    · omega
    · exact this.2 q hq
theorem leastV_mem (S : CntrL) : ∀ n, leastV S n = n ∨ ∃ p ∈ S, leastV S n = p.2 := by
  induction S with
  | nil => intro n; simp [leastV]
  | cons p S ih =>
    intro n
    have h := ih (min n p.2)
    unfold leastV at *
    rw [List.foldl_cons]
    rcases h with h | ⟨q, hq, h⟩
    · rw [h]
      by_cases e : n ≤ p.2
      · left; omega
      · right; exact ⟨p, by simp, by omega⟩
    · right; exact ⟨q, by simp [hq], h⟩
theorem leastV_nth {S : CntrL} {k : ByteArray} {n : Int} (hm : ∃ p ∈ S, p.2 = n) (r : Nat) (hl : S.length = r + 1) : NthV S r (leastV S n) := by
  obtain ⟨h1, h2⟩ := leastV_le S n
  refine ⟨?_, ?_⟩
  · rw [List.countP_eq_length.2 (fun p hp => by simpa using h2 p hp)]; omega
  · have : ∃ p ∈ S, p.2 = leastV S n := by
      rcases leastV_mem S n with h | ⟨p, hp, h⟩
      · obtain ⟨p, hp, e⟩ := hm; exact ⟨p, hp, by omega⟩
      · exact ⟨p, hp, h.symm⟩
    obtain ⟨p, hp, e⟩ := this
    have hlt : S.countP (fun p => decide (leastV S n < p.2)) < S.length := by
      rcases Nat.lt_or_eq_of_le (List.countP_le_length (p := fun p : ByteArray × Int => decide (leastV S n < p.2)) (l := S)) with h | h
      · exact h
      · have := List.countP_eq_length.1 h p hp
        simp at this
        omega
    omega
theorem nth_perm {S T : CntrL} (h : S.Perm T) (r : Nat) (c : Int) : NthV S r c ↔ NthV T r c := ⟨fun x => x.perm h, fun x => x.perm h.symm⟩

/-- A cut keeps what must be. -/
theorem cut_facts {room total slack : Int} {S : CntrL} (hr : 1 ≤ room) (hn : (S.map (·.1)).Nodup) (hp : PosS S) (hs0 : 0 ≤ slack) (hsum : sumS S + (room + 1) * slack ≤ total) (hx : room < (S.length : Int) → NthV S room.toNat (nthV S room.toNat)) :
    0 ≤ cutC room S ∧ PosS (cutS room S) ∧ ((cutS room S).map (·.1)).Nodup ∧ ((cutS room S).length : Int) ≤ room ∧ sumS (cutS room S) + (room + 1) * (slack + cutC room S) ≤ total ∧ (∀ k, lowV (cutS room S) k = max (lowV S k - cutC room S) 0) := by
  unfold cutC cutS
  by_cases h : room < (S.length : Int)
  · rw [if_pos h, if_pos h]
    have hN := hx h
    have hl : room.toNat < S.length := by omega
    have h0 := hN.pos hp hl
    have h1 := hN.sum hp hl
    refine ⟨by omega, takeL_pos _ _, takeL_nodup hn _, ?_, ?_, lowV_take hn hp (by omega)⟩
    · rw [takeL_len]; have := hN.2; omega
    · have e : ((room.toNat : Int) + 1) = room + 1 := by omega
      rw [e] at h1
      rw [Int.mul_add]
      omega
  · rw [if_neg h, if_neg h]
    refine ⟨by omega, hp, hn, by omega, by simpa using hsum, fun k => ?_⟩
    have := lowV_nonneg hp k
    omega
theorem cut_keys {room : Int} {S : CntrL} {K : ByteArray → Prop} (h : ∀ p ∈ S, K p.1) : ∀ p ∈ cutS room S, K p.1 := by
  unfold cutS
  split
  · exact takeL_keys h _
  · exact h
theorem plus_nth {s : HvS} (h : HvInv s) {k : ByteArray} {n : Int} (hlt : s.room < ((plusS s.S k n).length : Int)) : NthV (plusS s.S k n) s.room.toNat (leastV (plusS s.S k n) n) ∧ NthV (plusS s.S k n) s.room.toNat (nthV (plusS s.S k n) s.room.toNat) := by
  have h1 := h.len
  have h2 := plusS_len s.S k n
  obtain ⟨hn, hk, e⟩ := plusS_over (S := s.S) (k := k) (n := n) (by omega)
  have hN : NthV (plusS s.S k n) s.room.toNat (leastV (plusS s.S k n) n) := leastV_nth (k := k) ⟨(k, n), by rw [e]; simp, rfl⟩ _ (by omega)
  exact ⟨hN, by rw [nthV_is hN]; exact hN⟩
theorem addH_inv {s : HvS} (h : HvInv s) (k : ByteArray) (n : Int) : HvInv (addH s k n) := by
  unfold addH
  by_cases hk : hokB s k n = true
  · rw [if_pos hk]
    obtain ⟨k1, k2, n0, n1, a1⟩ := hokB_iff.1 hk
    have hnd := plusS_nodup h.nd k n
    have hp := plusS_pos h.pos k n0
    have hsm := sumS_plus h.nd k n
    have := h.sum
    obtain ⟨c0, c1, c2, c3, c4, c5⟩ := cut_facts (total := s.total + n) (slack := s.slack) h.r1 hnd hp h.s0 (by omega) (fun hlt => (plus_nth h hlt).2)
    have := h.t0
    have := h.t1
    have := h.a0
    have := h.s0
    exact ⟨h.r1, h.r2, by show 0 ≤ s.added + 1; omega, by show s.added + 1 ≤ _; omega, by show 0 ≤ s.total + n; omega, by show s.total + n ≤ (s.added + 1) * 1048576; omega, by show 0 ≤ s.slack + _; omega, c1, c2, cut_keys (K := fun k => (1 : Int) ≤ k.size ∧ (k.size : Int) ≤ 24) (plusS_keys (K := fun k => (1 : Int) ≤ k.size ∧ (k.size : Int) ≤ 24) h.ks ⟨k1, k2⟩ n), c4, c3⟩
  · rw [if_neg hk]; exact h
end Go.Proofs.Ytmigjlceogofaaa
