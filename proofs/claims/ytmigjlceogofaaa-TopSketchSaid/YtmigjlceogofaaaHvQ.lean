/- heavy plainly, continued: counters in order; what the reference makes of a list of counters; merges; the true numbers. No program in sight. -/
import Derived.Test.YtmigjlceogofaaaHvP
import Derived.Test.YtmigjlceogofaaaHvD
namespace Go.Proofs.Ytmigjlceogofaaa
open Go.Shelf Go.Lib Go.Sort
set_option linter.unusedVariables false
set_option linter.unusedSimpArgs false

def hToCnt (p : ByteArray × Int) : CntV := ⟨p.1, p.2⟩
def keysC (cs : List CntV) : List ByteArray := cs.map CntV.key
theorem keys_toCnt (S : CntrL) : keysC (S.map hToCnt) = S.map (·.1) := by unfold keysC; rw [List.map_map]; rfl
theorem toCnt_nodup {S : CntrL} (hn : (S.map (·.1)).Nodup) : (S.map hToCnt).Nodup := List.pairwise_map.2 ((List.pairwise_map.1 hn).imp (fun {a b} h e => h (congrArg CntV.key e)))
/-- The counters, in order. -/
def TopOf (S : CntrL) (cs : List CntV) : Prop := (S.map hToCnt).Perm cs ∧ cs.Pairwise (fun x y => cntLt x y = true)
theorem TopOf.ex {S : CntrL} (hn : (S.map (·.1)).Nodup) : ∃ cs, TopOf S cs := by
  obtain ⟨M, hM, hMs⟩ := sort_ex (lt := ltOf cntCmp) cntLt_irr cntLt_tr cntLt_tot (toCnt_nodup hn)
  exact ⟨M, hM, hMs⟩
theorem TopOf.uniq {S : CntrL} {cs ds : List CntV} (h : TopOf S cs) (k : TopOf S ds) : cs = ds := cnts_unique h.2 k.2 (fun r => by rw [← h.1.mem_iff, ← k.1.mem_iff])
theorem TopOf.perm {S T : CntrL} {cs : List CntV} (h : TopOf S cs) (hp : S.Perm T) : TopOf T cs := ⟨((hp.map _).symm).trans h.1, h.2⟩
theorem TopOf.len {S : CntrL} {cs : List CntV} (h : TopOf S cs) : cs.length = S.length := by have := h.1.length_eq; rw [List.length_map] at this; exact this.symm
theorem TopOf.nil : TopOf [] [] := ⟨List.Perm.nil, List.Pairwise.nil⟩
def TopH (S : CntrL) (n : Int) (ts : List CntV) : Prop := ∃ cs, TopOf S cs ∧ ts = cs.take (topM n cs.length)
theorem TopH.none_ {S : CntrL} (hn : (S.map (·.1)).Nodup) {n : Int} (h : n ≤ 0) : TopH S n [] := by
  obtain ⟨M, hM⟩ := TopOf.ex hn
  refine ⟨M, hM, ?_⟩
  have : topM n M.length = 0 := by unfold topM; omega
  rw [this]
  rfl
theorem TopH.perm {S T : CntrL} {n : Int} {cs : List CntV} (h : TopH S n cs) (hp : S.Perm T) : TopH T n cs := by
  obtain ⟨ds, hd, e⟩ := h
  exact ⟨ds, hd.perm hp, e⟩
theorem countP_toCnt (S : CntrL) (q : Int → Bool) : (S.map hToCnt).countP (fun x => q x.n) = S.countP (fun p => q p.2) := by rw [List.countP_map]; rfl
theorem cntLt_n {x y : CntV} (h : cntLt x y = true) : y.n ≤ x.n := by rcases (cntLt_iff x y).1 h with h | ⟨h, _⟩ <;> omega
theorem TopOf.nth {S : CntrL} {cs : List CntV} (h : TopOf S cs) {r : Nat} (hr : r < cs.length) : NthV S r (cs[r]).n := by
  have h1 := h.1.countP_eq (fun x => decide ((cs[r]).n ≤ x.n))
  have h2 := h.1.countP_eq (fun x => decide ((cs[r]).n < x.n))
  rw [countP_toCnt S (fun m => decide ((cs[r]).n ≤ m))] at h1
  rw [countP_toCnt S (fun m => decide ((cs[r]).n < m))] at h2
  have hs := List.pairwise_iff_getElem.1 h.2
  have hle : ∀ i (hi : i < cs.length), i ≤ r → (cs[r]).n ≤ (cs[i]).n := by
    intro i hi hir
    rcases Nat.lt_or_eq_of_le hir with h | h
    · exact cntLt_n (hs i r hi hr h)
    · subst h; exact Int.le_refl _
  have hge : ∀ i (hi : i < cs.length), r ≤ i → (cs[i]).n ≤ (cs[r]).n := by
    intro i hi hir
    rcases Nat.lt_or_eq_of_le hir with h | h
    · exact cntLt_n (hs r i hr hi h)
    · subst h; exact Int.le_refl _
  unfold NthV
  rw [h1, h2]
  constructor
  · have e : cs = cs.take (r + 1) ++ cs.drop (r + 1) := (List.take_append_drop _ _).symm
    have hc : (cs.take (r + 1)).countP (fun x => decide ((cs[r]).n ≤ x.n)) = (cs.take (r + 1)).length := List.countP_eq_length.2 (fun a ha => by
      obtain ⟨i, hi, rfl⟩ := List.mem_iff_getElem.1 ha
      rw [List.length_take] at hi
      rw [List.getElem_take]
      exact decide_eq_true (hle i (by omega) (by omega)))
    have hsub : (cs.take (r + 1)).countP (fun x => decide ((cs[r]).n ≤ x.n)) ≤ cs.countP (fun x => decide ((cs[r]).n ≤ x.n)) := (List.take_sublist _ _).countP_le
    rw [hc, List.length_take] at hsub
    omega
  · have hd : (cs.drop r).countP (fun x => decide ((cs[r]).n < x.n)) = 0 := List.countP_eq_zero.2 (fun a ha => by
      obtain ⟨i, hi, rfl⟩ := List.mem_iff_getElem.1 ha
      rw [List.length_drop] at hi
      rw [List.getElem_drop]
      have := hge (r + i) (by omega) (by omega)
      simp only [decide_eq_true_eq]
      omega)
    have ht : (cs.take r).countP (fun x => decide ((cs[r]).n < x.n)) ≤ (cs.take r).length := List.countP_le_length
    have e : cs.countP (fun x => decide ((cs[r]).n < x.n)) = (cs.take r).countP (fun x => decide ((cs[r]).n < x.n)) + (cs.drop r).countP (fun x => decide ((cs[r]).n < x.n)) := by
      rw [← List.countP_append, List.take_append_drop]
    rw [List.length_take] at ht
    omega
theorem nth_ex {S : CntrL} (hn : (S.map (·.1)).Nodup) {r : Nat} (hr : r < S.length) : NthV S r (nthV S r) := by
  obtain ⟨cs, hc⟩ := TopOf.ex hn
  have := hc.nth (r := r) (by rw [hc.len]; exact hr)
  rw [nthV_is this]
  exact this
theorem TopOf.nthV {S : CntrL} {cs : List CntV} (h : TopOf S cs) {r : Nat} (hr : r < cs.length) : nthV S r = (cs[r]).n := nthV_is (h.nth hr)

/-! ### The reference's steps on a row of counters -/
/-- Taken from each. -/
def minusC (cs : List CntV) (c : Int) : List CntV := (cs.filter (fun x => decide (c < x.n))).map (fun x => ⟨x.key, x.n - c⟩)
theorem minusC_snoc (cs : List CntV) (c : Int) (x : CntV) : minusC (cs ++ [x]) c = minusC cs c ++ (if c < x.n then [⟨x.key, x.n - c⟩] else []) := by
  unfold minusC
  rw [List.filter_append, List.map_append]
  by_cases h : c < x.n <;> simp [h]
theorem minusC_len (cs : List CntV) (c : Int) : (minusC cs c).length ≤ cs.length := by unfold minusC; rw [List.length_map]; exact List.length_filter_le _ _
theorem TopOf.minus {S : CntrL} {cs : List CntV} (h : TopOf S cs) (c : Int) : TopOf (takeL S c) (minusC cs c) := by
  constructor
  · have e : (takeL S c).map hToCnt = minusC (S.map hToCnt) c := by
      unfold takeL minusC
      have key : ∀ S : CntrL, ((S.map (fun p => (p.1, p.2 - c))).filter (fun p => decide (0 < p.2))).map hToCnt = ((S.map hToCnt).filter (fun x => decide (c < x.n))).map (fun x => ⟨x.key, x.n - c⟩) := by
        intro S
        induction S with
        | nil => rfl
        | cons p S ih =>
          simp only [List.map_cons, List.filter_cons]
          by_cases hc : c < p.2
          · have h1 : decide (0 < p.2 - c) = true := decide_eq_true (by omega)
            have h2 : decide (c < (hToCnt p).n) = true := decide_eq_true hc
            rw [h1, h2]
            simp only [if_true, List.map_cons, ih]
            rfl
          · have h1 : decide (0 < p.2 - c) = false := decide_eq_false (by omega)
            have h2 : decide (c < (hToCnt p).n) = false := decide_eq_false hc
            rw [h1, h2]
            simpa using ih
      exact key S
    rw [e]
    exact (h.1.filter _).map _
  · unfold minusC
    refine List.pairwise_map.2 ((h.2.filter _).imp ?_)
    intro a b hab
    rw [cntLt_iff] at hab ⊢
    rcases hab with hab | ⟨h1, h2⟩
    · left; show b.n - c < a.n - c; omega
    · right; exact ⟨by show b.n - c = a.n - c; omega, h2⟩
/-- A key's number grows, or one more. -/
def hasC (cs : List CntV) (k : ByteArray) : Bool := cs.any (fun x => decide (x.key = k))
def bumpC (cs : List CntV) (k : ByteArray) (n : Int) : List CntV := cs.map (fun x => if x.key = k then ⟨x.key, x.n + n⟩ else x)
def plusC (cs : List CntV) (k : ByteArray) (n : Int) : List CntV := bumpC cs k n ++ (if (decide (n = 0) || hasC cs k) = true then [] else [⟨k, n⟩])
theorem bumpC_snoc (cs : List CntV) (k : ByteArray) (n : Int) (x : CntV) : bumpC (cs ++ [x]) k n = bumpC cs k n ++ [if x.key = k then ⟨x.key, x.n + n⟩ else x] := by unfold bumpC; rw [List.map_append]; rfl
theorem hasC_snoc (cs : List CntV) (k : ByteArray) (x : CntV) : hasC (cs ++ [x]) k = (hasC cs k || decide (x.key = k)) := by unfold hasC; rw [List.any_append]; simp
theorem bumpC_len (cs : List CntV) (k : ByteArray) (n : Int) : (bumpC cs k n).length = cs.length := by unfold bumpC; simp
theorem plusC_len (cs : List CntV) (k : ByteArray) (n : Int) : (plusC cs k n).length ≤ cs.length + 1 := by unfold plusC; rw [List.length_append, bumpC_len]; split <;> simp
theorem hasC_iff {cs : List CntV} {k : ByteArray} : hasC cs k = true ↔ ∃ x ∈ cs, x.key = k := by unfold hasC; rw [List.any_eq_true]; constructor <;> rintro ⟨x, hx, e⟩ <;> exact ⟨x, hx, by simpa using e⟩
theorem plusC_perm {cs ds : List CntV} (h : cs.Perm ds) (k : ByteArray) (n : Int) : (plusC cs k n).Perm (plusC ds k n) := by
  unfold plusC
  have e : hasC cs k = hasC ds k := by
    rw [Bool.eq_iff_iff, hasC_iff, hasC_iff]
    constructor <;> rintro ⟨x, hx, e⟩
    · exact ⟨x, h.mem_iff.1 hx, e⟩
    · exact ⟨x, h.mem_iff.2 hx, e⟩
  rw [e]
  exact (h.map _).append_right _
theorem plusC_toCnt {S : CntrL} (hn : (S.map (·.1)).Nodup) (k : ByteArray) (n : Int) : plusC (S.map hToCnt) k n = (plusS S k n).map hToCnt := by
  unfold plusC plusS
  by_cases h0 : n = 0
  · subst h0
    rw [if_pos rfl, if_pos (by simp), List.append_nil]
    unfold bumpC
    refine (List.map_congr_left (fun x _ => ?_)).trans (List.map_id _)
    split
    · exact CntV.same ⟨rfl, by show x.n + 0 = x.n; omega⟩
    · rfl
  · rw [if_neg h0]
    by_cases h : ∃ p ∈ S, p.1 = k
    · have hh : hasC (S.map hToCnt) k = true := by
        rw [hasC_iff]
        obtain ⟨p, hp, e⟩ := h
        exact ⟨hToCnt p, List.mem_map.2 ⟨p, hp, rfl⟩, e⟩
      have hm : (mget S k).isSome = true := by
        cases e : mget S k with
        | none => obtain ⟨p, hp, e'⟩ := h; exact absurd e' (mget_none_iff.1 e p hp)
        | some v => rfl
      rw [if_pos (by rw [hh]; simp), List.append_nil]
      unfold bumpC mput
      rw [if_pos hm, List.map_map, List.map_map]
      refine List.map_congr_left (fun p hp => ?_)
      show (if (hToCnt p).key = k then (⟨(hToCnt p).key, (hToCnt p).n + n⟩ : CntV) else hToCnt p) = hToCnt (if p.1 = k then (k, lowV S k + n) else p)
      by_cases e : p.1 = k
      · rw [if_pos (show (hToCnt p).key = k from e), if_pos e, ← e, lowV_mem hn hp]
        rfl
      · rw [if_neg (show ¬ (hToCnt p).key = k from e), if_neg e]
    · have hno : ∀ p ∈ S, p.1 ≠ k := fun p hp e => h ⟨p, hp, e⟩
      have hh : hasC (S.map hToCnt) k = false := by
        rw [Bool.eq_false_iff, Ne, hasC_iff]
        rintro ⟨x, hx, e⟩
        obtain ⟨p, hp, rfl⟩ := List.mem_map.1 hx
        exact hno p hp e
      rw [if_neg (by rw [hh]; simp [h0]), lowV_not hno, mput_new _ hno]
      unfold bumpC
      rw [List.map_append, List.map_map]
      congr 1
      · refine List.map_congr_left (fun p hp => ?_)
        show (if (hToCnt p).key = k then (⟨(hToCnt p).key, (hToCnt p).n + n⟩ : CntV) else hToCnt p) = hToCnt p
        rw [if_neg (show ¬ (hToCnt p).key = k from hno p hp)]
      · simp [hToCnt]
theorem TopOf.plus {S : CntrL} (hn : (S.map (·.1)).Nodup) {cs : List CntV} (h : (S.map hToCnt).Perm cs) (k : ByteArray) (n : Int) : ((plusS S k n).map hToCnt).Perm (plusC cs k n) := by
  rw [← plusC_toCnt hn]
  exact plusC_perm h k n
def lowC (cs : List CntV) (k : ByteArray) : Int := ((cs.find? (fun x => decide (x.key = k))).map CntV.n).getD 0
theorem lowC_is {S : CntrL} (hn : (S.map (·.1)).Nodup) {cs : List CntV} (h : (S.map hToCnt).Perm cs) (k : ByteArray) : lowC cs k = lowV S k := by
  unfold lowC
  cases e : cs.find? (fun x => decide (x.key = k)) with
  | none =>
    rw [List.find?_eq_none] at e
    rw [lowV_not (fun p hp e' => e (hToCnt p) (h.mem_iff.1 (List.mem_map.2 ⟨p, hp, rfl⟩)) (decide_eq_true e'))]
    rfl
  | some x =>
    have h1 := List.mem_of_find?_eq_some e
    have h2 := List.find?_some e
    obtain ⟨p, hp, rfl⟩ := List.mem_map.1 (h.mem_iff.2 h1)
    have h3 : p.1 = k := of_decide_eq_true h2
    rw [← h3, lowV_mem hn hp]
    rfl

/-! ### Merges -/
def plusAll (S T : CntrL) : CntrL := T.foldl (fun S p => plusS S p.1 p.2) S
theorem plusAll_nodup {S : CntrL} (hn : (S.map (·.1)).Nodup) (T : CntrL) : ((plusAll S T).map (·.1)).Nodup := by
  induction T generalizing S with
  | nil => exact hn
  | cons p T ih => exact ih (plusS_nodup hn _ _)
theorem plusAll_pos {S T : CntrL} (h : PosS S) (hT : PosS T) : PosS (plusAll S T) := by
  induction T generalizing S with
  | nil => exact h
  | cons p T ih => exact ih (plusS_pos h _ (by have := hT p (by simp); omega)) (fun q hq => hT q (by simp [hq]))
theorem plusAll_keys {K : ByteArray → Prop} {S T : CntrL} (h : ∀ p ∈ S, K p.1) (hT : ∀ p ∈ T, K p.1) : ∀ p ∈ plusAll S T, K p.1 := by
  induction T generalizing S with
  | nil => exact h
  | cons p T ih => exact ih (plusS_keys (K := K) h (hT p (by simp)) _) (fun q hq => hT q (by simp [hq]))
theorem lowV_all (S : CntrL) {T : CntrL} (hT : (T.map (·.1)).Nodup) (k : ByteArray) : lowV (plusAll S T) k = lowV S k + lowV T k := by
  induction T generalizing S with
  | nil => simp [plusAll, lowV_nil]
  | cons p T ih =>
    rw [List.map_cons, List.nodup_cons] at hT
    have e : plusAll S (p :: T) = plusAll (plusS S p.1 p.2) T := rfl
    rw [e, ih _ hT.2, lowV_plus, lowV_cons]
    by_cases hk : k = p.1
    · have h0 : lowV T k = 0 := lowV_not (fun q hq e' => hT.1 (List.mem_map.2 ⟨q, hq, e'.trans hk⟩))
      rw [if_pos hk, if_pos hk, h0]
      omega
    · rw [if_neg hk, if_neg hk]
      omega
theorem sumS_all {S : CntrL} (hn : (S.map (·.1)).Nodup) (T : CntrL) : sumS (plusAll S T) = sumS S + sumS T := by
  induction T generalizing S with
  | nil => simp [plusAll, sumS]
  | cons p T ih =>
    have e : plusAll S (p :: T) = plusAll (plusS S p.1 p.2) T := rfl
    rw [e, ih (plusS_nodup hn _ _), sumS_plus hn, sumS_cons]
    omega
theorem plusAll_len (S T : CntrL) : (plusAll S T).length ≤ S.length + T.length := by
  induction T generalizing S with
  | nil => simp [plusAll]
  | cons p T ih =>
    have e : plusAll S (p :: T) = plusAll (plusS S p.1 p.2) T := rfl
    have h1 := ih (plusS S p.1 p.2)
    have h2 := plusS_len S p.1 p.2
    rw [e, List.length_cons]
    omega
theorem plusAll_snoc (S T : CntrL) (p : ByteArray × Int) : plusAll S (T ++ [p]) = plusS (plusAll S T) p.1 p.2 := by unfold plusAll; rw [List.foldl_append]; rfl
theorem plusAll_perm {S S' T T' : CntrL} (h : S.Perm S') (k : T.Perm T') (hS : (S.map (·.1)).Nodup) (hT : (T.map (·.1)).Nodup) (pS : PosS S) (pT : PosS T) : (plusAll S T).Perm (plusAll S' T') := by
  have hS' : (S'.map (·.1)).Nodup := ((h.map (·.1)).nodup_iff).1 hS
  have hT' : (T'.map (·.1)).Nodup := ((k.map (·.1)).nodup_iff).1 hT
  have pS' : PosS S' := fun p hp => pS p (h.symm.subset hp)
  have pT' : PosS T' := fun p hp => pT p (k.symm.subset hp)
  exact perm_of_low (plusAll_nodup hS T) (plusAll_nodup hS' T') (plusAll_pos pS pT) (plusAll_pos pS' pT') (fun x => by rw [lowV_all _ hT, lowV_all _ hT', lowV_perm h hS, lowV_perm k hT])
noncomputable def mergeH (s o : HvS) : HvS := ⟨s.room, s.added + o.added, s.total + o.total, s.slack + o.slack + cutC s.room (plusAll s.S o.S), cutS s.room (plusAll s.S o.S)⟩
theorem cut_low {room total slack : Int} {S : CntrL} (hr : 1 ≤ room) (hn : (S.map (·.1)).Nodup) (hp : PosS S) (hs0 : 0 ≤ slack) (hsum : sumS S + (room + 1) * slack ≤ total) :
    0 ≤ cutC room S ∧ PosS (cutS room S) ∧ ((cutS room S).map (·.1)).Nodup ∧ ((cutS room S).length : Int) ≤ room ∧ sumS (cutS room S) + (room + 1) * (slack + cutC room S) ≤ total ∧ (∀ k, lowV (cutS room S) k = max (lowV S k - cutC room S) 0) :=
  cut_facts (room := room) (total := total) (slack := slack) (S := S) hr hn hp hs0 hsum (fun h => nth_ex hn (by omega))
theorem mergeH_sum {s o : HvS} (h : HvInv s) (k : HvInv o) (hr : o.room = s.room) : sumS (plusAll s.S o.S) + (s.room + 1) * (s.slack + o.slack) ≤ s.total + o.total := by
  have h1 := sumS_all h.nd o.S
  have h2 := h.sum
  have h3 := k.sum
  rw [hr] at h3
  rw [Int.mul_add]
  omega
theorem mergeH_inv {s o : HvS} (h : HvInv s) (k : HvInv o) (hr : o.room = s.room) (ha : s.added + o.added ≤ 1048576) : HvInv (mergeH s o) := by
  have hn := plusAll_nodup h.nd o.S
  have hp := plusAll_pos h.pos k.pos
  have := h.s0
  have := k.s0
  obtain ⟨c0, c1, c2, c3, c4, c5⟩ := cut_low (slack := s.slack + o.slack) h.r1 hn hp (by omega) (mergeH_sum h k hr)
  have := h.a0
  have := k.a0
  have := h.t0
  have := k.t0
  have := h.t1
  have := k.t1
  exact ⟨h.r1, h.r2, by show 0 ≤ s.added + o.added; omega, ha, by show 0 ≤ s.total + o.total; omega, by show s.total + o.total ≤ (s.added + o.added) * 1048576; omega, by show 0 ≤ s.slack + o.slack + _; omega, c1, c2, cut_keys (K := fun k => (1 : Int) ≤ k.size ∧ (k.size : Int) ≤ 24) (plusAll_keys (K := fun k => (1 : Int) ≤ k.size ∧ (k.size : Int) ≤ 24) h.ks k.ks), c4, c3⟩

/-! ### Adds one by one; the true number -/
noncomputable def addAll (s : HvS) (l : List CntV) : HvS := l.foldl (fun s a => addH s a.key a.n) s
theorem addAll_snoc (s : HvS) (l : List CntV) (a : CntV) : addAll s (l ++ [a]) = addH (addAll s l) a.key a.n := by unfold addAll; rw [List.foldl_append]; rfl
theorem addAll_inv {s : HvS} (h : HvInv s) (l : List CntV) : HvInv (addAll s l) := by
  induction l generalizing s with
  | nil => exact h
  | cons a l ih => exact ih (addH_inv h _ _)
theorem addH_room (s : HvS) (k : ByteArray) (n : Int) : (addH s k n).room = s.room := by unfold addH; split <;> rfl
theorem addAll_room (s : HvS) (l : List CntV) : (addAll s l).room = s.room := by
  induction l generalizing s with
  | nil => rfl
  | cons a l ih => exact (ih _).trans (addH_room _ _ _)
theorem addH_added (s : HvS) (k : ByteArray) (n : Int) : (addH s k n).added ≤ s.added + 1 := by
  unfold addH
  split
  · exact Int.le_refl _
  · omega
theorem addAll_added (s : HvS) (l : List CntV) : (addAll s l).added ≤ s.added + l.length := by
  induction l generalizing s with
  | nil => simp [addAll]
  | cons a l ih =>
    have h1 := ih (addH s a.key a.n)
    have h2 := addH_added s a.key a.n
    have e : addAll s (a :: l) = addAll (addH s a.key a.n) l := rfl
    rw [e, List.length_cons]
    omega
/-- May an add be? -/
def mayB (a : CntV) : Bool := decide ((1 : Int) ≤ a.key.size) && decide ((a.key.size : Int) ≤ 24) && decide (0 ≤ a.n) && decide (a.n ≤ 1048576)
theorem hokB_may (s : HvS) (a : CntV) (h : s.added < 1048576) : hokB s a.key a.n = mayB a := by unfold hokB mayB; rw [decide_eq_true h, Bool.and_true]
theorem mayB_iff {a : CntV} : mayB a = true ↔ ((1 : Int) ≤ a.key.size ∧ (a.key.size : Int) ≤ 24 ∧ 0 ≤ a.n ∧ a.n ≤ 1048576) := by
  unfold mayB
  simp only [Bool.and_eq_true, decide_eq_true_eq]
  constructor
  · rintro ⟨⟨⟨a, b⟩, c⟩, d⟩; exact ⟨a, b, c, d⟩
  · rintro ⟨a, b, c, d⟩; exact ⟨⟨⟨a, b⟩, c⟩, d⟩
def truthV : List CntV → ByteArray → Int
  | [], _ => 0
  | a :: l, k => (if a.key = k ∧ mayB a = true then a.n else 0) + truthV l k
theorem truthV_append (l m : List CntV) (k : ByteArray) : truthV (l ++ m) k = truthV l k + truthV m k := by
  induction l with
  | nil => simp [truthV]
  | cons a l ih => rw [List.cons_append, truthV, truthV, ih]; omega
theorem truthV_snoc (l : List CntV) (a : CntV) (k : ByteArray) : truthV (l ++ [a]) k = truthV l k + if a.key = k ∧ mayB a = true then a.n else 0 := by rw [truthV_append]; simp [truthV]
theorem truthV_bd (l : List CntV) (k : ByteArray) : 0 ≤ truthV l k ∧ truthV l k ≤ (l.length : Int) * 1048576 := by
  induction l with
  | nil => simp [truthV]
  | cons a l ih =>
    rw [truthV, List.length_cons]
    by_cases h : a.key = k ∧ mayB a = true
    · have := mayB_iff.1 h.2
      rw [if_pos h]
      constructor <;> omega
    · rw [if_neg h]
      constructor <;> omega
/-- The bounds hold of what f says. -/
def Tr (s : HvS) (f : ByteArray → Int) : Prop := ∀ k, lowV s.S k ≤ f k ∧ f k ≤ lowV s.S k + s.slack
theorem Tr.new (m : Int) : Tr (newH m) (fun _ => 0) := fun k => by simp [newH, lowV_nil]
theorem Tr.add {s : HvS} (hi : HvInv s) {f : ByteArray → Int} (h : Tr s f) (a : CntV) (ha : s.added < 1048576) : Tr (addH s a.key a.n) (fun k => f k + if a.key = k ∧ mayB a = true then a.n else 0) := by
  intro k
  have hk := h k
  unfold addH
  rw [hokB_may s a ha]
  by_cases hm : mayB a = true
  · rw [if_pos hm]
    obtain ⟨m1, m2, m3, m4⟩ := mayB_iff.1 hm
    have hsm := sumS_plus hi.nd a.key a.n
    have := hi.sum
    obtain ⟨c0, c1, c2, c3, c4, c5⟩ := cut_low (total := s.total + a.n) (slack := s.slack) hi.r1 (plusS_nodup hi.nd a.key a.n) (plusS_pos hi.pos a.key m3) hi.s0 (by omega)
    have e := c5 k
    have e2 := lowV_plus s.S a.key a.n k
    have hnn := lowV_nonneg hi.pos k
    show lowV (cutS s.room (plusS s.S a.key a.n)) k ≤ _ ∧ _ ≤ lowV (cutS s.room (plusS s.S a.key a.n)) k + (s.slack + cutC s.room (plusS s.S a.key a.n))
    rw [e, e2]
    simp only
    by_cases hx : k = a.key
    · rw [if_pos hx, if_pos ⟨hx.symm, hm⟩]
      omega
    · rw [if_neg hx, if_neg (fun h => hx h.1.symm)]
      omega
  · rw [if_neg hm]
    simp only
    rw [if_neg (fun h => hm h.2)]
    omega
theorem Tr.all {s : HvS} (hi : HvInv s) {f : ByteArray → Int} (h : Tr s f) (l : List CntV) (ha : s.added + l.length ≤ 1048576) : Tr (addAll s l) (fun k => f k + truthV l k) := by
  induction l generalizing s f with
  | nil => simpa [addAll, truthV] using h
  | cons a l ih =>
    rw [List.length_cons] at ha
    have h2 := addH_added s a.key a.n
    have := ih (addH_inv hi a.key a.n) (h.add hi a (by omega)) (by omega)
    intro k
    have hk := this k
    have e : addAll s (a :: l) = addAll (addH s a.key a.n) l := rfl
    have e2 : truthV (a :: l) k = (if a.key = k ∧ mayB a = true then a.n else 0) + truthV l k := rfl
    rw [e]
    simp only at hk ⊢
    rw [e2]
    omega
theorem Tr.merge {s o : HvS} (hi : HvInv s) (ho : HvInv o) (hr : o.room = s.room) {f g : ByteArray → Int} (h : Tr s f) (k : Tr o g) : Tr (mergeH s o) (fun x => f x + g x) := by
  intro x
  have h1 := h x
  have h2 := k x
  have hn := plusAll_nodup hi.nd o.S
  have hp := plusAll_pos hi.pos ho.pos
  have := hi.s0
  have := ho.s0
  obtain ⟨c0, c1, c2, c3, c4, c5⟩ := cut_low (slack := s.slack + o.slack) hi.r1 hn hp (by omega) (mergeH_sum hi ho hr)
  have e := c5 x
  have e2 := lowV_all s.S ho.nd x
  have := lowV_nonneg hi.pos x
  have := lowV_nonneg ho.pos x
  show lowV (cutS s.room (plusAll s.S o.S)) x ≤ _ ∧ _ ≤ lowV (cutS s.room (plusAll s.S o.S)) x + (s.slack + o.slack + cutC s.room (plusAll s.S o.S))
  rw [e, e2]
  simp only
  omega
end Go.Proofs.Ytmigjlceogofaaa
