/- heavy plainly: where there is room for all nothing is cut. No program in sight. -/
import Derived.Test.YtpjaolablkcpmaaHvQ
namespace Go.Proofs.Ytpjaolablkcpmaa
set_option linter.unusedVariables false
set_option linter.unusedSimpArgs false

theorem nodup_len : ∀ {l m : List ByteArray}, l.Nodup → (∀ x ∈ l, x ∈ m) → l.length ≤ m.length
  | [], m, _, _ => by simp
  | a :: l, m, hn, hs => by
    rw [List.nodup_cons] at hn
    have h1 : l.length ≤ (m.filter (fun x => decide (x ≠ a))).length := nodup_len hn.2 (fun x hx => List.mem_filter.2 ⟨hs x (by simp [hx]), by
      have : x ≠ a := fun e => hn.1 (e ▸ hx)
      simpa using this⟩)
    have h2 : (m.filter (fun x => decide (x ≠ a))).length < m.length := by
      rw [List.length_filter_lt_length_iff_exists]
      exact ⟨a, hs a (by simp), by simp⟩
    rw [List.length_cons]
    omega
theorem len_keys {S : CntrL} (hn : (S.map (·.1)).Nodup) {ks : List ByteArray} (h : ∀ p ∈ S, p.1 ∈ ks) : S.length ≤ ks.length := by
  have := nodup_len hn (m := ks) (fun x hx => by obtain ⟨p, hp, rfl⟩ := List.mem_map.1 hx; exact h p hp)
  rwa [List.length_map] at this
/-- Nothing was cut. -/
def Cert (s : HvS) (f : ByteArray → Int) : Prop := s.slack = 0 ∧ ∀ k, lowV s.S k = f k
theorem Cert.new (m : Int) : Cert (newH m) (fun _ => 0) := ⟨rfl, fun k => by simp [newH, lowV_nil]⟩
theorem Cert.add {s : HvS} (hi : HvInv s) {f : ByteArray → Int} (h : Cert s f) (a : CntV) (ha : s.added < 1048576) {ks : List ByteArray} (hk : ∀ k, 0 < (f k + if a.key = k ∧ mayB a = true then a.n else 0) → k ∈ ks) (hr : (ks.length : Int) ≤ s.room) : Cert (addH s a.key a.n) (fun k => f k + if a.key = k ∧ mayB a = true then a.n else 0) := by
  unfold addH
  rw [hokB_may s a ha]
  by_cases hm : mayB a = true
  · rw [if_pos hm]
    obtain ⟨m1, m2, m3, m4⟩ := mayB_iff.1 hm
    have hlow : ∀ k, lowV (plusS s.S a.key a.n) k = f k + if a.key = k ∧ mayB a = true then a.n else 0 := fun k => by
      rw [lowV_plus, h.2 k]
      by_cases e : k = a.key
      · rw [if_pos e, if_pos ⟨e.symm, hm⟩]
      · rw [if_neg e, if_neg (fun h => e h.1.symm)]
    have hnd := plusS_nodup hi.nd a.key a.n
    have hp := plusS_pos hi.pos a.key m3
    have hl := len_keys hnd (ks := ks) (fun p hp' => by
      refine hk p.1 ?_
      rw [← hlow, lowV_mem hnd hp']
      exact hp p hp')
    have hno : ¬ s.room < ((plusS s.S a.key a.n).length : Int) := by omega
    refine ⟨?_, fun k => ?_⟩
    · show s.slack + cutC s.room (plusS s.S a.key a.n) = 0
      unfold cutC
      rw [if_neg hno, h.1]
      rfl
    · show lowV (cutS s.room (plusS s.S a.key a.n)) k = _
      unfold cutS
      rw [if_neg hno]
      exact hlow k
  · rw [if_neg hm]
    refine ⟨h.1, fun k => ?_⟩
    simp only
    rw [if_neg (fun h => hm h.2), Int.add_zero]
    exact h.2 k
theorem truthV_nonneg (l : List CntV) (k : ByteArray) : 0 ≤ truthV l k := (truthV_bd l k).1
theorem Cert.all {ks : List ByteArray} : ∀ (l : List CntV) {s : HvS} {f : ByteArray → Int}, HvInv s → Cert s f → s.added + l.length ≤ 1048576 → (∀ k, 0 < f k + truthV l k → k ∈ ks) → (ks.length : Int) ≤ s.room → Cert (addAll s l) (fun k => f k + truthV l k)
  | [], s, f, hi, h, _, _, _ => by
    refine ⟨h.1, fun k => ?_⟩
    show lowV s.S k = f k + truthV [] k
    rw [h.2 k]
    simp [truthV]
  | a :: l, s, f, hi, h, ha, hk, hr => by
    rw [List.length_cons] at ha
    have h2 := addH_added s a.key a.n
    have hstep := h.add hi a (by omega) (ks := ks) (fun k hk' => hk k (by
      have e : truthV (a :: l) k = (if a.key = k ∧ mayB a = true then a.n else 0) + truthV l k := rfl
      have := truthV_nonneg l k
      rw [e]
      omega)) hr
    have := Cert.all l (addH_inv hi a.key a.n) hstep (by omega) (ks := ks) (fun k hk' => hk k (by
      have e : truthV (a :: l) k = (if a.key = k ∧ mayB a = true then a.n else 0) + truthV l k := rfl
      rw [e]
      (try simp only at hk')
      omega)) (by rw [addH_room]; exact hr)
    refine ⟨this.1, fun k => ?_⟩
    have e : truthV (a :: l) k = (if a.key = k ∧ mayB a = true then a.n else 0) + truthV l k := rfl
    have hk2 := this.2 k
    have e2 : addAll s (a :: l) = addAll (addH s a.key a.n) l := rfl
    rw [e2]
    (try simp only at hk2 ⊢)
    rw [hk2, e]
    omega
end Go.Proofs.Ytpjaolablkcpmaa
