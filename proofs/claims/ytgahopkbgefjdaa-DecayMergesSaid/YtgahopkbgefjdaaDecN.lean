/- Counters as objects: Trim and Merge. -/
import Derived.Test.YtgahopkbgefjdaaDecM
import Derived.Test.YtgahopkbgefjdaaKitO
namespace Go.Proofs.Ytgahopkbgefjdaa
open Go.ChangeShapes Go.WideShapes Go.ChangeAt Go.RowKit
set_option linter.unusedVariables false
set_option linter.unusedSimpArgs false

theorem nodup_len_le {α : Type} [DecidableEq α] : ∀ (l m : List α), l.Nodup → (∀ x ∈ l, x ∈ m) → l.length ≤ m.length
  | [], _, _, _ => Nat.zero_le _
  | a :: l, m, hn, hs => by
    simp only [List.nodup_cons] at hn
    have ha := hs a (by simp)
    have ih := nodup_len_le l (m.erase a) hn.2 (fun x hx => by
      have hne : x ≠ a := fun e => hn.1 (e ▸ hx)
      exact (List.mem_erase_of_ne hne).2 (hs x (by simp [hx])))
    rw [List.length_erase_of_mem ha] at ih
    have : 0 < m.length := List.length_pos_of_mem ha
    simp only [List.length_cons]
    omega
theorem histSum_pos {f : Int → Int} {key : ByteArray} : ∀ {hist : List AddD}, 0 < histSum f key hist → ∃ a ∈ hist, a.key = key ∧ f a.at_ ≠ 0
  | [], h => by simp [histSum] at h
  | a :: hist, h => by
    have e : histSum f key (a :: hist) = histN f key a + histSum f key hist := rfl
    by_cases h0 : 0 < histSum f key hist
    · obtain ⟨b, hb, h1⟩ := histSum_pos h0
      exact ⟨b, by simp [hb], h1⟩
    · have h1 : histN f key a ≠ 0 := by omega
      unfold histN at h1
      split at h1
      · rename_i hk
        exact ⟨a, by simp, hk, fun e => h1 (by rw [e]; simp)⟩
      · exact absurd rfl h1
section
variable {S : KeysL} {R : Nat → RowL} {hist : List AddD} {cnt : Int}
theorem DecInv.keys_le (h : DecInv S R hist cnt) (hS : (S.map (·.1)).Nodup) : S.length ≤ hist.length := by
  have := nodup_len_le (S.map (·.1)) (hist.map (·.key)) hS (fun k hk => by
    obtain ⟨p, hp, rfl⟩ := List.mem_map.1 hk
    have e := h.eqs p.1 (fun _ => 1)
    rw [mrow_mem hS (show (p.1, p.2) ∈ S from hp)] at e
    have hpos : 0 < rowSum (fun _ => 1) (R p.2) := by
      have hne := h.some_ p hp
      have hp' := h.pos p hp
      cases hr : R p.2 with
      | nil => exact absurd hr hne
      | cons q r =>
        rw [hr] at hp'
        have h1 := rowSum1_nonneg r (fun z hz => (hp' z (by simp [hz])).1)
        have h0 := (hp' q (by simp)).1
        have e2 : rowSum (fun _ => 1) (q :: r) = q.2 * 1 + rowSum (fun _ => 1) r := rfl
        omega
    rw [e] at hpos
    obtain ⟨a, ha, hk, _⟩ := histSum_pos hpos
    exact List.mem_map.2 ⟨a, ha, hk⟩)
  simpa using this
theorem rowSum_delta {x : Int} : ∀ {r : RowL}, (∀ q ∈ r, 0 < q.2) → (∃ q ∈ r, q.1 = x) → 0 < rowSum (fun a => if a = x then 1 else 0) r
  | [], _, h => by obtain ⟨q, hq, _⟩ := h; simp at hq
  | q :: r, hp, h => by
    have hnn : ∀ r : RowL, (∀ q ∈ r, 0 < q.2) → 0 ≤ rowSum (fun a => if a = x then 1 else 0) r := by
      intro r
      induction r with
      | nil => intro _; simp [rowSum]
      | cons q r ih =>
        intro hp
        have := ih (fun z hz => hp z (by simp [hz]))
        have h0 := hp q (by simp)
        have e2 : rowSum (fun a => if a = x then 1 else 0) (q :: r) = q.2 * (if q.1 = x then 1 else 0) + rowSum (fun a => if a = x then 1 else 0) r := rfl
        rw [e2]
        split <;> omega
    have e2 : rowSum (fun a => if a = x then 1 else 0) (q :: r) = q.2 * (if q.1 = x then 1 else 0) + rowSum (fun a => if a = x then 1 else 0) r := rfl
    have h0 := hp q (by simp)
    have h1 := hnn r (fun z hz => hp z (by simp [hz]))
    rw [e2]
    by_cases e : q.1 = x
    · rw [if_pos e]; omega
    · rw [if_neg e]
      obtain ⟨z, hz, hzx⟩ := h
      rcases List.mem_cons.1 hz with rfl | hz
      · exact absurd hzx e
      · have := rowSum_delta (x := x) (r := r) (fun y hy => hp y (by simp [hy])) ⟨z, hz, hzx⟩
        omega
theorem DecInv.row_le (h : DecInv S R hist cnt) (hS : (S.map (·.1)).Nodup) {p : ByteArray × Nat} (hp : p ∈ S) (hr : ((R p.2).map (·.1)).Nodup) : (R p.2).length ≤ hist.length := by
  have := nodup_len_le ((R p.2).map (·.1)) (hist.map (·.at_)) hr (fun x hx => by
    obtain ⟨q, hq, rfl⟩ := List.mem_map.1 hx
    have e := h.eqs p.1 (fun a => if a = q.1 then 1 else 0)
    rw [mrow_mem hS (show (p.1, p.2) ∈ S from hp)] at e
    have hpos := rowSum_delta (x := q.1) (fun z hz => (h.pos p hp z hz).1) ⟨q, hq, rfl⟩
    rw [e] at hpos
    obtain ⟨a, ha, _, hf⟩ := histSum_pos hpos
    refine List.mem_map.2 ⟨a, ha, ?_⟩
    by_cases e : a.at_ = q.1
    · exact e
    · exact absurd (if_neg e) hf)
  simpa using this
end

theorem DecObj.own (cb : Nat) (hf cnt : Int) (hist : List AddD) : Own1 (fun w F => DecObj w cb F hf cnt hist) := ⟨fun h hk hG => DecObj.keep h hk hG, fun h => DecObj.lt h⟩

theorem dtrim_o (cb : Nat) (F : Nat → Prop) (hf cnt : Int) (hist : List AddD) (now : Int) (w : World) (h : DecObj w cb F hf cnt hist) (n0 : 0 ≤ now) (n1 : now ≤ 9223372036854775807) (hl : (hist.length : Int) ≤ 100000) :
    Calls Try.prog 23 #[.pointer (some ⟨cb, 0, none⟩), .int .i64 now] w fun e w' => (∃ n, e = .returned (.int .i64 n)) ∧ ∃ F', DecObj w' cb F' hf cnt (hist.filter (hk (now - 21 * hf))) ∧ Upd F w F' w' := by
  obtain ⟨bs, S, R, hD, hI, rfl, h1, h2⟩ := h
  refine (dtrim_any cb bs hf cnt S R hist now w hD hI h1 h2 n0 n1 (by have := hI.keys_le hD.sums.nodup; omega) (fun p hp => by have := hI.row_le hD.sums.nodup hp (hD.rows p hp).nodup; omega)).mono ?_
  rintro e w' ⟨S', R', done, rfl, hD', hT, hall, hK⟩
  refine ⟨⟨_, rfl⟩, _, ⟨bs, S', R', hD', hI.trim hT hD.sums.nodup hall, rfl, h1, h2⟩, hK, ?_⟩
  rintro k (rfl | rfl | ⟨p, hp, rfl⟩)
  · exact .inl (.inl rfl)
  · exact .inl (.inr (.inl rfl))
  · exact .inl (.inr (.inr ⟨p, hT.sub.subset hp, rfl⟩))

theorem dmerge_o (cb ob : Nat) (F G : Nat → Prop) (hf cnt cnto : Int) (hist histo : List AddD) (w : World) (h : DecObj w cb F hf cnt hist) (ho : DecObj w ob G hf cnto histo) (hap : Apart F G) (hct : cnt + cnto ≤ 1048576) :
    Calls Try.prog 18 #[.pointer (some ⟨cb, 0, none⟩), .pointer (some ⟨ob, 0, none⟩)] w fun e w' => e = .returned (.bool true) ∧ ∃ F', DecObj w' cb F' hf (cnt + cnto) (hist ++ histo) ∧ Upd F w F' w' := by
  obtain ⟨bs, S, R, hD, hI, rfl, h1, h2⟩ := h
  obtain ⟨bo, So, Ro, hDo, oI, rfl, _, _⟩ := ho
  obtain ⟨o0, o1, o2⟩ := cell_of_dec hDo
  refine (dmerge_any cb bs ob bo hf cnt cnto S So R Ro hist histo w hD hI o0 o1 o2 hDo.sums oI (fun p hp => .inr ⟨fun hf' => hap _ hf' (.inr (.inr ⟨p, hp, rfl⟩)), hDo.rows p hp⟩) hct h1 h2 (fun e => hap cb (.inl rfl) (by rw [← e]; exact .inr (.inl rfl))) (fun p hp e => hap cb (.inl rfl) (by rw [← e]; exact .inr (.inr ⟨p, hp, rfl⟩)))).mono ?_
  rintro e w' ⟨rfl, S', R', hD', hI', hK, hF⟩
  exact ⟨rfl, _, ⟨bs, S', R', hD', hI', rfl, h1, h2⟩, hK, hF⟩
end Go.Proofs.Ytgahopkbgefjdaa
