/- The cache's plain view: what a put, a use and a touch leave. -/
import Derived.Test.YtmigjlceogofaaaCacC
import Derived.Test.YtmigjlceogofaaaKitV
namespace Go.Proofs.Ytmigjlceogofaaa
set_option linter.unusedVariables false
set_option linter.unusedSimpArgs false

theorem nodup_sub_len {α : Type} [DecidableEq α] : ∀ (l m : List α), l.Nodup → (∀ x ∈ l, x ∈ m) → l.length ≤ m.length
  | [], _, _, _ => Nat.zero_le _
  | a :: l, m, hn, hs => by
    simp only [List.nodup_cons] at hn
    have ha := hs a (by simp)
    have ih := nodup_sub_len l (m.erase a) hn.2 (fun x hx => by
      have hne : x ≠ a := fun e => hn.1 (e ▸ hx)
      exact (List.mem_erase_of_ne hne).2 (hs x (by simp [hx])))
    rw [List.length_erase_of_mem ha] at ih
    have : 0 < m.length := List.length_pos_of_mem ha
    simp only [List.length_cons]
    omega

section
variable {κ υ : Type} [DecidableEq κ]
theorem mem_mput {l : List (κ × υ)} {x : κ} {v : υ} {p : κ × υ} : p ∈ mput l x v ↔ (p ∈ l ∧ p.1 ≠ x) ∨ p = (x, v) := by
  unfold mput
  split
  · rename_i hs
    constructor
    · intro hp
      obtain ⟨q, hq, rfl⟩ := List.mem_map.1 hp
      by_cases h : q.1 = x
      · rw [if_pos h]; exact .inr rfl
      · rw [if_neg h]; exact .inl ⟨hq, h⟩
    · rintro (⟨hp, hn⟩ | rfl)
      · exact List.mem_map.2 ⟨p, hp, by rw [if_neg hn]⟩
      · obtain ⟨u, hu⟩ := Option.isSome_iff_exists.1 hs
        exact List.mem_map.2 ⟨(x, u), mget_some_mem hu, by simp⟩
  · rename_i hs
    have hn : mget l x = none := Option.not_isSome_iff_eq_none.1 hs
    rw [List.mem_append, List.mem_singleton]
    constructor
    · rintro (hp | rfl)
      · exact .inl ⟨hp, mget_none_iff.1 hn p hp⟩
      · exact .inr rfl
    · rintro (⟨hp, _⟩ | rfl)
      · exact .inl hp
      · exact .inr rfl
theorem mem_mdel {l : List (κ × υ)} {x : κ} {p : κ × υ} : p ∈ mdel l x ↔ p ∈ l ∧ p.1 ≠ x := by
  unfold mdel
  rw [List.mem_filter]
  simp
theorem mput_len (l : List (κ × υ)) (x : κ) (v : υ) : (mput l x v).length ≤ l.length + 1 := by
  unfold mput
  split <;> simp
theorem mdel_le (l : List (κ × υ)) (x : κ) : (mdel l x).length ≤ l.length := List.length_filter_le _ _
end

theorem COut.len {sz : Int} {V1 V' : CView} (h : COut sz V1 V') : V'.length ≤ V1.length := by
  rcases h with ⟨_, rfl⟩ | ⟨_, o, e, _, _, rfl⟩
  · exact Nat.le_refl _
  · exact mdel_le _ _

section
variable {sz us : Int} {V V' : CView}
theorem put_common (nd : (V.map (·.1)).Nodup) (dis : ∀ p ∈ V, ∀ q ∈ V, p.2.used = q.2.used → p.1 = q.1) (le : ∀ p ∈ V, p.2.used ≤ us) (d : ByteArray) (e : PEnt) (he : e.used = us + 1) :
    ((mput V d e).map (·.1)).Nodup ∧ (∀ p ∈ mput V d e, ∀ q ∈ mput V d e, p.2.used = q.2.used → p.1 = q.1) ∧ (∀ p ∈ mput V d e, p.2.used ≤ us + 1) := by
  refine ⟨nodup_mput nd d e, ?_, ?_⟩
  · intro p hp q hq hu
    rcases mem_mput.1 hp with ⟨hp, _⟩ | rfl <;> rcases mem_mput.1 hq with ⟨hq, _⟩ | rfl
    · exact dis p hp q hq hu
    · have := le p hp; simp only at hu; omega
    · have := le q hq; simp only at hu; omega
    · rfl
  · intro p hp
    rcases mem_mput.1 hp with ⟨hp, _⟩ | rfl
    · have := le p hp; omega
    · simp only; omega

theorem del_common {V1 : CView} (nd : (V1.map (·.1)).Nodup) (dis : ∀ p ∈ V1, ∀ q ∈ V1, p.2.used = q.2.used → p.1 = q.1) (le : ∀ p ∈ V1, p.2.used ≤ us) (h : COut sz V1 V') :
    (V'.map (·.1)).Nodup ∧ (∀ p ∈ V', ∀ q ∈ V', p.2.used = q.2.used → p.1 = q.1) ∧ (∀ p ∈ V', p.2.used ≤ us) ∧ (∀ p ∈ V', p ∈ V1) := by
  rcases h with ⟨_, rfl⟩ | ⟨_, o, e, _, _, rfl⟩
  · exact ⟨nd, dis, le, fun p hp => hp⟩
  · exact ⟨mdel_nodup nd o, fun p hp q hq => dis p (mem_mdel.1 hp).1 q (mem_mdel.1 hq).1, fun p hp => le p (mem_mdel.1 hp).1, fun p hp => (mem_mdel.1 hp).1⟩

theorem mem_useV {x : Int} {p : ByteArray × PEnt} {d : ByteArray} (hp : p ∈ useV V d x) : ∃ p0 ∈ V, p.1 = p0.1 ∧ p.2.val = p0.2.val ∧ p.2.deps = p0.2.deps ∧ ((p0.1 = d ∧ p.2.used = x) ∨ (p0.1 ≠ d ∧ p.2.used = p0.2.used)) := by
  obtain ⟨p0, hp0, rfl⟩ := List.mem_map.1 hp
  refine ⟨p0, hp0, ?_⟩
  by_cases h : p0.1 = d
  · rw [if_pos h]; exact ⟨rfl, rfl, rfl, .inl ⟨h, rfl⟩⟩
  · rw [if_neg h]; exact ⟨rfl, rfl, rfl, .inr ⟨h, rfl⟩⟩
theorem keys_useV (V : CView) (d : ByteArray) (x : Int) : (useV V d x).map (·.1) = V.map (·.1) := by
  unfold useV
  rw [List.map_map]
  apply List.map_congr_left
  intro p _
  simp only [Function.comp]
  split <;> rfl
theorem mget_useV (V : CView) (d : ByteArray) (x : Int) (k : ByteArray) : mget (useV V d x) k = if k = d then (mget V k).map (fun q => { q with used := x }) else mget V k := by
  induction V with
  | nil => simp [useV, mget]
  | cons p V ih =>
    obtain ⟨a, q⟩ := p
    unfold useV at ih ⊢
    rw [List.map_cons]
    by_cases ha : a = d
    · subst ha
      simp only [if_true]
      by_cases hk : k = a
      · subst hk; simp [mget]
      · simp only [mget, hk, if_false] at ih ⊢
        exact ih
    · simp only [ha, if_false]
      by_cases hk : k = a
      · subst hk; simp [mget, ha]
      · simp only [mget, hk, if_false] at ih ⊢
        exact ih

/-- What is left behind a touch. -/
def touchV (V : CView) (ds : List ByteArray) : CView := V.filter fun q => !(q.2.deps.any fun d => memB d ds)
theorem mget_filter {κ υ : Type} [DecidableEq κ] {l : List (κ × υ)} (hn : (l.map (·.1)).Nodup) (f : κ × υ → Bool) (x : κ) : mget (l.filter f) x = (mget l x).filter (fun v => f (x, v)) := by
  induction l with
  | nil => rfl
  | cons p l ih =>
    obtain ⟨a, v⟩ := p
    simp only [List.map_cons, List.nodup_cons] at hn
    rw [List.filter_cons]
    by_cases hx : x = a
    · subst hx
      cases hf : f (x, v) with
      | true => simp [mget, hf, Option.filter]
      | false =>
        simp only [mget, if_true, Option.filter_some, hf]
        have : mget l x = none := mget_none_iff.2 (fun p hp e => hn.1 (by rw [← e]; exact List.mem_map.2 ⟨p, hp, rfl⟩))
        rw [if_neg (by simp), ih hn.2, this]
        rfl
    · cases hf : f (a, v) with
      | true => simp only [mget, hx, if_false, if_true]; exact ih hn.2
      | false => simp only [mget, hx, if_false]; rw [if_neg (by simp)]; exact ih hn.2

end
end Go.Proofs.Ytmigjlceogofaaa
