/- The plain law of CacheFresh. -/
import Derived.Test.YtjfknojkiiileaaCacC
import Derived.Test.YtjfknojkiiileaaPut8
namespace Go.Proofs.Ytjfknojkiiileaa
set_option linter.unusedVariables false
set_option linter.unusedSimpArgs false

theorem nodup_sub_len {α : Type} [DecidableEq α] : ∀ (l m : List α), l.Nodup → (∀ x ∈ l, x ∈ m) → l.length ≤ m.length
  | [], _, _, _ => Nat.zero_le _
  | a :: l, m, hn, hs => by
    simp only [List.nodup_cons] at hn
    have ha := hs a (by simp)
    have ih := nodup_sub_len l (m.erase a) hn.2 (fun x hx => by
      have hne : x ≠ a := fun e => hn.1 (e ▸ hx)
      exact (List.mem_erase_of_ne hne).2 (hs x (by simp [hx])))
    rw [List.length_erase_of_mem ha] at ih
    have : 0 < m.length := List.length_pos_of_mem ha
    simp only [List.length_cons]
    omega

section
variable {κ υ : Type} [DecidableEq κ]
theorem mem_mput {l : List (κ × υ)} {x : κ} {v : υ} {p : κ × υ} : p ∈ mput l x v ↔ (p ∈ l ∧ p.1 ≠ x) ∨ p = (x, v) := by
  unfold mput
  split
  · rename_i hs
    constructor
    · intro hp
      obtain ⟨q, hq, rfl⟩ := List.mem_map.1 hp
      by_cases h : q.1 = x
      · rw [if_pos h]; exact .inr rfl
      · rw [if_neg h]; exact .inl ⟨hq, h⟩
    · rintro (⟨hp, hn⟩ | rfl)
      · exact List.mem_map.2 ⟨p, hp, by rw [if_neg hn]⟩
      · obtain ⟨u, hu⟩ := Option.isSome_iff_exists.1 hs
        exact List.mem_map.2 ⟨(x, u), mget_some_mem hu, by simp⟩
  · rename_i hs
    have hn : mget l x = none := Option.not_isSome_iff_eq_none.1 hs
    rw [List.mem_append, List.mem_singleton]
    constructor
    · rintro (hp | rfl)
      · exact .inl ⟨hp, mget_none_iff.1 hn p hp⟩
      · exact .inr rfl
    · rintro (⟨hp, _⟩ | rfl)
      · exact .inl hp
      · exact .inr rfl
theorem mem_mdel {l : List (κ × υ)} {x : κ} {p : κ × υ} : p ∈ mdel l x ↔ p ∈ l ∧ p.1 ≠ x := by
  unfold mdel
  rw [List.mem_filter]
  simp
theorem mput_len (l : List (κ × υ)) (x : κ) (v : υ) : (mput l x v).length ≤ l.length + 1 := by
  unfold mput
  split <;> simp
theorem mdel_le (l : List (κ × υ)) (x : κ) : (mdel l x).length ≤ l.length := List.length_filter_le _ _
end

/-- What is known of the key behind some deeds. -/
structure FrInv (sz us : Int) (V : CView) (key value : ByteArray) (put touched : Bool) (deps others : List ByteArray) : Prop where
  nd : (V.map (·.1)).Nodup
  dis : ∀ p ∈ V, ∀ q ∈ V, p.2.used = q.2.used → p.1 = q.1
  le : ∀ p ∈ V, p.2.used ≤ us
  ond : others.Nodup
  got : ∀ q, mget V key = some q → put = true ∧ touched = false ∧ q.val = value ∧ q.deps = deps ∧ ∀ p ∈ V, q.used < p.2.used → p.1 ∈ others
  gone : put = true → touched = false → mget V key = none → sz ≤ (others.length : Int)

theorem COut.len {sz : Int} {V1 V' : CView} (h : COut sz V1 V') : V'.length ≤ V1.length := by
  rcases h with ⟨_, rfl⟩ | ⟨_, o, e, _, _, rfl⟩
  · exact Nat.le_refl _
  · exact mdel_le _ _

theorem FrInv.init (sz : Int) (key : ByteArray) : FrInv sz 0 [] key ByteArray.empty false false [] [] where
  nd := by simp
  dis := by simp
  le := by simp
  ond := by simp
  got := by simp [mget]
  gone := by simp

section
variable {sz us : Int} {V V' : CView} {key value : ByteArray} {put touched : Bool} {deps others : List ByteArray}

theorem put_common (nd : (V.map (·.1)).Nodup) (dis : ∀ p ∈ V, ∀ q ∈ V, p.2.used = q.2.used → p.1 = q.1) (le : ∀ p ∈ V, p.2.used ≤ us) (d : ByteArray) (e : PEnt) (he : e.used = us + 1) :
    ((mput V d e).map (·.1)).Nodup ∧ (∀ p ∈ mput V d e, ∀ q ∈ mput V d e, p.2.used = q.2.used → p.1 = q.1) ∧ (∀ p ∈ mput V d e, p.2.used ≤ us + 1) := by
  refine ⟨nodup_mput nd d e, ?_, ?_⟩
  · intro p hp q hq hu
    rcases mem_mput.1 hp with ⟨hp, _⟩ | rfl <;> rcases mem_mput.1 hq with ⟨hq, _⟩ | rfl
    · exact dis p hp q hq hu
    · have := le p hp; simp only at hu; omega
    · have := le q hq; simp only at hu; omega
    · rfl
  · intro p hp
    rcases mem_mput.1 hp with ⟨hp, _⟩ | rfl
    · have := le p hp; omega
    · simp only; omega

theorem del_common {V1 : CView} (nd : (V1.map (·.1)).Nodup) (dis : ∀ p ∈ V1, ∀ q ∈ V1, p.2.used = q.2.used → p.1 = q.1) (le : ∀ p ∈ V1, p.2.used ≤ us) (h : COut sz V1 V') :
    (V'.map (·.1)).Nodup ∧ (∀ p ∈ V', ∀ q ∈ V', p.2.used = q.2.used → p.1 = q.1) ∧ (∀ p ∈ V', p.2.used ≤ us) ∧ (∀ p ∈ V', p ∈ V1) := by
  rcases h with ⟨_, rfl⟩ | ⟨_, o, e, _, _, rfl⟩
  · exact ⟨nd, dis, le, fun p hp => hp⟩
  · exact ⟨mdel_nodup nd o, fun p hp q hq => dis p (mem_mdel.1 hp).1 q (mem_mdel.1 hq).1, fun p hp => le p (mem_mdel.1 hp).1, fun p hp => (mem_mdel.1 hp).1⟩

theorem FrInv.putSelf (h : FrInv sz us V key value put touched deps others) (hsz : 1 ≤ sz) (v : ByteArray) (ds : List ByteArray) (hc : COut sz (mput V key ⟨v, ds, us + 1⟩) V') :
    FrInv sz (us + 1) V' key v true false ds [] := by
  obtain ⟨a1, a2, a3⟩ := put_common h.nd h.dis h.le key ⟨v, ds, us + 1⟩ rfl
  obtain ⟨b1, b2, b3, b4⟩ := del_common a1 a2 a3 hc
  have hg1 := mget_mput (l := V) key (⟨v, ds, us + 1⟩ : PEnt) key
  rw [if_pos rfl] at hg1
  have hg : mget V' key = some ⟨v, ds, us + 1⟩ := by
    rcases hc with ⟨_, rfl⟩ | ⟨hl, o, e, ho, hmin, rfl⟩
    · exact hg1
    · rw [mget_mdel]
      by_cases hok : key = o
      · subst hok
        exfalso
        have he : e = ⟨v, ds, us + 1⟩ := by
          have := mget_of_mem a1 ho
          rw [hg1] at this
          injection this with this
          exact this.symm
        subst he
        -- another one was used before
        have hlen : 1 < (mput V key (⟨v, ds, us + 1⟩ : PEnt)).length := by omega
        have hex : ∃ p ∈ mput V key (⟨v, ds, us + 1⟩ : PEnt), p.1 ≠ key := by
          refine Classical.byContradiction fun hno => ?_
          have hall : ∀ p ∈ mput V key (⟨v, ds, us + 1⟩ : PEnt), p.1 = key := fun p hp => Classical.byContradiction fun hne => hno ⟨p, hp, hne⟩
          have := nodup_sub_len _ [key] a1 (fun x hx => by
            obtain ⟨p, hp, rfl⟩ := List.mem_map.1 hx
            simp [hall p hp])
          simp at this
          omega
        obtain ⟨p, hp, hne⟩ := hex
        have h1 := hmin p hp
        simp only at h1
        rcases mem_mput.1 hp with ⟨hp', _⟩ | rfl
        · have := h.le p hp'; omega
        · exact hne rfl
      · rw [if_neg hok]; exact hg1
  refine ⟨b1, b2, b3, by simp, ?_, ?_⟩
  · intro q hq
    rw [hg] at hq
    injection hq with hq
    subst hq
    refine ⟨rfl, rfl, rfl, rfl, fun p hp hlt => ?_⟩
    have := b3 p hp
    simp only at hlt
    omega
  · intro _ _ hn
    rw [hg] at hn
    cases hn

theorem FrInv.putOther (h : FrInv sz us V key value put touched deps others) (d : ByteArray) (hd : d ≠ key) (v : ByteArray) (ds : List ByteArray) (hc : COut sz (mput V d ⟨v, ds, us + 1⟩) V') :
    FrInv sz (us + 1) V' key value put touched deps (putV others d) := by
  obtain ⟨a1, a2, a3⟩ := put_common h.nd h.dis h.le d ⟨v, ds, us + 1⟩ rfl
  obtain ⟨b1, b2, b3, b4⟩ := del_common a1 a2 a3 hc
  have hg1 := mget_mput (l := V) d (⟨v, ds, us + 1⟩ : PEnt) key
  rw [if_neg (Ne.symm hd)] at hg1
  have hlenP : (others.length : Int) ≤ ((putV others d).length : Int) := by
    have := nodup_sub_len others (putV others d) h.ond (fun x hx => mem_putV.2 (.inl hx))
    omega
  refine ⟨b1, b2, b3, nodup_putV h.ond, ?_, ?_⟩
  · intro q hq
    have hq1 : mget V key = some q := by
      rw [← hg1]
      exact mget_of_mem a1 (b4 _ (mget_some_mem hq))
    obtain ⟨c1, c2, c3, c4, c5⟩ := h.got q hq1
    refine ⟨c1, c2, c3, c4, fun p hp hlt => ?_⟩
    rcases mem_mput.1 (b4 p hp) with ⟨hp', _⟩ | rfl
    · exact mem_putV.2 (.inl (c5 p hp' hlt))
    · exact mem_putV.2 (.inr rfl)
  · intro p1 p2 hn
    cases hq : mget V key with
    | none => have := h.gone p1 p2 hq; omega
    | some q =>
      obtain ⟨c1, c2, c3, c4, c5⟩ := h.got q hq
      rw [hq] at hg1
      rcases hc with ⟨_, rfl⟩ | ⟨hl, o, e, ho, hmin, rfl⟩
      · rw [hg1] at hn; cases hn
      · rw [mget_mdel] at hn
        by_cases hok : key = o
        · subst hok
          have he : e = q := by
            have := mget_of_mem a1 ho
            rw [hg1] at this
            injection this with this
            exact this.symm
          subst he
          have hkeys := nodup_sub_len ((mdel (mput V d (⟨v, ds, us + 1⟩ : PEnt)) key).map (·.1)) (putV others d) (mdel_nodup a1 key) (fun x hx => by
            obtain ⟨p, hp, rfl⟩ := List.mem_map.1 hx
            obtain ⟨hp1, hp2⟩ := mem_mdel.1 hp
            have h1 := hmin p hp1
            have h2 : e.used ≠ p.2.used := fun eq => hp2 (a2 (key, e) ho p hp1 eq).symm
            rcases mem_mput.1 hp1 with ⟨hp', _⟩ | rfl
            · exact mem_putV.2 (.inl (c5 p hp' (by omega)))
            · exact mem_putV.2 (.inr rfl))
          have hml := mdel_len a1 (p := (key, e)) ho
          simp only [List.length_map] at hkeys
          simp only at hml
          omega
        · rw [if_neg hok, hg1] at hn
          cases hn

theorem mem_useV {x : Int} {p : ByteArray × PEnt} {d : ByteArray} (hp : p ∈ useV V d x) : ∃ p0 ∈ V, p.1 = p0.1 ∧ p.2.val = p0.2.val ∧ p.2.deps = p0.2.deps ∧ ((p0.1 = d ∧ p.2.used = x) ∨ (p0.1 ≠ d ∧ p.2.used = p0.2.used)) := by
  obtain ⟨p0, hp0, rfl⟩ := List.mem_map.1 hp
  refine ⟨p0, hp0, ?_⟩
  by_cases h : p0.1 = d
  · rw [if_pos h]; exact ⟨rfl, rfl, rfl, .inl ⟨h, rfl⟩⟩
  · rw [if_neg h]; exact ⟨rfl, rfl, rfl, .inr ⟨h, rfl⟩⟩
theorem keys_useV (V : CView) (d : ByteArray) (x : Int) : (useV V d x).map (·.1) = V.map (·.1) := by
  unfold useV
  rw [List.map_map]
  apply List.map_congr_left
  intro p _
  simp only [Function.comp]
  split <;> rfl
theorem mget_useV (V : CView) (d : ByteArray) (x : Int) (k : ByteArray) : mget (useV V d x) k = if k = d then (mget V k).map (fun q => { q with used := x }) else mget V k := by
  induction V with
  | nil => simp [useV, mget]
  | cons p V ih =>
    obtain ⟨a, q⟩ := p
    unfold useV at ih ⊢
    rw [List.map_cons]
    by_cases ha : a = d
    · subst ha
      simp only [if_true]
      by_cases hk : k = a
      · subst hk; simp [mget]
      · simp only [mget, hk, if_false] at ih ⊢
        exact ih
    · simp only [ha, if_false]
      by_cases hk : k = a
      · subst hk; simp [mget, ha]
      · simp only [mget, hk, if_false] at ih ⊢
        exact ih

theorem use_common (h : FrInv sz us V key value put touched deps others) (d : ByteArray) :
    ((useV V d (us + 1)).map (·.1)).Nodup ∧ (∀ p ∈ useV V d (us + 1), ∀ q ∈ useV V d (us + 1), p.2.used = q.2.used → p.1 = q.1) ∧ (∀ p ∈ useV V d (us + 1), p.2.used ≤ us + 1) := by
  refine ⟨by rw [keys_useV]; exact h.nd, ?_, ?_⟩
  · intro p hp q hq hu
    obtain ⟨p0, hp0, e1, _, _, f1⟩ := mem_useV hp
    obtain ⟨q0, hq0, e2, _, _, f2⟩ := mem_useV hq
    rw [e1, e2]
    have l1 := h.le p0 hp0
    have l2 := h.le q0 hq0
    rcases f1 with ⟨g1, u1⟩ | ⟨g1, u1⟩ <;> rcases f2 with ⟨g2, u2⟩ | ⟨g2, u2⟩
    · rw [g1, g2]
    · omega
    · omega
    · exact h.dis p0 hp0 q0 hq0 (by omega)
  · intro p hp
    obtain ⟨p0, hp0, _, _, _, f1⟩ := mem_useV hp
    have l1 := h.le p0 hp0
    rcases f1 with ⟨_, u1⟩ | ⟨_, u1⟩ <;> omega

theorem FrInv.getSelf (h : FrInv sz us V key value put touched deps others) : FrInv sz (us + 1) (useV V key (us + 1)) key value put touched deps others := by
  obtain ⟨a1, a2, a3⟩ := use_common h key
  have hg := mget_useV V key (us + 1) key
  rw [if_pos rfl] at hg
  refine ⟨a1, a2, a3, h.ond, ?_, ?_⟩
  · intro q hq
    rw [hg] at hq
    cases h0 : mget V key with
    | none => rw [h0] at hq; cases hq
    | some q0 =>
      rw [h0] at hq
      simp only [Option.map_some, Option.some.injEq] at hq
      subst hq
      obtain ⟨c1, c2, c3, c4, c5⟩ := h.got q0 h0
      refine ⟨c1, c2, c3, c4, fun p hp hlt => ?_⟩
      have := a3 p hp
      simp only at hlt
      omega
  · intro p1 p2 hn
    rw [hg] at hn
    refine h.gone p1 p2 ?_
    cases h0 : mget V key with
    | none => rfl
    | some q0 => rw [h0] at hn; cases hn

theorem FrInv.more (h : FrInv sz us V key value put touched deps others) (d : ByteArray) : FrInv sz us V key value put touched deps (putV others d) := by
  have hlenP : (others.length : Int) ≤ ((putV others d).length : Int) := by
    have := nodup_sub_len others (putV others d) h.ond (fun x hx => mem_putV.2 (.inl hx))
    omega
  refine ⟨h.nd, h.dis, h.le, nodup_putV h.ond, ?_, fun p1 p2 hn => by have := h.gone p1 p2 hn; omega⟩
  intro q hq
  obtain ⟨c1, c2, c3, c4, c5⟩ := h.got q hq
  exact ⟨c1, c2, c3, c4, fun p hp hlt => mem_putV.2 (.inl (c5 p hp hlt))⟩

theorem FrInv.getOther (h : FrInv sz us V key value put touched deps others) (d : ByteArray) (hd : d ≠ key) : FrInv sz (us + 1) (useV V d (us + 1)) key value put touched deps (putV others d) := by
  obtain ⟨a1, a2, a3⟩ := use_common h d
  have hg := mget_useV V d (us + 1) key
  rw [if_neg (Ne.symm hd)] at hg
  have hm := h.more d
  refine ⟨a1, a2, a3, hm.ond, ?_, fun p1 p2 hn => hm.gone p1 p2 (by rw [← hg]; exact hn)⟩
  intro q hq
  rw [hg] at hq
  obtain ⟨c1, c2, c3, c4, c5⟩ := hm.got q hq
  refine ⟨c1, c2, c3, c4, fun p hp hlt => ?_⟩
  obtain ⟨p0, hp0, e1, _, _, f1⟩ := mem_useV hp
  rw [e1]
  rcases f1 with ⟨g1, u1⟩ | ⟨g1, u1⟩
  · rw [g1]; exact mem_putV.2 (.inr rfl)
  · exact c5 p0 hp0 (by omega)

/-- What is left behind a touch. -/
def touchV (V : CView) (ds : List ByteArray) : CView := V.filter fun q => !(q.2.deps.any fun d => memB d ds)
theorem mget_filter {κ υ : Type} [DecidableEq κ] {l : List (κ × υ)} (hn : (l.map (·.1)).Nodup) (f : κ × υ → Bool) (x : κ) : mget (l.filter f) x = (mget l x).filter (fun v => f (x, v)) := by
  induction l with
  | nil => rfl
  | cons p l ih =>
    obtain ⟨a, v⟩ := p
    simp only [List.map_cons, List.nodup_cons] at hn
    rw [List.filter_cons]
    by_cases hx : x = a
    · subst hx
      cases hf : f (x, v) with
      | true => simp [mget, hf, Option.filter]
      | false =>
        simp only [mget, if_true, Option.filter_some, hf]
        have : mget l x = none := mget_none_iff.2 (fun p hp e => hn.1 (by rw [← e]; exact List.mem_map.2 ⟨p, hp, rfl⟩))
        rw [if_neg (by simp), ih hn.2, this]
        rfl
    · cases hf : f (a, v) with
      | true => simp only [mget, hx, if_false, if_true]; exact ih hn.2
      | false => simp only [mget, hx, if_false]; rw [if_neg (by simp)]; exact ih hn.2

theorem FrInv.touch (h : FrInv sz us V key value put touched deps others) (ds : List ByteArray) : FrInv sz us (touchV V ds) key value put (touched || deps.any fun d => memB d ds) deps others := by
  have hsub : ∀ p ∈ touchV V ds, p ∈ V := fun p hp => (List.mem_filter.1 hp).1
  refine ⟨h.nd.sublist (List.filter_sublist.map _), fun p hp q hq => h.dis p (hsub p hp) q (hsub q hq), fun p hp => h.le p (hsub p hp), h.ond, ?_, ?_⟩
  · intro q hq
    have hgf := mget_filter h.nd (fun q => !(q.2.deps.any fun d => memB d ds)) key
    unfold touchV at hq
    rw [hgf] at hq
    cases h0 : mget V key with
    | none => rw [h0] at hq; cases hq
    | some q0 =>
      rw [h0] at hq
      obtain ⟨c1, c2, c3, c4, c5⟩ := h.got q0 h0
      simp only [Option.filter_some] at hq
      split at hq
      · rename_i hf
        injection hq with hq
        subst hq
        refine ⟨c1, ?_, c3, c4, fun p hp hlt => c5 p (hsub p hp) hlt⟩
        rw [c2, ← c4]
        simpa using hf
      · cases hq
  · intro p1 p2 hn
    rw [Bool.or_eq_false_iff] at p2
    refine h.gone p1 p2.1 ?_
    cases h0 : mget V key with
    | none => rfl
    | some q0 =>
      exfalso
      obtain ⟨c1, c2, c3, c4, c5⟩ := h.got q0 h0
      have hgf := mget_filter h.nd (fun q => !(q.2.deps.any fun d => memB d ds)) key
      unfold touchV at hn
      rw [hgf, h0] at hn
      simp only [Option.filter_some] at hn
      split at hn
      · cases hn
      · rename_i hf
        apply hf
        rw [c4]
        simpa using p2.2
end
end Go.Proofs.Ytjfknojkiiileaa
