/- Plain: of things near any of some, each with its best likeness (bestF); the row of them in order (AmongOf), of which there is but one. -/
import Derived.Test.YtbmkejiijkbmlaaPrK
namespace Go.Proofs.Ytbmkejiijkbmlaa
open Go.ChangeShapes Go.WideShapes Go.ChangeAt Go.RowKit Go.Shelf Go.Lib Go.Sort Go.Proofs
set_option linter.unusedVariables false
set_option linter.unusedSimpArgs false

theorem rev_ind {α : Type} {P : List α → Prop} (nil : P []) (append_singleton : ∀ l a, P l → P (l ++ [a])) (l : List α) : P l := by
  have h : ∀ l : List α, P l.reverse := fun l => by
    induction l with
    | nil => exact nil
    | cons a l ih => rw [List.reverse_cons]; exact append_singleton _ _ ih
  have := h l.reverse
  rwa [List.reverse_reverse] at this
/-- Is x told for a? -/
def Told (L : List (List ByteArray)) (T : List ByteArray) (floor : Int) (a x : ByteArray) : Prop := x ∉ T ∧ 0 < pairF L a x ∧ floor ≤ cnt2 L a x
instance (L : List (List ByteArray)) (T : List ByteArray) (floor : Int) (a x : ByteArray) : Decidable (Told L T floor a x) := by unfold Told; exact inferInstance
def upB (o : Option (Int × Int)) (n d : Int) : Option (Int × Int) :=
  match o with
  | none => some (n, d)
  | some r => if 0 < cmpInt (n * r.2) (r.1 * d) then some (n, d) else some r
def stepB (L : List (List ByteArray)) (T : List ByteArray) (floor : Int) (x : ByteArray) (o : Option (Int × Int)) (a : ByteArray) : Option (Int × Int) :=
  if Told L T floor a x then upB o (likeNum L a x) (likeDen L a x) else o
def bestF (L : List (List ByteArray)) (T : List ByteArray) (floor : Int) (done : List ByteArray) (x : ByteArray) : Option (Int × Int) := done.foldl (stepB L T floor x) none
theorem bestF_snoc (L : List (List ByteArray)) (T : List ByteArray) (floor : Int) (done : List ByteArray) (a x : ByteArray) : bestF L T floor (done ++ [a]) x = stepB L T floor x (bestF L T floor done x) a := by
  unfold bestF
  rw [List.foldl_append]
  rfl

theorem cmpInt_pos (x y : Int) : 0 < cmpInt x y ↔ y < x := by
  rcases cmpInt_casesK x y with ⟨h1, e1⟩ | ⟨h1, e1⟩ | ⟨h1, e1⟩ <;> rw [e1] <;> omega

section
variable {L : List (List ByteArray)} {T : List ByteArray} {floor : Int} {done : List ByteArray} {x : ByteArray}
theorem likeDen_pos (L : List (List ByteArray)) (a b : ByteArray) : 1 ≤ likeDen L a b := by
  have h1 := cnt1_le L a
  have h2 := cnt1_le L b
  unfold likeDen
  split
  · omega
  · split
    · omega
    · have : 1 * 1 ≤ cnt1 L a * cnt1 L b := Int.mul_le_mul (by omega) (by omega) (by omega) (by omega)
      omega
theorem likeNum_nn (L : List (List ByteArray)) (a b : ByteArray) : 0 ≤ likeNum L a b := by
  have h1 := cnt2_le L a b
  unfold likeNum
  split
  · omega
  · split
    · omega
    · exact Int.mul_nonneg h1.1 h1.1
/-- Where it comes from. -/
theorem bestF_some {n d : Int} (h : bestF L T floor done x = some (n, d)) : ∃ a ∈ done, Told L T floor a x ∧ n = likeNum L a x ∧ d = likeDen L a x := by
  induction done using rev_ind generalizing n d with
  | nil => simp [bestF] at h
  | append_singleton l a ih =>
    rw [bestF_snoc] at h
    unfold stepB at h
    by_cases ht : Told L T floor a x
    · rw [if_pos ht] at h
      cases ho : bestF L T floor l x with
      | none =>
        rw [ho] at h
        simp only [upB, Option.some.injEq, Prod.mk.injEq] at h
        exact ⟨a, by simp, ht, h.1.symm, h.2.symm⟩
      | some r =>
        rw [ho] at h
        simp only [upB] at h
        split at h
        · simp only [Option.some.injEq, Prod.mk.injEq] at h
          exact ⟨a, by simp, ht, h.1.symm, h.2.symm⟩
        · simp only [Option.some.injEq] at h
          subst h
          obtain ⟨b, hb, h1⟩ := ih ho
          exact ⟨b, by simp [hb], h1⟩
    · rw [if_neg ht] at h
      obtain ⟨b, hb, h1⟩ := ih h
      exact ⟨b, by simp [hb], h1⟩
theorem bestF_ok {n d : Int} (h : bestF L T floor done x = some (n, d)) : 0 ≤ n ∧ 1 ≤ d := by
  obtain ⟨a, -, -, rfl, rfl⟩ := bestF_some h
  exact ⟨likeNum_nn L a x, likeDen_pos L a x⟩
/-- None is better. -/
theorem bestF_max {n d : Int} (h : bestF L T floor done x = some (n, d)) : ∀ a ∈ done, Told L T floor a x → likeNum L a x * d ≤ n * likeDen L a x := by
  induction done using rev_ind generalizing n d with
  | nil => simp
  | append_singleton l a ih =>
    rw [bestF_snoc] at h
    unfold stepB at h
    intro b hb htb
    by_cases ht : Told L T floor a x
    · rw [if_pos ht] at h
      cases ho : bestF L T floor l x with
      | none =>
        rw [ho] at h
        simp only [upB, Option.some.injEq, Prod.mk.injEq] at h
        rcases List.mem_append.1 hb with hb | hb
        · exfalso
          have : ∀ (l' : List ByteArray), b ∈ l' → bestF L T floor l' x ≠ none := by
            intro l'
            induction l' using rev_ind with
            | nil => simp
            | append_singleton m c ihm =>
              intro hm hn
              rw [bestF_snoc] at hn
              unfold stepB at hn
              by_cases hc : Told L T floor c x
              · rw [if_pos hc] at hn
                cases hq : bestF L T floor m x with
                | none => rw [hq] at hn; simp [upB] at hn
                | some r => rw [hq] at hn; simp only [upB] at hn; split at hn <;> cases hn
              · rw [if_neg hc] at hn
                rcases List.mem_append.1 hm with hm | hm
                · exact ihm hm hn
                · simp at hm; subst hm; exact hc htb
          exact this l hb ho
        · simp at hb
          subst hb
          rw [← h.1, ← h.2]
          exact Int.le_refl _
      | some r =>
        obtain ⟨rn, rd⟩ := r
        rw [ho] at h
        have hr := bestF_ok ho
        have ihr := ih ho
        have hda := likeDen_pos L a x
        have hdb := likeDen_pos L b x
        simp only [upB] at h
        split at h
        · rename_i hlt
          rw [cmpInt_pos] at hlt
          simp only [Option.some.injEq, Prod.mk.injEq] at h
          obtain ⟨h1, h2⟩ := h
          rcases List.mem_append.1 hb with hb | hb
          · have := ihr b hb htb
            rw [← h1, ← h2]
            exact (frac_transK (nx := likeNum L a x) (dx := likeDen L a x) (ny := rn) (dy := rd) (nz := likeNum L b x) (dz := likeDen L b x) hda hr.2 hdb (Int.le_of_lt hlt) this).1
          · simp at hb
            subst hb
            rw [← h1, ← h2]
            exact Int.le_refl _
        · rename_i hlt
          rw [cmpInt_pos] at hlt
          simp only [Option.some.injEq, Prod.mk.injEq] at h
          obtain ⟨h1, h2⟩ := h
          subst h1 h2
          rcases List.mem_append.1 hb with hb | hb
          · exact ihr b hb htb
          · simp at hb
            subst hb
            omega
    · rw [if_neg ht] at h
      rcases List.mem_append.1 hb with hb | hb
      · exact ih h b hb htb
      · simp at hb
        subst hb
        exact absurd htb ht
/-- Whatever is told for one of them has one. -/
theorem bestF_ne {a : ByteArray} (ha : a ∈ done) (ht : Told L T floor a x) : ∃ r, bestF L T floor done x = some r := by
  induction done using rev_ind with
  | nil => simp at ha
  | append_singleton l b ih =>
    rw [bestF_snoc]
    unfold stepB
    by_cases hb : Told L T floor b x
    · rw [if_pos hb]
      cases bestF L T floor l x with
      | none => exact ⟨_, rfl⟩
      | some r => simp only [upB]; split <;> exact ⟨_, rfl⟩
    · rw [if_neg hb]
      rcases List.mem_append.1 ha with ha | ha
      · exact ih ha
      · simp at ha; subst ha; exact absurd ht hb
/-- Whoever tells nothing plays no part. -/
theorem bestF_drop (p : ByteArray → Bool) (T' : List ByteArray) (h1 : ∀ a ∈ done, p a = false → ¬ Told L T floor a x) (h2 : ∀ a ∈ done, p a = true → (Told L T floor a x ↔ Told L T' floor a x)) : bestF L T floor done x = bestF L T' floor (done.filter p) x := by
  induction done using rev_ind with
  | nil => rfl
  | append_singleton l b ih =>
    rw [bestF_snoc, List.filter_append, ih (fun a ha => h1 a (by simp [ha])) (fun a ha => h2 a (by simp [ha]))]
    cases hp : p b with
    | false =>
      have : ¬ Told L T floor b x := h1 b (by simp) hp
      simp [hp, stepB, this]
    | true =>
      have := h2 b (by simp) hp
      rw [show List.filter p [b] = [b] by simp [hp], bestF_snoc]
      unfold stepB
      simp only [this]
end

/-- The things near some, in order, each with its best likeness. -/
def AmongOf (L : List (List ByteArray)) (T : List ByteArray) (floor : Int) (ms : List NearV) : Prop := ms.Pairwise (fun x y => nearLt x y = true) ∧ ∀ r, r ∈ ms ↔ bestF L T floor T r.item = some (r.num, r.den)

theorem pairwise_ext {α : Type} (lt : α → α → Bool) (asy : ∀ x y, lt x y = true → lt y x = false) : ∀ {l m : List α}, l.Pairwise (fun x y => lt x y = true) → m.Pairwise (fun x y => lt x y = true) → (∀ x, x ∈ l ↔ x ∈ m) → l = m
  | [], [], _, _, _ => rfl
  | [], b :: m, _, _, h => absurd ((h b).2 (by simp)) (by simp)
  | a :: l, [], _, _, h => absurd ((h a).1 (by simp)) (by simp)
  | a :: l, b :: m, hl, hm, h => by
    have irr : ∀ x, lt x x = false := fun x => by
      cases e : lt x x with
      | false => rfl
      | true => have := asy x x e; rw [e] at this; exact this
    rw [List.pairwise_cons] at hl hm
    have hab : a = b := by
      rcases List.mem_cons.1 ((h a).1 (by simp)) with e | e
      · exact e
      · rcases List.mem_cons.1 ((h b).2 (by simp)) with e2 | e2
        · exact e2.symm
        · have h1 := hm.1 a e
          have h2 := hl.1 b e2
          rw [asy _ _ h1] at h2
          cases h2
    subst hab
    rw [pairwise_ext lt asy hl.2 hm.2 (fun x => ?_)]
    constructor
    · intro hx
      rcases List.mem_cons.1 ((h x).1 (by simp [hx])) with e | e
      · subst e
        have := hl.1 x hx
        rw [irr] at this
        cases this
      · exact e
    · intro hx
      rcases List.mem_cons.1 ((h x).2 (by simp [hx])) with e | e
      · subst e
        have := hm.1 x hx
        rw [irr] at this
        cases this
      · exact e
theorem nearLt_asymm (x y : NearV) (h : nearLt x y = true) : nearLt y x = false := by
  rw [← Bool.not_eq_true]
  rw [nearLt_iff] at *
  rintro (h2 | ⟨h2, h3⟩)
  · omega
  · rcases h with h | ⟨h, h4⟩
    · omega
    · rw [sLt_asymm h4] at h3
      cases h3
theorem AmongOf.unique {L : List (List ByteArray)} {T : List ByteArray} {floor : Int} {l m : List NearV} (h : AmongOf L T floor l) (h' : AmongOf L T floor m) : l = m :=
  pairwise_ext nearLt nearLt_asymm h.1 h'.1 (fun r => by rw [h.2, h'.2])
theorem AmongOf.items {L : List (List ByteArray)} {T : List ByteArray} {floor : Int} {l : List NearV} (h : AmongOf L T floor l) : (l.map (·.item)).Nodup := by
  rw [List.Nodup, List.pairwise_map]
  have hall : ∀ r ∈ l, bestF L T floor T r.item = some (r.num, r.den) := fun r hr => (h.2 r).1 hr
  refine List.Pairwise.imp_of_mem (fun {x y} hx hy hlt e => ?_) h.1
  have h1 := hall x hx
  have h2 := hall y hy
  rw [e, h2] at h1
  simp only [Option.some.injEq, Prod.mk.injEq] at h1
  have : x = y := by
    obtain ⟨xi, xn, xd⟩ := x
    obtain ⟨yi, yn, yd⟩ := y
    simp only at e h1
    rw [e, h1.1, h1.2]
  subst this
  rw [nearLt_irr] at hlt
  cases hlt
theorem AmongOf.told {L : List (List ByteArray)} {T : List ByteArray} {floor : Int} {l : List NearV} (h : AmongOf L T floor l) {r : NearV} (hr : r ∈ l) : ∃ a ∈ T, Told L T floor a r.item ∧ r.num = likeNum L a r.item ∧ r.den = likeDen L a r.item := bestF_some ((h.2 r).1 hr)
theorem AmongOf.len {L : List (List ByteArray)} {T : List ByteArray} {floor : Int} {l : List NearV} (h : AmongOf L T floor l) : l.length ≤ L.flatten.length := by
  have := nodup_len h.items (m := L.flatten) (fun k hk => by
    obtain ⟨r, hr, rfl⟩ := List.mem_map.1 hk
    obtain ⟨a, -, ⟨-, h2, -⟩, -⟩ := h.told hr
    unfold pairF at h2
    split at h2
    · omega
    · unfold cnt2 at h2
      have h2 : 0 < L.countP (fun s => decide (a ∈ s ∧ r.item ∈ s)) := by omega
      obtain ⟨s, hs, h3⟩ := List.countP_pos_iff.1 h2
      exact List.mem_flatten.2 ⟨s, hs, (by simpa using h3 : a ∈ s ∧ r.item ∈ s).2⟩)
  simpa using this
end Go.Proofs.Ytbmkejiijkbmlaa
