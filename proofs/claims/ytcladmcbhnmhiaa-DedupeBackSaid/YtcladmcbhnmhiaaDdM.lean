/- Plain: what many puts leave, on both sides. -/
import Derived.Test.YtcladmcbhnmhiaaDdL
namespace Go.Proofs.Ytcladmcbhnmhiaa
open Go.ChangeShapes Go.WideShapes Go.ChangeAt Go.RowKit Go.Shelf Go.Lib Go.Sort Go.Proofs
set_option linter.unusedVariables false
set_option linter.unusedSimpArgs false

abbrev OpD := ByteArray × Int
def okOp (o : OpD) : Prop := nameB o.1 = true ∧ 1 ≤ o.2 ∧ o.2 ≤ 1099511627776
def foldF (l : List OpD) : RowsF := l.foldl (fun F o => putF F o.1 o.2) (fun _ => [])
def foldX (l : List OpD) : RefX := l.foldl (fun X o => rputX X o.1 o.2) []
/-- Rows that hold just what was put. -/
structure SetOk (F : RowsF) (l : List OpD) : Prop where
  ok : ∀ k, RowOk 0 (F k)
  mem : ∀ k n, memR (F k) n ↔ (k, n) ∈ l ∧ okOp (k, n)
theorem putB_iff (F : RowsF) (k : ByteArray) (n : Int) : putB F k n = true ↔ okOp (k, n) ∧ ¬ memR (F k) n := by
  unfold putB okOp
  simp only [Bool.and_eq_true, decide_eq_true_eq, Bool.not_eq_true', decide_eq_false_iff_not, and_assoc]
theorem SetOk.put {F : RowsF} {l : List OpD} (h : SetOk F l) (o : OpD) : SetOk (putF F o.1 o.2) (l ++ [o]) := by
  obtain ⟨k, n⟩ := o
  unfold putF
  by_cases hp : putB F k n = true
  · simp only [if_pos hp]
    obtain ⟨h1, h2⟩ := (putB_iff F k n).1 hp
    obtain ⟨p1, p2⟩ := putR_ok (h.ok k) h1.2.1 h2
    refine ⟨fun x => ?_, fun x m => ?_⟩
    · unfold updF; split
      · exact p1
      · exact h.ok x
    · unfold updF
      by_cases hx : x = k
      · subst hx
        rw [if_pos rfl, p2 m, h.mem x m, List.mem_append]
        constructor
        · rintro (q | q)
          · exact ⟨.inl q.1, q.2⟩
          · subst q; exact ⟨.inr (by simp), h1⟩
        · rintro ⟨q | q, q2⟩
          · exact .inl ⟨q, q2⟩
          · simp at q; exact .inr q
      · rw [if_neg hx, h.mem x m, List.mem_append]
        constructor
        · rintro ⟨q, q2⟩; exact ⟨.inl q, q2⟩
        · rintro ⟨q | q, q2⟩
          · exact ⟨q, q2⟩
          · simp at q; exact absurd q.1 hx
  · simp only [if_neg hp]
    refine ⟨h.ok, fun x m => ?_⟩
    rw [h.mem x m, List.mem_append]
    constructor
    · rintro ⟨q, q2⟩; exact ⟨.inl q, q2⟩
    · rintro ⟨q | q, q2⟩
      · exact ⟨q, q2⟩
      · simp at q
        obtain ⟨rfl, rfl⟩ := q
        rcases Classical.em (memR (F x) m) with q3 | q3
        · exact (h.mem x m).1 q3
        · exact absurd ((putB_iff F x m).2 ⟨q2, q3⟩) hp
theorem SetOk.nil : SetOk (fun _ => []) [] := ⟨fun _ => trivial, fun k n => by simp [memR_nil]⟩
theorem foldF_snoc (l : List OpD) (o : OpD) : foldF (l ++ [o]) = putF (foldF l) o.1 o.2 := by unfold foldF; rw [List.foldl_append]; rfl
theorem foldX_snoc (l : List OpD) (o : OpD) : foldX (l ++ [o]) = rputX (foldX l) o.1 o.2 := by unfold foldX; rw [List.foldl_append]; rfl
theorem snoc_ind {α : Type} {P : List α → Prop} (nil : P []) (snoc : ∀ l a, P l → P (l ++ [a])) (l : List α) : P l := by
  have : ∀ m : List α, P m.reverse := by
    intro m
    induction m with
    | nil => exact nil
    | cons a m ih => rw [List.reverse_cons]; exact snoc _ _ ih
  have h := this l.reverse
  rwa [List.reverse_reverse] at h
theorem foldF_ok (l : List OpD) : SetOk (foldF l) l := by
  induction l using snoc_ind with
  | nil => exact SetOk.nil
  | snoc l o ih => rw [foldF_snoc]; exact ih.put o
/-- A set is told by what was put, in whatever order. -/
theorem SetOk.unique {F F' : RowsF} {l l' : List OpD} (h : SetOk F l) (h' : SetOk F' l') (he : ∀ o, okOp o → (o ∈ l ↔ o ∈ l')) : F = F' := by
  funext k
  refine (h.ok k).unique (h'.ok k) (fun n => ?_)
  rw [h.mem, h'.mem]
  constructor
  · rintro ⟨a, b⟩; exact ⟨(he _ b).1 a, b⟩
  · rintro ⟨a, b⟩; exact ⟨(he _ b).2 a, b⟩
section
variable {F : RowsF} {l : List OpD}
theorem SetOk.top (h : SetOk F l) (k : ByteArray) : ∀ r ∈ F k, r.2 ≤ 1099511627777 := fun r hr => by
  have h1 := (h.ok k).gt r hr
  have h2 := ((h.mem k (r.2 - 1)).1 ⟨r, hr, by omega, by omega⟩).2.2.2
  simp only at h2
  omega
theorem SetOk.key (h : SetOk F l) {k : ByteArray} (hk : F k ≠ []) : nameB k = true ∧ ∃ o ∈ l, o.1 = k := by
  obtain ⟨r, hr⟩ := List.exists_mem_of_ne_nil _ hk
  have h1 := (h.ok k).gt r hr
  have h2 := (h.mem k r.1).1 ⟨r, hr, by omega, by omega⟩
  exact ⟨h2.2.1, _, h2.1, rfl⟩
theorem nodup_len07 {α : Type} [DecidableEq α] : ∀ {l m : List α}, l.Nodup → (∀ x ∈ l, x ∈ m) → l.length ≤ m.length
  | [], m, _, _ => Nat.zero_le _
  | a :: l, m, hn, hs => by
    rw [List.nodup_cons] at hn
    have ha := hs a List.mem_cons_self
    have h1 : l.length ≤ (m.erase a).length := nodup_len07 hn.2 (fun x hx => (List.mem_erase_of_ne (show x ≠ a from fun e => hn.1 (by rw [← e]; exact hx))).2 (hs x (List.mem_cons_of_mem _ hx)))
    rw [List.length_erase_of_mem ha] at h1
    have := List.length_pos_of_mem ha
    simp only [List.length_cons]
    omega
theorem RowOk.nodup {e : Int} {R : List Rg} (h : RowOk e R) : (R.map (·.1)).Nodup := by
  induction R generalizing e with
  | nil => simp
  | cons r R ih =>
    rw [List.map_cons, List.nodup_cons]
    refine ⟨fun hm => ?_, ih h.2.2⟩
    obtain ⟨s, hs, e1⟩ := List.mem_map.1 hm
    have := h.2.2.gt s hs
    have := h.2.1
    omega
theorem SetOk.len (h : SetOk F l) (k : ByteArray) : (F k).length ≤ l.length := by
  have h1 := nodup_len07 (l := (F k).map (·.1)) (m := l.map (·.2)) (h.ok k).nodup (fun x hx => by
    obtain ⟨r, hr, rfl⟩ := List.mem_map.1 hx
    have h1 := (h.ok k).gt r hr
    have h2 := (h.mem k r.1).1 ⟨r, hr, by omega, by omega⟩
    exact List.mem_map.2 ⟨_, h2.1, rfl⟩)
  simpa using h1
theorem KeysF.nodup {ks : List ByteArray} (h : KeysF F ks) : ks.Nodup := h.1.imp (fun {x y} h e => by subst e; rw [sLt_irrefl] at h; cases h)
theorem SetOk.keysLen (h : SetOk F l) {ks : List ByteArray} (hk : KeysF F ks) : ks.length ≤ l.length := by
  have h1 := nodup_len07 (l := ks) (m := l.map (·.1)) hk.nodup (fun x hx => by
    obtain ⟨-, o, ho, rfl⟩ := h.key ((hk.2 x).1 hx)
    exact List.mem_map.2 ⟨o, ho, rfl⟩)
  simpa using h1
theorem numB_le6 {n : Nat} (h : n < 4398046511104) : (numB n).length ≤ 6 := numB_len (f := 5) (by simpa using h)
theorem encR_len {M : Int} (hM : M ≤ 1099511627777) : ∀ {R : List Rg} {e : Int}, 0 ≤ e → (∀ r ∈ R, r.2 ≤ M) → RowOk (e - 1) R → (encR e R).length ≤ 12 * R.length
  | [], _, _, _, _ => by simp [encR]
  | r :: R, e, he, hb, h => by
    have h1 := hb r List.mem_cons_self
    obtain ⟨a1, a2, a3⟩ := h
    have := encR_len hM (R := R) (e := r.2) (by omega) (fun s hs => hb s (List.mem_cons_of_mem _ hs)) (a3.mono (by omega))
    have x1 := numB_le6 (n := (r.1 - e).toNat) (by omega)
    have x2 := numB_le6 (n := (r.2 - r.1).toNat) (by omega)
    simp only [encR, List.length_append, List.length_cons]
    omega
theorem SetOk.enc (h : SetOk F l) {ks : List ByteArray} (hk : KeysF F ks) (hl : l.length ≤ 1000) : EncOk F ks := by
  have hkl := h.keysLen hk
  refine ⟨hk, by omega, fun k hkm => ?_, h.top, fun k => by have := h.len k; omega, ?_⟩
  · have := ((nameB_iff k).1 (h.key ((hk.2 k).1 hkm)).1).2.1
    omega
  · have hs : ∀ k ∈ ks, (encS F k).length ≤ 31 + 12000 := fun k hkm => by
      have h24 := ((nameB_iff k).1 (h.key ((hk.2 k).1 hkm)).1).2.1
      have h1 := encR_len (M := 1099511627777) (by omega) (e := 1) (by omega) (h.top k) (by simpa using h.ok k)
      have h2 := h.len k
      have h3 := numB_le6 (n := (F k).length) (by omega)
      have h4 : k.data.toList.length = k.size := by rw [Array.length_toList]; rfl
      simp only [encS, List.length_append, List.length_cons]
      omega
    have hb : ∀ m : List ByteArray, (∀ k ∈ m, (encS F k).length ≤ 12031) → (m.flatMap (encS F)).length ≤ 12031 * m.length := by
      intro m
      induction m with
      | nil => simp
      | cons a m ih =>
        intro hm
        rw [List.flatMap_cons, List.length_append, List.length_cons]
        have := ih (fun k hk => hm k (List.mem_cons_of_mem _ hk))
        have := hm a List.mem_cons_self
        omega
    have h5 := hb ks hs
    have h6 := numB_le6 (n := ks.length) (by omega)
    unfold encF
    rw [List.length_append]
    omega
end

/-- The reference's row that holds just what a set holds. -/
structure RefOk (X : RefX) (F : RowsF) : Prop where
  names : X.Pairwise (fun a b => sLt a.1 b.1 = true)
  ups : ∀ s ∈ X, s.2.Pairwise (· < ·) ∧ s.2 ≠ []
  mem : ∀ k n, hasX X k n ↔ memR (F k) n
theorem hasX_cons (s : ByteArray × List Int) (X : RefX) (k : ByteArray) (n : Int) : hasX (s :: X) k n ↔ (s.1 = k ∧ n ∈ s.2) ∨ hasX X k n := by
  unfold hasX
  constructor
  · rintro ⟨x, hx, h⟩
    rcases List.mem_cons.1 hx with rfl | hx
    · exact .inl h
    · exact .inr ⟨x, hx, h⟩
  · rintro (h | ⟨x, hx, h⟩)
    · exact ⟨s, List.mem_cons_self, h⟩
    · exact ⟨x, List.mem_cons_of_mem _ hx, h⟩
theorem mem_putP {key : ByteArray} {n : Int} : ∀ {X : RefX} {s : ByteArray × List Int}, s ∈ putP key n X → s.1 = key ∨ s ∈ X
  | [], s, h => by simp [putP] at h; subst h; exact .inl rfl
  | x :: X, s, h => by
    unfold putP at h
    split at h
    · rcases List.mem_cons.1 h with rfl | h
      · exact .inl rfl
      · exact .inr h
    · split at h
      · rcases List.mem_cons.1 h with rfl | h
        · exact .inl rfl
        · exact .inr (List.mem_cons_of_mem _ h)
      · rcases List.mem_cons.1 h with rfl | h
        · exact .inr List.mem_cons_self
        · rcases mem_putP h with h | h
          · exact .inl h
          · exact .inr (List.mem_cons_of_mem _ h)
theorem putP_ok {key : ByteArray} {n : Int} : ∀ {X : RefX}, X.Pairwise (fun a b => sLt a.1 b.1 = true) → (∀ s ∈ X, s.2.Pairwise (· < ·) ∧ s.2 ≠ []) → ¬ hasX X key n →
    (putP key n X).Pairwise (fun a b => sLt a.1 b.1 = true) ∧ (∀ s ∈ putP key n X, s.2.Pairwise (· < ·) ∧ s.2 ≠ []) ∧ ∀ k m, hasX (putP key n X) k m ↔ hasX X k m ∨ (k = key ∧ m = n)
  | [], _, _, _ => by
    refine ⟨by simp [putP], by simp [putP], fun k m => ?_⟩
    rw [putP, hasX_cons]
    constructor
    · rintro (⟨rfl, h⟩ | h)
      · simp at h; exact .inr ⟨rfl, h⟩
      · exact .inl h
    · rintro (h | ⟨rfl, rfl⟩)
      · exact .inr h
      · exact .inl ⟨rfl, by simp⟩
  | s :: X, hn, hu, hh => by
    have hn' := hn
    rw [List.pairwise_cons] at hn'
    unfold putP
    by_cases h1 : sLt key s.1 = true
    · rw [if_pos h1]
      refine ⟨?_, ?_, fun k m => ?_⟩
      · rw [List.pairwise_cons]
        refine ⟨fun t ht => ?_, hn⟩
        rcases List.mem_cons.1 ht with rfl | ht
        · exact h1
        · exact sLt_trans h1 (hn'.1 t ht)
      · intro t ht
        rcases List.mem_cons.1 ht with rfl | ht
        · simp
        · exact hu t ht
      · rw [hasX_cons]
        constructor
        · rintro (⟨rfl, h⟩ | h)
          · simp at h; exact .inr ⟨rfl, h⟩
          · exact .inl h
        · rintro (h | ⟨rfl, rfl⟩)
          · exact .inr h
          · exact .inl ⟨rfl, by simp⟩
    · rw [if_neg h1]
      by_cases h2 : s.1 = key
      · rw [if_pos h2]
        have hns : n ∉ s.2 := fun e => hh ⟨s, List.mem_cons_self, h2, e⟩
        refine ⟨?_, ?_, fun k m => ?_⟩
        · rw [List.pairwise_cons]
          refine ⟨fun t ht => ?_, hn'.2⟩
          rw [← h2]; exact hn'.1 t ht
        · intro t ht
          rcases List.mem_cons.1 ht with rfl | ht
          · refine ⟨risL_up (hu s List.mem_cons_self).1 hns, fun e => ?_⟩
            have := risL_len n s.2
            rw [show risL n s.2 = [] from e] at this
            simp at this
          · exact hu t (List.mem_cons_of_mem _ ht)
        · rw [hasX_cons, hasX_cons]
          simp only [mem_risL]
          constructor
          · rintro (⟨rfl, rfl | h⟩ | h)
            · exact .inr ⟨rfl, rfl⟩
            · exact .inl (.inl ⟨h2, h⟩)
            · exact .inl (.inr h)
          · rintro ((⟨rfl, h⟩ | h) | ⟨rfl, rfl⟩)
            · exact .inl ⟨h2.symm, .inr h⟩
            · exact .inr h
            · exact .inl ⟨rfl, .inl rfl⟩
      · rw [if_neg h2]
        have hlt : sLt s.1 key = true := by
          cases h : sLt s.1 key with
          | true => rfl
          | false => exact absurd (sLt_total h (by simpa using h1)) h2
        obtain ⟨p1, p2, p3⟩ := putP_ok hn'.2 (fun t ht => hu t (List.mem_cons_of_mem _ ht)) (fun e => hh ((hasX_cons _ _ _ _).2 (.inr e)))
        refine ⟨?_, ?_, fun k m => ?_⟩
        · rw [List.pairwise_cons]
          refine ⟨fun t ht => ?_, p1⟩
          rcases mem_putP ht with h | h
          · rw [h]; exact hlt
          · exact hn'.1 t h
        · intro t ht
          rcases List.mem_cons.1 ht with rfl | ht
          · exact hu _ List.mem_cons_self
          · exact p2 t ht
        · rw [hasX_cons, hasX_cons, p3, or_assoc]
theorem RefOk.rputB {X : RefX} {F : RowsF} (h : RefOk X F) (k : ByteArray) (n : Int) : rputB X k n = putB F k n := by
  unfold Go.Proofs.Ytcladmcbhnmhiaa.rputB putB
  rw [show decide (hasX X k n) = decide (memR (F k) n) from decide_eq_decide.2 (h.mem k n)]
theorem RefOk.put {X : RefX} {F : RowsF} (h : RefOk X F) (hF : ∀ k, RowOk 0 (F k)) (k : ByteArray) (n : Int) : RefOk (rputX X k n) (putF F k n) := by
  unfold rputX putF
  rw [h.rputB]
  by_cases hp : putB F k n = true
  · rw [if_pos hp, if_pos hp]
    obtain ⟨h1, h2⟩ := (putB_iff F k n).1 hp
    obtain ⟨q1, q2⟩ := putR_ok (hF k) h1.2.1 h2
    obtain ⟨p1, p2, p3⟩ := putP_ok (key := k) (n := n) h.names h.ups (fun e => h2 ((h.mem k n).1 e))
    refine ⟨p1, p2, fun x m => ?_⟩
    rw [p3, h.mem]
    unfold updF
    by_cases hx : x = k
    · subst hx; rw [if_pos rfl, q2 m]; simp
    · rw [if_neg hx]; simp [hx]
  · rw [if_neg hp, if_neg hp]
    exact h
theorem foldX_ok (l : List OpD) : RefOk (foldX l) (foldF l) := by
  induction l using snoc_ind with
  | nil => exact ⟨by simp [foldX], by simp [foldX], fun k n => by simp [foldX, foldF, hasX, memR_nil]⟩
  | snoc l o ih => rw [foldX_snoc, foldF_snoc]; exact ih.put (foldF_ok l).ok o.1 o.2
theorem foldX_len (l : List OpD) : (foldX l).length ≤ l.length ∧ ∀ s ∈ foldX l, s.2.length ≤ l.length := by
  have h := foldX_ok l
  have hF := foldF_ok l
  constructor
  · have h1 := nodup_len07 (l := (foldX l).map (·.1)) (m := l.map (·.1)) (List.pairwise_map.2 (h.names.imp (fun {a b} h e => by rw [e, sLt_irrefl] at h; cases h))) (fun x hx => by
      obtain ⟨s, hs, rfl⟩ := List.mem_map.1 hx
      obtain ⟨n, hn⟩ := List.exists_mem_of_ne_nil _ (h.ups s hs).2
      have := (hF.mem _ _).1 ((h.mem s.1 n).1 ⟨s, hs, rfl, hn⟩)
      exact List.mem_map.2 ⟨_, this.1, rfl⟩)
    simpa using h1
  · intro s hs
    have h1 := nodup_len07 (l := s.2) (m := l.map (·.2)) ((h.ups s hs).1.imp (fun {a b} h e => by omega)) (fun n hn => by
      have := (hF.mem _ _).1 ((h.mem s.1 n).1 ⟨s, hs, rfl, hn⟩)
      exact List.mem_map.2 ⟨_, this.1, rfl⟩)
    simpa using h1
end Go.Proofs.Ytcladmcbhnmhiaa
