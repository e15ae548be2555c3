/- Ranging over a map, as the list of what is still to come; deleting. No conditions. -/
import Derived.Test.YtaollcpoibgblaaDoorKitM
namespace Go.Proofs.YtaollcpoibgblaaDoor
open Go.ChangeShapes Go.WideShapes Go.ChangeAt Go.RowKit
open Go.ChangeMaps (setBlock)
set_option linter.unusedVariables false
set_option linter.unusedSimpArgs false
set_option linter.unusedSectionVars false

section
variable {α β γ : Type}
theorem filter_aligned (f : α → γ) (g : β → γ) (p : α → Bool) (q : β → Bool) : ∀ (L : List α) (M : List β), L.map f = M.map g → (∀ (i : Nat) (x : α) (y : β), L[i]? = some x → M[i]? = some y → p x = q y) → (L.filter p).map f = (M.filter q).map g
  | [], [], _, _ => rfl
  | [], b :: M, h, _ => by simp at h
  | a :: L, [], h, _ => by simp at h
  | a :: L, b :: M, h, hp => by
    simp only [List.map_cons, List.cons.injEq] at h
    have ih := filter_aligned f g p q L M h.2 (fun i x y hx hy => hp (i + 1) x y (by simpa using hx) (by simpa using hy))
    have h0 := hp 0 a b rfl rfl
    rw [List.filter_cons, List.filter_cons, h0]
    cases q b <;> simp [ih, h.1]
end

section
variable {κ υ : Type} [DecidableEq κ]

theorem mdel_perm {left : List (κ × υ)} (hn : (left.map (·.1)).Nodup) {p : κ × υ} (hp : p ∈ left) : left.Perm (p :: mdel left p.1) := by
  induction left with
  | nil => simp at hp
  | cons a l ih =>
    simp only [List.map_cons, List.nodup_cons, List.mem_map, not_exists, not_and] at hn
    unfold mdel
    rw [List.filter_cons]
    rcases List.mem_cons.1 hp with rfl | hp
    · simp only [ne_eq, not_true, decide_false, Bool.false_eq_true, if_false]
      have : l.filter (fun q => decide (¬ q.1 = p.1)) = l := List.filter_eq_self.2 (fun q hq => by simpa using hn.1 q hq)
      rw [this]
    · have hne : a.1 ≠ p.1 := fun e => hn.1 p hp e.symm
      simp only [ne_eq, hne, not_false_eq_true, decide_true, if_true]
      exact ((List.Perm.cons a (ih hn.2 hp))).trans (List.Perm.swap _ _ _)
theorem mdel_nodup {left : List (κ × υ)} (hn : (left.map (·.1)).Nodup) (x : κ) : ((mdel left x).map (·.1)).Nodup := by
  unfold mdel
  exact List.Nodup.sublist ((List.filter_sublist).map _) hn
theorem mdel_len {left : List (κ × υ)} (hn : (left.map (·.1)).Nodup) {p : κ × υ} (hp : p ∈ left) : (mdel left p.1).length + 1 = left.length := by
  have := (mdel_perm hn hp).length_eq
  simpa using this.symm

variable {P : Program} {k : TypeId} {kf : κ → Value} {vf : υ → Value} {Ok : κ → Prop} {w w' : World} {b : Nat} {l left : List (κ × υ)}

/-- An iterator over a map (or over nil): what is still to come. -/
def RangeAt (w : World) (kf : κ → Value) (vf : υ → Value) (r : Nat) : Option Nat → List (κ × υ) → Prop
  | none, left => left = [] ∧ ∃ a s c, w.heap[r]? = some (.mapIter none a s c)
  | some b, left => ∃ es clock since seen c0, w.heap[b]? = some (.map es clock) ∧ es.toList.Pairwise (fun x y => x.born < y.born) ∧ w.heap[r]? = some (.mapIter (some b) since seen c0) ∧
      (∀ x ∈ es.toList, x.born < since) ∧ (since ≤ c0 ∧ since ≤ clock) ∧ (leftOf es seen).toList.map (fun e => (e.key, e.val)) = left.map (fun p => (kf p.1, vf p.2)) ∧ (left.map (·.1)).Nodup

theorem RangeAt.lt {r : Nat} {mb : Option Nat} (h : RangeAt w kf vf r mb left) : r < w.heap.size := by
  cases mb with
  | none => obtain ⟨_, a, s, c, hr⟩ := h; exact (Array.getElem?_eq_some_iff.1 hr).1
  | some b => obtain ⟨es, clock, since, seen, c0, _, _, hr, _⟩ := h; exact (Array.getElem?_eq_some_iff.1 hr).1
theorem RangeAt.nodup {r : Nat} {mb : Option Nat} (h : RangeAt w kf vf r mb left) : (left.map (·.1)).Nodup := by
  cases mb with
  | none => obtain ⟨rfl, _⟩ := h; simp
  | some b => obtain ⟨es, clock, since, seen, c0, _, _, _, _, _, _, hn⟩ := h; exact hn
theorem RangeAt.keep {r : Nat} {mb : Option Nat} {F : Nat → Prop} (h : RangeAt w kf vf r mb left) (hk : Keeps F w w') (hr : ¬ F r) (hb : ∀ b, mb = some b → ¬ F b) : RangeAt w' kf vf r mb left := by
  have hlt := h.lt
  cases mb with
  | none => obtain ⟨e, a, s, c, h1⟩ := h; exact ⟨e, a, s, c, (hk.block r hlt hr).trans h1⟩
  | some b =>
    obtain ⟨es, clock, since, seen, c0, h1, h2, h3, rest⟩ := h
    exact ⟨es, clock, since, seen, c0, (hk.block b (Array.getElem?_eq_some_iff.1 h1).1 (hb b rfl)).trans h1, h2, (hk.block r hlt hr).trans h3, rest⟩

theorem MapIs.range (h : MapIs w kf vf Ok b l) {t e : TypeId} (ht : P.underlying t = some (.map k e)) :
    ∃ w', (Instr.range t (.map (some b))).run P w = .ok (.pointer (some ⟨w.heap.size, 0, none⟩)) w' ∧ RangeAt w' kf vf w.heap.size (some b) l ∧ Below w.heap.size w w' ∧ w'.heap.size = w.heap.size + 1 := by
  have hlt := h.lt
  obtain ⟨es, clock, hb, hm, hpw, hcl, hok, hnd⟩ := h
  refine ⟨_, run_range_map w t k e b es clock ht hb, ⟨es, clock, clock, #[], clock, ?_, hpw, heap_alloc_new w _, hcl, ⟨Nat.le_refl _, Nat.le_refl _⟩, ?_, hnd⟩, (Below.refl _ _).alloc (Nat.le_refl _) _, by simp⟩
  · exact (Below.heap_alloc w _ b hlt).trans hb
  · have : leftOf es #[] = es := by unfold leftOf; simp
    rw [this]; exact hm

theorem range_nil (w : World) (kf : κ → Value) (vf : υ → Value) {t e : TypeId} (ht : P.underlying t = some (.map k e)) :
    ∃ w', (Instr.range t (.map none)).run P w = .ok (.pointer (some ⟨w.heap.size, 0, none⟩)) w' ∧ RangeAt w' kf vf w.heap.size none [] ∧ Below w.heap.size w w' ∧ w'.heap.size = w.heap.size + 1 :=
  ⟨_, run_range_nilMap w t k e ht, ⟨rfl, _, _, _, heap_alloc_new w _⟩, (Below.refl _ _).alloc (Nat.le_refl _) _, by simp⟩

theorem pairwise_born_nodup {es : List MapEntry} (h : es.Pairwise (fun x y => x.born < y.born)) : (es.map (·.born)).Nodup := by
  rw [List.Nodup, List.pairwise_map]
  exact h.imp (fun h => Nat.ne_of_lt h)

theorem RangeAt.next {r : Nat} {mb : Option Nat} (h : RangeAt w kf vf r mb left) (ty : TypeId) :
    (left = [] ∧ (Instr.next (.pointer (some ⟨r, 0, none⟩)) false ty).run P w = .ok (.tuple #[.bool false]) w) ∨
    ∃ p ∈ left, ∃ w', (Instr.next (.pointer (some ⟨r, 0, none⟩)) false ty).run P w = .ok (.tuple #[.bool true, kf p.1, vf p.2]) w' ∧ RangeAt w' kf vf r mb (mdel left p.1) ∧ Keeps (fun k => k = r) w w' ∧ w'.heap.size = w.heap.size ∧
      (Instr.entry (.pointer (some ⟨r, 0, none⟩))).run P w' = .ok (.tuple #[kf p.1, vf p.2]) w' := by
  have hlt := h.lt
  cases mb with
  | none =>
    obtain ⟨rfl, a, s, c, hr⟩ := h
    left
    refine ⟨rfl, ?_⟩
    simp only [Instr.next, getObj, Sem.run_bind, Sem.run, hr, Result.andThen]
    rfl
  | some b =>
    obtain ⟨es, clock, since, seen, c0, hb, hpw, hr, hold, ⟨hsc, hsc2⟩, hm, hn⟩ := h
    have hrb : r ≠ b := by rintro rfl; rw [hb] at hr; cases hr
    rcases run_next_at (P := P) w ty r b since c0 seen es clock hr hb hold hsc with ⟨h0, h1⟩ | ⟨e, he, w1, hw1, h1⟩
    · left
      refine ⟨?_, h1⟩
      have : (leftOf es seen).toList.length = left.length := by simpa using congrArg List.length hm
      have : left.length = 0 := by rw [← this]; simpa using h0
      exact List.eq_nil_of_length_eq_zero this
    · right
      obtain ⟨j, hj⟩ := List.getElem?_of_mem he
      have h2 : ((leftOf es seen).toList.map (fun e => (e.key, e.val)))[j]? = some (e.key, e.val) := by rw [List.getElem?_map, hj]; rfl
      rw [hm, List.getElem?_map] at h2
      cases hl : left[j]? with
      | none => rw [hl] at h2; simp at h2
      | some p =>
        rw [hl] at h2
        simp at h2
        have hpm := List.mem_of_getElem? hl
        have hk1 : Keeps (fun k => k = r) w w1 := by
          rcases hw1 with rfl | rfl
          · exact Keeps.refl _ _
          · exact (Keeps.refl _ _).drew
        have hsz : w1.heap.size = w.heap.size := by rcases hw1 with rfl | rfl <;> rfl
        have hb1 : w1.heap[b]? = some (.map es clock) := by rcases hw1 with rfl | rfl <;> exact hb
        have hk2 : Keeps (fun k => k = r) w (setBlock w1 r (.mapIter (some b) since (seen.push e.born) clock)) := hk1.trans (Keeps.setBlock_ _ _ _) (fun _ _ h => h)
        have hee : e ∈ es.toList := by simp [leftOf] at he ⊢; exact he.1
        have hbb : (setBlock w1 r (.mapIter (some b) since (seen.push e.born) clock)).heap[b]? = some (.map es clock) := (heap_setBlock_ne _ (Ne.symm hrb)).trans hb1
        have hrr : (setBlock w1 r (.mapIter (some b) since (seen.push e.born) clock)).heap[r]? = some (.mapIter (some b) since (seen.push e.born) clock) := heap_setBlock_eq _ (by omega)
        have hbn := pairwise_born_nodup hpw
        refine ⟨p, hpm, _, by rw [h1, h2.1, h2.2], ⟨es, clock, since, seen.push e.born, clock, hbb, hpw, hrr, hold, ?_, ?_, mdel_nodup hn _⟩, hk2, by rw [size_setBlock, hsz], ?_⟩
        · exact ⟨hsc2, hsc2⟩
        · have e1 : (leftOf es (seen.push e.born)).toList = (leftOf es seen).toList.filter (fun x => !(x.born == e.born)) := by
            simp only [leftOf, Array.toList_filter, List.filter_filter]
            apply List.filter_congr
            intro x hx
            by_cases hq : x.born = e.born <;> simp [hq]
          rw [e1]
          unfold mdel
          refine filter_aligned _ _ _ _ _ _ hm (fun i x y hx hy => ?_)
          have hbL : ((leftOf es seen).toList.map (·.born)).Nodup := by
            simp only [leftOf, Array.toList_filter]
            exact List.Nodup.sublist ((List.filter_sublist).map _) hbn
          have hi := (List.getElem?_eq_some_iff.1 hx).1
          have hjl := (List.getElem?_eq_some_iff.1 hj).1
          have hi' := (List.getElem?_eq_some_iff.1 hy).1
          have hjl' := (List.getElem?_eq_some_iff.1 hl).1
          have a1 : x.born = e.born ↔ i = j := by
            rw [← (List.getElem?_eq_some_iff.1 hx).2, ← (List.getElem?_eq_some_iff.1 hj).2]
            have := List.getElem_inj (i := i) (j := j) (h₀ := by simpa using hi) (h₁ := by simpa using hjl) hbL
            simpa using this
          have a2 : y.1 = p.1 ↔ i = j := by
            rw [← (List.getElem?_eq_some_iff.1 hy).2, ← (List.getElem?_eq_some_iff.1 hl).2]
            have := List.getElem_inj (i := i) (j := j) (h₀ := by simpa using hi') (h₁ := by simpa using hjl') hn
            simpa using this
          by_cases hij : i = j
          · simp [a1.2 hij, a2.2 hij]
          · have n1 : ¬ x.born = e.born := fun e => hij (a1.1 e)
            have n2 : ¬ y.1 = p.1 := fun e => hij (a2.1 e)
            simp [n1, n2]
        · rw [h2.1, h2.2]
          exact run_entry_at _ r b since seen es clock e hrr hbb hee hbn
end

section
variable {κ υ : Type} [DecidableEq κ] {P : Program} {k : TypeId} {kf : κ → Value} {vf : υ → Value} {Ok : κ → Prop} {w : World} {b : Nat} {l left : List (κ × υ)}
variable {ops : Array Oper} {rest : List Oper} {o : Oper} {a : Act} {Q : Exit → Act → World → Prop}

theorem wpList_range_is (hg : o.guard = none) (m : Operand) (t : TypeId) (hop : o.op = Op.range t m) {e : TypeId} (ht : P.underlying t = some (.map k e)) (hm : a.eval m = .map (some b)) (h : MapIs w kf vf Ok b l)
    (hK : ∀ w', RangeAt w' kf vf w.heap.size (some b) l → Below w.heap.size w w' → w'.heap.size = w.heap.size + 1 → wpList P ops Q rest (a.put o.dst (.pointer (some ⟨w.heap.size, 0, none⟩))) w') :
    wpList P ops Q (o :: rest) a w := by
  refine wpList_plain hg fun K' hK' => ?_
  obtain ⟨w', hrun, r1, r2, r3⟩ := h.range (P := P) ht
  unfold Oper.wp
  simp [execOp, hop, hm, hrun, Result.andThen]
  exact hK' _ _ (hK w' r1 r2 r3)

theorem wpList_range_none (kf : κ → Value) (vf : υ → Value) (hg : o.guard = none) (m : Operand) (t : TypeId) (hop : o.op = Op.range t m) {e : TypeId} (ht : P.underlying t = some (.map k e)) (hm : a.eval m = .map none)
    (hK : ∀ w', RangeAt w' kf vf w.heap.size none [] → Below w.heap.size w w' → w'.heap.size = w.heap.size + 1 → wpList P ops Q rest (a.put o.dst (.pointer (some ⟨w.heap.size, 0, none⟩))) w') :
    wpList P ops Q (o :: rest) a w := by
  refine wpList_plain hg fun K' hK' => ?_
  obtain ⟨w', hrun, r1, r2, r3⟩ := range_nil (P := P) w kf vf ht
  unfold Oper.wp
  simp [execOp, hop, hm, hrun, Result.andThen]
  exact hK' _ _ (hK w' r1 r2 r3)

theorem wpList_next_is (hg : o.guard = none) (it : Operand) (hop : o.op = Op.next it false) {r : Nat} {mb : Option Nat} (hit : a.eval it = .pointer (some ⟨r, 0, none⟩)) (h : RangeAt w kf vf r mb left)
    (hDone : left = [] → wpList P ops Q rest (a.put o.dst (.tuple #[.bool false])) w)
    (hMore : ∀ (x : κ) (v : υ) (w' : World), (x, v) ∈ left → RangeAt w' kf vf r mb (mdel left x) → Keeps (fun k => k = r) w w' → w'.heap.size = w.heap.size → (Instr.entry (.pointer (some ⟨r, 0, none⟩))).run P w' = .ok (.tuple #[kf x, vf v]) w' →
      wpList P ops Q rest (a.put o.dst (.tuple #[.bool true, kf x, vf v])) w') :
    wpList P ops Q (o :: rest) a w := by
  refine wpList_plain hg fun K' hK' => ?_
  unfold Oper.wp
  rcases h.next (P := P) o.type with ⟨h0, hrun⟩ | ⟨p, hp, w', hrun, hrg, hk, hsz, hen⟩
  · simp [execOp, hop, hit, hrun, Result.andThen]
    exact hK' _ _ (hDone h0)
  · simp [execOp, hop, hit, hrun, Result.andThen]
    exact hK' _ _ (hMore p.1 p.2 w' hp hrg hk hsz hen)
end
end Go.Proofs.YtaollcpoibgblaaDoor
