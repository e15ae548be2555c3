/- Taking a key out of a map ('delete'). No conditions. -/
import Derived.Test.YtaollcpoibgblaaDoorKitR
namespace Go.Proofs.YtaollcpoibgblaaDoor
open Go.ChangeShapes Go.WideShapes Go.ChangeAt Go.RowKit
open Go.ChangeMaps (setBlock)
set_option linter.unusedVariables false
set_option linter.unusedSimpArgs false
set_option linter.unusedSectionVars false

theorem map_erase_ {α β : Type} (f : α → β) : ∀ (l : List α) (j : Nat), (l.eraseIdx j).map f = (l.map f).eraseIdx j
  | [], _ => rfl
  | a :: l, 0 => rfl
  | a :: l, j + 1 => by simp [map_erase_ f l j]

section
variable {κ υ : Type} [DecidableEq κ]

theorem mdel_none {l : List (κ × υ)} {x : κ} (h : mget l x = none) : mdel l x = l := by
  unfold mdel
  rw [List.filter_eq_self]
  intro p hp
  simpa using mget_none_iff.1 h p hp

theorem mdel_erase {l : List (κ × υ)} (hn : (l.map (·.1)).Nodup) {j : Nat} {x : κ} {v : υ} (hj : l[j]? = some (x, v)) : mdel l x = l.eraseIdx j := by
  induction l generalizing j with
  | nil => simp at hj
  | cons a l ih =>
    simp only [List.map_cons, List.nodup_cons] at hn
    cases j with
    | zero =>
      simp at hj
      subst hj
      have : mdel l x = l := mdel_none (mget_none_iff.2 (fun p hp e => hn.1 (by rw [← e]; exact List.mem_map.2 ⟨p, hp, rfl⟩)))
      unfold mdel at this ⊢
      rw [List.filter_cons, if_neg (by simp), this]
      rfl
    | succ j =>
      have hj' : l[j]? = some (x, v) := by simpa using hj
      have hne : a.1 ≠ x := fun e => hn.1 (by rw [e]; exact List.mem_map.2 ⟨(x, v), List.mem_of_getElem? hj', rfl⟩)
      have := ih hn.2 hj'
      unfold mdel at this ⊢
      rw [List.filter_cons, if_pos (by simpa using hne), this]
      rfl

theorem mget_mdel {l : List (κ × υ)} (x y : κ) : mget (mdel l x) y = if y = x then none else mget l y := by
  induction l with
  | nil => simp [mdel, mget]
  | cons a l ih =>
    unfold mdel at ih ⊢
    rw [List.filter_cons]
    by_cases ha : a.1 = x
    · have : decide (a.1 ≠ x) = false := by simp [ha]
      rw [this]
      simp only [Bool.false_eq_true, if_false]
      rw [ih]
      by_cases hy : y = x
      · simp [hy]
      · simp only [hy, if_false]
        obtain ⟨k, v⟩ := a
        simp only [mget]
        rw [if_neg (fun e => hy (e.trans ha))]
    · have : decide (a.1 ≠ x) = true := by simp [ha]
      rw [this]
      simp only [if_true]
      obtain ⟨k, v⟩ := a
      simp only [mget]
      rw [ih]
      by_cases hy : y = k
      · subst hy
        simp only [if_true]
        rw [if_neg ha]
      · simp only [hy, if_false]

variable {P : Program} {k : TypeId} {kf : κ → Value} {vf : υ → Value} {Ok : κ → Prop} {w : World} {b : Nat} {l : List (κ × υ)}

theorem MapIs.del (h : MapIs w kf vf Ok b l) (K : KeyFn P k kf Ok) {t e ty : TypeId} (ht : P.underlying t = some (.map k e)) {x : κ} (hx : Ok x) :
    ∃ w', (Builtin.delete_ #[t, k] ty #[.map (some b), kf x]).run P w = .ok (.tuple #[]) w' ∧ MapIs w' kf vf Ok b (mdel l x) ∧ Keeps (fun k => k = b) w w' ∧ w'.heap.size = w.heap.size := by
  have hlt := h.lt
  have hf := h.find (P := P) K hx
  obtain ⟨es, clock, hb, hm, hpw, hcl, hok, hnd⟩ := h
  obtain ⟨es', clock', hb', h1⟩ := hf
  rw [hb] at hb'
  injection hb' with hb'
  injection hb' with e1 e2
  subst e1 e2
  rcases h1 with ⟨h1, h2⟩ | ⟨j, e0, u, h1, hj, hlj, hkey, h2⟩
  · refine ⟨setBlock w b (.map es clock), ?_, ?_, Keeps.setBlock_ _ _ _, size_setBlock _⟩
    · simp [Builtin.delete_, run_underlying ht, MapKept.run_getObj_map hb, K.check w _ hx, h2, MapKept.run_setObj_map _ hb, Result.andThen, setBlock]
    · rw [mdel_none h1]
      exact ⟨es, clock, heap_setBlock_eq _ hlt, hm, hpw, hcl, hok, hnd⟩
  · have hjl : j < es.toList.length := (List.getElem?_eq_some_iff.1 hj).1
    have hjs : j < es.size := by simpa using hjl
    have hsub : (es.eraseIdxIfInBounds j).toList = es.toList.eraseIdx j := by
      unfold Array.eraseIdxIfInBounds
      rw [dif_pos hjs]
      simp
    refine ⟨setBlock w b (.map (es.eraseIdxIfInBounds j) clock), ?_, ?_, Keeps.setBlock_ _ _ _, size_setBlock _⟩
    · simp [Builtin.delete_, run_underlying ht, MapKept.run_getObj_map hb, K.check w _ hx, h2, MapKept.run_setObj_map _ hb, Result.andThen, setBlock]
    · have hmd := mdel_erase hnd hlj
      have hs := List.eraseIdx_sublist es.toList j
      refine ⟨_, _, heap_setBlock_eq _ hlt, ?_, ?_, ?_, ?_, ?_⟩
      · rw [hsub, hmd, map_erase_, map_erase_, hm]
      · rw [hsub]; exact hpw.sublist hs
      · rw [hsub]; exact fun a ha => hcl a (hs.subset ha)
      · rw [hmd]; exact fun p hp => hok p ((List.eraseIdx_sublist _ _).subset hp)
      · exact mdel_nodup hnd x
end

section
variable {κ υ : Type} [DecidableEq κ] {P : Program} {k : TypeId} {kf : κ → Value} {vf : υ → Value} {Ok : κ → Prop} {w : World} {b : Nat} {l : List (κ × υ)}
variable {ops : Array Oper} {rest : List Oper} {o : Oper} {a : Act} {Q : Exit → Act → World → Prop}

theorem wpList_delete_is (hg : o.guard = none) (m x : Operand) (t : TypeId) (hop : o.op = .call { callee := .builtin .delete, args := #[m, x], argTypes := #[t, k] }) {e : TypeId} (ht : P.underlying t = some (.map k e)) (hm : a.eval m = .map (some b)) {y : κ} (hxe : a.eval x = kf y) (hy : Ok y) (K : KeyFn P k kf Ok) (h : MapIs w kf vf Ok b l)
    (hK : ∀ w', MapIs w' kf vf Ok b (mdel l y) → Keeps (fun k => k = b) w w' → w'.heap.size = w.heap.size → wpList P ops Q rest (a.put o.dst (.tuple #[])) w') :
    wpList P ops Q (o :: rest) a w := by
  refine wpList_plain hg fun K' hK' => ?_
  obtain ⟨w', hrun, r1, r2, r3⟩ := h.del (P := P) K (ty := o.type) ht hy
  have hk := hK' _ _ (hK w' r1 r2 r3)
  unfold Oper.wp execOp
  simp only [hop, resolve, invoke, builtin, Sem.run_bind, Sem.run_pure, Result.andThen_ok, List.map_toArray, List.map_cons, List.map_nil, hm, hxe, hrun]
  exact hk
end

theorem filter_erase_ {α : Type} (p : α → Bool) : ∀ (l : List α) (j : Nat) (x : α), l[j]? = some x → p x = false → (l.eraseIdx j).filter p = l.filter p
  | [], _, _, h, _ => by simp at h
  | a :: l, 0, x, h, hp => by simp at h; subst h; simp [hp]
  | a :: l, j + 1, x, h, hp => by
    have := filter_erase_ p l j x (by simpa using h) hp
    simp only [List.eraseIdx_cons_succ, List.filter_cons, this]

section
variable {κ υ : Type} [DecidableEq κ] {P : Program} {k : TypeId} {kf : κ → Value} {vf : υ → Value} {Ok : κ → Prop} {w : World} {b : Nat} {l left : List (κ × υ)}

/-- A key that is no longer to come is taken out of a map while one ranges over it. -/
theorem MapIs.delR (h : MapIs w kf vf Ok b l) (K : KeyFn P k kf Ok) {t e ty : TypeId} (ht : P.underlying t = some (.map k e)) {x : κ} (hx : Ok x) {r : Nat} (hr : RangeAt w kf vf r (some b) left) (hxl : ∀ p ∈ left, p.1 ≠ x) :
    ∃ w', (Builtin.delete_ #[t, k] ty #[.map (some b), kf x]).run P w = .ok (.tuple #[]) w' ∧ MapIs w' kf vf Ok b (mdel l x) ∧ RangeAt w' kf vf r (some b) left ∧ Keeps (fun k => k = b) w w' ∧ w'.heap.size = w.heap.size := by
  have hlt := h.lt
  have hf := h.find (P := P) K hx
  obtain ⟨es, clock, hb, hm, hpw, hcl, hok, hnd⟩ := h
  obtain ⟨es', clock', hb', h1⟩ := hf
  rw [hb] at hb'
  injection hb' with hb'
  injection hb' with e1 e2
  subst e1 e2
  obtain ⟨es2, clock2, since, seen, c0, q1, q2, q3, q4, q5, q6, q7⟩ := hr
  rw [hb] at q1
  injection q1 with q1
  injection q1 with e1 e2
  subst e1 e2
  have hrb : r ≠ b := by rintro rfl; rw [hb] at q3; cases q3
  rcases h1 with ⟨h1, h2⟩ | ⟨j, e0, u, h1, hj, hlj, hkey, h2⟩
  · refine ⟨setBlock w b (.map es clock), ?_, ?_, ?_, Keeps.setBlock_ _ _ _, size_setBlock _⟩
    · simp [Builtin.delete_, run_underlying ht, MapKept.run_getObj_map hb, K.check w _ hx, h2, MapKept.run_setObj_map _ hb, Result.andThen, setBlock]
    · rw [mdel_none h1]
      exact ⟨es, clock, heap_setBlock_eq _ hlt, hm, hpw, hcl, hok, hnd⟩
    · exact ⟨es, clock, since, seen, c0, heap_setBlock_eq _ hlt, q2, (heap_setBlock_ne _ hrb).trans q3, q4, q5, q6, q7⟩
  · have hjl : j < es.toList.length := (List.getElem?_eq_some_iff.1 hj).1
    have hjs : j < es.size := by simpa using hjl
    have hsub : (es.eraseIdxIfInBounds j).toList = es.toList.eraseIdx j := by
      unfold Array.eraseIdxIfInBounds
      rw [dif_pos hjs]
      simp
    have hs := List.eraseIdx_sublist es.toList j
    refine ⟨setBlock w b (.map (es.eraseIdxIfInBounds j) clock), ?_, ?_, ?_, Keeps.setBlock_ _ _ _, size_setBlock _⟩
    · simp [Builtin.delete_, run_underlying ht, MapKept.run_getObj_map hb, K.check w _ hx, h2, MapKept.run_setObj_map _ hb, Result.andThen, setBlock]
    · have hmd := mdel_erase hnd hlj
      refine ⟨_, _, heap_setBlock_eq _ hlt, ?_, ?_, ?_, ?_, ?_⟩
      · rw [hsub, hmd, map_erase_, map_erase_, hm]
      · rw [hsub]; exact hpw.sublist hs
      · rw [hsub]; exact fun a ha => hcl a (hs.subset ha)
      · rw [hmd]; exact fun p hp => hok p ((List.eraseIdx_sublist _ _).subset hp)
      · exact mdel_nodup hnd x
    · refine ⟨_, _, since, seen, c0, heap_setBlock_eq _ hlt, ?_, (heap_setBlock_ne _ hrb).trans q3, ?_, q5, ?_, q7⟩
      · rw [hsub]; exact q2.sublist hs
      · rw [hsub]; exact fun a ha => q4 a (hs.subset ha)
      · rw [← q6]
        congr 1
        have hno : ¬ e0 ∈ (leftOf es seen).toList := fun hmem => by
          obtain ⟨i, hi⟩ := List.getElem?_of_mem hmem
          have h3 : ((leftOf es seen).toList.map (fun e => (e.key, e.val)))[i]? = some (e0.key, e0.val) := by rw [List.getElem?_map, hi]; rfl
          rw [q6, List.getElem?_map] at h3
          cases hl : left[i]? with
          | none => rw [hl] at h3; simp at h3
          | some p =>
            rw [hl] at h3
            simp at h3
            exact hxl p (List.mem_of_getElem? hl) (K.inj (h3.1.trans hkey))
        simp only [leftOf, Array.toList_filter] at hno ⊢
        rw [hsub]
        refine filter_erase_ _ _ _ _ hj ?_
        have := fun hp => hno (List.mem_filter.2 ⟨List.mem_of_getElem? hj, hp⟩)
        simpa using this
end

section
variable {κ υ : Type} [DecidableEq κ] {P : Program} {k : TypeId} {kf : κ → Value} {vf : υ → Value} {Ok : κ → Prop} {w : World} {b : Nat} {l left : List (κ × υ)}
variable {ops : Array Oper} {rest : List Oper} {o : Oper} {a : Act} {Q : Exit → Act → World → Prop}
theorem wpList_deleteR_is (hg : o.guard = none) (m x : Operand) (t : TypeId) (hop : o.op = .call { callee := .builtin .delete, args := #[m, x], argTypes := #[t, k] }) {e : TypeId} (ht : P.underlying t = some (.map k e)) (hm : a.eval m = .map (some b)) {y : κ} (hxe : a.eval x = kf y) (hy : Ok y) (K : KeyFn P k kf Ok) (h : MapIs w kf vf Ok b l) {r : Nat} (hr : RangeAt w kf vf r (some b) left) (hxl : ∀ p ∈ left, p.1 ≠ y)
    (hK : ∀ w', MapIs w' kf vf Ok b (mdel l y) → RangeAt w' kf vf r (some b) left → Keeps (fun k => k = b) w w' → w'.heap.size = w.heap.size → wpList P ops Q rest (a.put o.dst (.tuple #[])) w') :
    wpList P ops Q (o :: rest) a w := by
  refine wpList_plain hg fun K' hK' => ?_
  obtain ⟨w', hrun, r1, r2, r3, r4⟩ := h.delR (P := P) K (ty := o.type) ht hy hr hxl
  have hk := hK' _ _ (hK w' r1 r2 r3 r4)
  unfold Oper.wp execOp
  simp only [hop, resolve, invoke, builtin, Sem.run_bind, Sem.run_pure, Result.andThen_ok, List.map_toArray, List.map_cons, List.map_nil, hm, hxe, hrun]
  exact hk
end
end Go.Proofs.YtaollcpoibgblaaDoor
