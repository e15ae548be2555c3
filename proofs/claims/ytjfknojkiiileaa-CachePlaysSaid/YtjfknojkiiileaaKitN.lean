/- 'append(s, x...)' to a slice of the call's own, told where the new row lies. Lemmas over any program. -/
import Derived.Test.YtjfknojkiiileaaKitP
namespace Go.Proofs.Ytjfknojkiiileaa
open Go.ChangeShapes Go.WideShapes Go.ChangeAt Go.RowKit
set_option linter.unusedVariables false
set_option linter.unusedSimpArgs false

theorem run_append_at {P : Program} (w : World) (base : Nat) (t ty e : TypeId) (z : Value) (size bytes : Nat) (ht : P.underlying t = some (.slice e)) (hinfo : (P.info? e).map (fun i => (i.zero, i.size, i.bytes)) = some (some z, size, bytes))
    (hzs : z.cells.size = size) (hsz : 0 < size) (A : Option Addr) (n c : Nat) (xs : List Value) (hown : w.ownsRow base e size (.slice A n c) n xs)
    (A2 : Option Addr) (B2 n2 c2 : Nat) (us : List Value) (hr : Reads w B2 size A2 n2 us) (hc2 : A2 = none → c2 = 0) (h1 : ∀ u ∈ us, u.oneCell' = true) (hmax : n + n2 ≤ maxLen) (hbytes : (n + n2) * bytes ≤ 140737488355328) (hbase : base ≤ w.heap.size) :
    ∃ A' c' w', (Builtin.append_ #[t, t] ty #[.slice A n c, .slice A2 n2 c2]).run P w = .ok (.slice A' (n + n2) c') w' ∧ w'.ownsRow base e size (.slice A' (n + n2) c') (n + n2) (xs ++ us) ∧ w.grownBy w' (Value.slice A n c).ownBlock ∧ Below base w w' ∧
      ((Value.slice A' (n + n2) c').ownBlock = (Value.slice A n c).ownBlock ∨ (Value.slice A' (n + n2) c').ownBlock = some w.heap.size) := by
  obtain ⟨i, hi, hz, hz1, hz2⟩ := info_parts hinfo
  cases A2 with
  | none =>
    have hn0 : n2 = 0 := by
      rcases Nat.eq_zero_or_pos n2 with h | h
      · exact h
      · obtain ⟨b, o, e, _⟩ := hr.2 h; cases e
    subst hn0
    obtain rfl := hc2 rfl
    have hx : us = [] := by have := hr.1; simp at this; exact this
    subst hx
    have hrun := run_append_owned_none (P := P) (w := w) base t ty e i size ht hi (.slice A n c) n xs hown
    refine ⟨A, c, w, hrun, by simpa using hown, ⟨rfl, rfl, rfl, Nat.le_refl _, fun _ _ _ => rfl⟩, Below.refl _ _, .inl ?_⟩
    cases A <;> rfl
  | some ad =>
    have hnews : ∀ j u, us[j]? = some u → w.cell? (ad.add j) = some u := by
      intro j u hu
      have hj := (List.getElem?_eq_some_iff.1 hu).1
      have hpos : 0 < n2 := by
        rcases Nat.eq_zero_or_pos n2 with h | h
        · subst h; have := hr.1; simp at this; subst this; simp at hj
        · exact h
      obtain ⟨b', o', e, _, hc⟩ := hr.2 hpos
      injection e with e
      subst e
      have hadd : (⟨b', o', none⟩ : Addr).add j = ⟨b', o' + j, none⟩ := by unfold Addr.add; split <;> simp_all
      rw [hadd]
      exact hc j u hu
    obtain ⟨v', w', hrun, hown', hg, _, hloc⟩ := run_append_own_at (P := P) w base t ty e i z size bytes ht hi hz hz1 hz2 hzs hsz (.slice A n c) n xs hown ad n2 c2 us hr.1 hnews h1 hmax hbytes hbase
    obtain ⟨A', c', rfl⟩ := own_form hown'
    exact ⟨A', c', w', hrun, hown', hg, (Below.refl _ _).grown hg hbase (fun k hk => (hown.lt k hk).1), hloc⟩

theorem wp_append_at {P : Program} (w : World) {o : Oper} {a : Act} {K : Act → World → Prop} {Q : Exit → Act → World → Prop} (s x : Operand) (t : TypeId)
    (ho : o.op = .call { callee := .builtin .append, args := #[s, x], argTypes := #[t, t] })
    (base : Nat) (e : TypeId) (z : Value) (size bytes : Nat) (ht : P.underlying t = some (.slice e)) (hinfo : (P.info? e).map (fun i => (i.zero, i.size, i.bytes)) = some (some z, size, bytes))
    (hzs : z.cells.size = size) (hsz : 0 < size)
    (A : Option Addr) (n c : Nat) (xs : List Value) (hs : a.eval s = .slice A n c) (hown : w.ownsRow base e size (.slice A n c) n xs)
    (A2 : Option Addr) (B2 n2 c2 : Nat) (us : List Value) (hx : a.eval x = .slice A2 n2 c2) (hr : Reads w B2 size A2 n2 us) (hc2 : A2 = none → c2 = 0) (h1 : ∀ u ∈ us, u.oneCell' = true)
    (m : Nat) (hm : n + n2 = m) (hmax : m ≤ maxLen) (hbytes : m * bytes ≤ 140737488355328) (hbase : base ≤ w.heap.size)
    (h : ∀ A' c' w', w'.ownsRow base e size (.slice A' m c') m (xs ++ us) → w.grownBy w' (Value.slice A n c).ownBlock → Below base w w' → ((Value.slice A' m c').ownBlock = (Value.slice A n c).ownBlock ∨ (Value.slice A' m c').ownBlock = some w.heap.size) → K (a.put o.dst (.slice A' m c')) w') : o.wp P a w K Q := by
  subst hm
  obtain ⟨A', c', w', hrun, hown', hg, hb, hloc⟩ := run_append_at (P := P) w base t o.type e z size bytes ht hinfo hzs hsz A n c xs hown A2 B2 n2 c2 us hr hc2 h1 hmax hbytes hbase
  have hk := h A' c' w' hown' hg hb hloc
  unfold Oper.wp execOp
  simp only [ho, resolve, invoke, builtin, Sem.run_bind, Sem.run_pure, Result.andThen_ok, List.map_toArray, List.map_cons, List.map_nil, hs, hx, hrun]
  exact hk

theorem wpList_append_at {P : Program} (w : World) {ops : Array Oper} {rest : List Oper} {o : Oper} {a : Act} {Q : Exit → Act → World → Prop} (hw : Region.wanted o (yielded ops a.tmps) = true) (s x : Operand) (t : TypeId)
    (ho : o.op = .call { callee := .builtin .append, args := #[s, x], argTypes := #[t, t] })
    (base : Nat) (e : TypeId) (z : Value) (size bytes : Nat) (ht : P.underlying t = some (.slice e)) (hinfo : (P.info? e).map (fun i => (i.zero, i.size, i.bytes)) = some (some z, size, bytes))
    (hzs : z.cells.size = size) (hsz : 0 < size)
    (A : Option Addr) (n c : Nat) (xs : List Value) (hs : a.eval s = .slice A n c) (hown : w.ownsRow base e size (.slice A n c) n xs)
    (A2 : Option Addr) (B2 n2 c2 : Nat) (us : List Value) (hx : a.eval x = .slice A2 n2 c2) (hr : Reads w B2 size A2 n2 us) (hc2 : A2 = none → c2 = 0) (h1 : ∀ u ∈ us, u.oneCell' = true)
    (m : Nat) (hm : n + n2 = m) (hmax : m ≤ maxLen) (hbytes : m * bytes ≤ 140737488355328) (hbase : base ≤ w.heap.size)
    (h : ∀ A' c' w', w'.ownsRow base e size (.slice A' m c') m (xs ++ us) → w.grownBy w' (Value.slice A n c).ownBlock → Below base w w' → ((Value.slice A' m c').ownBlock = (Value.slice A n c).ownBlock ∨ (Value.slice A' m c').ownBlock = some w.heap.size) → wpList P ops Q rest (a.put o.dst (.slice A' m c')) w') :
    wpList P ops Q (o :: rest) a w :=
  wpList_wanted hw fun _ hK => wp_append_at w s x t ho base e z size bytes ht hinfo hzs hsz A n c xs hs hown A2 B2 n2 c2 us hx hr hc2 h1 m hm hmax hbytes hbase fun A' c' w' h1 h2 h3 h4 => hK _ _ (h A' c' w' h1 h2 h3 h4)

/-- What may lie at a slice's own block after an append: the row that was there, or a new one. -/
theorem own_moves {F : Nat → Prop} {w : World} {v v' : Value} (hF : ∀ k, F k → k < w.heap.size) (hap : ∀ j, v.ownBlock = some j → ¬ F j) (hloc : v'.ownBlock = v.ownBlock ∨ v'.ownBlock = some w.heap.size) : ∀ j, v'.ownBlock = some j → ¬ F j := by
  intro j hj hf
  rcases hloc with h | h
  · exact hap j (h ▸ hj) hf
  · rw [h] at hj
    injection hj with hj
    subst hj
    exact Nat.lt_irrefl _ (hF _ hf)
end Go.Proofs.Ytjfknojkiiileaa
