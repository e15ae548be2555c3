/- 'append(s, x...)' to a slice of the call's own, from whatever source that reads; guarded or not. Lemmas over any program. -/
import Derived.Test.YtaollcpoibgblaaDoorKitO
import Derived.Laws.AppendOwnNone
namespace Go.Proofs.YtaollcpoibgblaaDoor
open Go.ChangeShapes Go.WideShapes Go.ChangeAt Go.RowKit
set_option linter.unusedVariables false
set_option linter.unusedSimpArgs false

theorem wpList_wanted {P : Program} {ops : Array Oper} {Q : Exit → Act → World → Prop} {a : Act} {w : World} {rest : List Oper} {o : Oper} (hw : Region.wanted o (yielded ops a.tmps) = true)
    (h : ∀ K : Act → World → Prop, (∀ a w, wpList P ops Q rest a w → K a w) → o.wp P a w K Q) : wpList P ops Q (o :: rest) a w :=
  wpList_step fun K hK => by rw [if_pos hw]; exact h K hK

theorem run_append_reads {P : Program} (w : World) (base : Nat) (t ty e : TypeId) (z : Value) (size bytes : Nat) (ht : P.underlying t = some (.slice e)) (hinfo : (P.info? e).map (fun i => (i.zero, i.size, i.bytes)) = some (some z, size, bytes))
    (hzs : z.cells.size = size) (hsz : 0 < size) (A : Option Addr) (n c : Nat) (xs : List Value) (hown : w.ownsRow base e size (.slice A n c) n xs)
    (A2 : Option Addr) (B2 n2 c2 : Nat) (us : List Value) (hr : Reads w B2 size A2 n2 us) (hc2 : A2 = none → c2 = 0) (h1 : ∀ u ∈ us, u.oneCell' = true) (hmax : n + n2 ≤ maxLen) (hbytes : (n + n2) * bytes ≤ 140737488355328) (hbase : base ≤ w.heap.size) :
    ∃ A' c' w', (Builtin.append_ #[t, t] ty #[.slice A n c, .slice A2 n2 c2]).run P w = .ok (.slice A' (n + n2) c') w' ∧ w'.ownsRow base e size (.slice A' (n + n2) c') (n + n2) (xs ++ us) ∧ w.grownBy w' (Value.slice A n c).ownBlock ∧ Below base w w' := by
  obtain ⟨i, hi, hz, hz1, hz2⟩ := info_parts hinfo
  cases A2 with
  | none =>
    have hn0 : n2 = 0 := by
      rcases Nat.eq_zero_or_pos n2 with h | h
      · exact h
      · obtain ⟨b, o, e, _⟩ := hr.2 h; cases e
    subst hn0
    obtain rfl := hc2 rfl
    have hx : us = [] := by have := hr.1; simp at this; exact this
    subst hx
    have hrun := run_append_owned_none (P := P) (w := w) base t ty e i size ht hi (.slice A n c) n xs hown
    refine ⟨A, c, w, hrun, by simpa using hown, ⟨rfl, rfl, rfl, Nat.le_refl _, fun _ _ _ => rfl⟩, Below.refl _ _⟩
  | some ad =>
    have hnews : ∀ j u, us[j]? = some u → w.cell? (ad.add j) = some u := by
      intro j u hu
      have hj := (List.getElem?_eq_some_iff.1 hu).1
      have hpos : 0 < n2 := by
        rcases Nat.eq_zero_or_pos n2 with h | h
        · subst h; have := hr.1; simp at this; subst this; simp at hj
        · exact h
      obtain ⟨b', o', e, _, hc⟩ := hr.2 hpos
      injection e with e
      subst e
      have hadd : (⟨b', o', none⟩ : Addr).add j = ⟨b', o' + j, none⟩ := by unfold Addr.add; split <;> simp_all
      rw [hadd]
      exact hc j u hu
    obtain ⟨v', w', hrun, hown', hg, _, _⟩ := run_append_own_at (P := P) w base t ty e i z size bytes ht hi hz hz1 hz2 hzs hsz (.slice A n c) n xs hown ad n2 c2 us hr.1 hnews h1 hmax hbytes hbase
    obtain ⟨A', c', rfl⟩ := own_form hown'
    exact ⟨A', c', w', hrun, hown', hg, (Below.refl _ _).grown hg hbase (fun k hk => (hown.lt k hk).1)⟩

theorem wpList_append_many {P : Program} (w : World) {ops : Array Oper} {rest : List Oper} {o : Oper} {a : Act} {Q : Exit → Act → World → Prop} (hw : Region.wanted o (yielded ops a.tmps) = true) (s x : Operand) (t : TypeId)
    (ho : o.op = .call { callee := .builtin .append, args := #[s, x], argTypes := #[t, t] })
    (base : Nat) (e : TypeId) (z : Value) (size bytes : Nat) (ht : P.underlying t = some (.slice e)) (hinfo : (P.info? e).map (fun i => (i.zero, i.size, i.bytes)) = some (some z, size, bytes))
    (hzs : z.cells.size = size) (hsz : 0 < size)
    (A : Option Addr) (n c : Nat) (xs : List Value) (hs : a.eval s = .slice A n c) (hown : w.ownsRow base e size (.slice A n c) n xs)
    (A2 : Option Addr) (B2 n2 c2 : Nat) (us : List Value) (hx : a.eval x = .slice A2 n2 c2) (hr : Reads w B2 size A2 n2 us) (hc2 : A2 = none → c2 = 0) (h1 : ∀ u ∈ us, u.oneCell' = true)
    (hmax : n + n2 ≤ maxLen) (hbytes : (n + n2) * bytes ≤ 140737488355328) (hbase : base ≤ w.heap.size)
    (h : ∀ A' c' w', w'.ownsRow base e size (.slice A' (n + n2) c') (n + n2) (xs ++ us) → w.grownBy w' (Value.slice A n c).ownBlock → Below base w w' → wpList P ops Q rest (a.put o.dst (.slice A' (n + n2) c')) w') :
    wpList P ops Q (o :: rest) a w := by
  refine wpList_wanted hw fun K hK => ?_
  obtain ⟨A', c', w', hrun, hown', hg, hb⟩ := run_append_reads (P := P) w base t o.type e z size bytes ht hinfo hzs hsz A n c xs hown A2 B2 n2 c2 us hr hc2 h1 hmax hbytes hbase
  have hk := hK _ _ (h A' c' w' hown' hg hb)
  unfold Oper.wp execOp
  simp only [ho, resolve, invoke, builtin, Sem.run_bind, Sem.run_pure, Result.andThen_ok, List.map_toArray, List.map_cons, List.map_nil, hs, hx, hrun]
  exact hk
/-- The same at one operation; m elements behind it. -/
theorem wp_append_to {P : Program} (w : World) {o : Oper} {a : Act} {K : Act → World → Prop} {Q : Exit → Act → World → Prop} (s x : Operand) (t : TypeId)
    (ho : o.op = .call { callee := .builtin .append, args := #[s, x], argTypes := #[t, t] })
    (base : Nat) (e : TypeId) (z : Value) (size bytes : Nat) (ht : P.underlying t = some (.slice e)) (hinfo : (P.info? e).map (fun i => (i.zero, i.size, i.bytes)) = some (some z, size, bytes))
    (hzs : z.cells.size = size) (hsz : 0 < size)
    (A : Option Addr) (n c : Nat) (xs : List Value) (hs : a.eval s = .slice A n c) (hown : w.ownsRow base e size (.slice A n c) n xs)
    (A2 : Option Addr) (B2 n2 c2 : Nat) (us : List Value) (hx : a.eval x = .slice A2 n2 c2) (hr : Reads w B2 size A2 n2 us) (hc2 : A2 = none → c2 = 0) (h1 : ∀ u ∈ us, u.oneCell' = true)
    (m : Nat) (hm : n + n2 = m) (hmax : m ≤ maxLen) (hbytes : m * bytes ≤ 140737488355328) (hbase : base ≤ w.heap.size)
    (h : ∀ A' c' w', w'.ownsRow base e size (.slice A' m c') m (xs ++ us) → w.grownBy w' (Value.slice A n c).ownBlock → Below base w w' → K (a.put o.dst (.slice A' m c')) w') : o.wp P a w K Q := by
  subst hm
  obtain ⟨A', c', w', hrun, hown', hg, hb⟩ := run_append_reads (P := P) w base t o.type e z size bytes ht hinfo hzs hsz A n c xs hown A2 B2 n2 c2 us hr hc2 h1 hmax hbytes hbase
  have hk := h A' c' w' hown' hg hb
  unfold Oper.wp execOp
  simp only [ho, resolve, invoke, builtin, Sem.run_bind, Sem.run_pure, Result.andThen_ok, List.map_toArray, List.map_cons, List.map_nil, hs, hx, hrun]
  exact hk

theorem wpList_append_to {P : Program} (w : World) {ops : Array Oper} {rest : List Oper} {o : Oper} {a : Act} {Q : Exit → Act → World → Prop} (hw : Region.wanted o (yielded ops a.tmps) = true) (s x : Operand) (t : TypeId)
    (ho : o.op = .call { callee := .builtin .append, args := #[s, x], argTypes := #[t, t] })
    (base : Nat) (e : TypeId) (z : Value) (size bytes : Nat) (ht : P.underlying t = some (.slice e)) (hinfo : (P.info? e).map (fun i => (i.zero, i.size, i.bytes)) = some (some z, size, bytes))
    (hzs : z.cells.size = size) (hsz : 0 < size)
    (A : Option Addr) (n c : Nat) (xs : List Value) (hs : a.eval s = .slice A n c) (hown : w.ownsRow base e size (.slice A n c) n xs)
    (A2 : Option Addr) (B2 n2 c2 : Nat) (us : List Value) (hx : a.eval x = .slice A2 n2 c2) (hr : Reads w B2 size A2 n2 us) (hc2 : A2 = none → c2 = 0) (h1 : ∀ u ∈ us, u.oneCell' = true)
    (m : Nat) (hm : n + n2 = m) (hmax : m ≤ maxLen) (hbytes : m * bytes ≤ 140737488355328) (hbase : base ≤ w.heap.size)
    (h : ∀ A' c' w', w'.ownsRow base e size (.slice A' m c') m (xs ++ us) → w.grownBy w' (Value.slice A n c).ownBlock → Below base w w' → wpList P ops Q rest (a.put o.dst (.slice A' m c')) w') :
    wpList P ops Q (o :: rest) a w :=
  wpList_wanted hw fun _ hK => wp_append_to w s x t ho base e z size bytes ht hinfo hzs hsz A n c xs hs hown A2 B2 n2 c2 us hx hr hc2 h1 m hm hmax hbytes hbase fun A' c' w' h1 h2 h3 => hK _ _ (h A' c' w' h1 h2 h3)

theorem heapM1 (w : World) (a : Obj) : (w.alloc a).heap[w.heap.size]? = some a := heap_alloc_new w a
theorem heapN1 (w : World) (a : Obj) : (w.alloc a).drew.heap[w.heap.size]? = some a := heap_alloc_new w a
theorem heapN2 (w : World) (a b : Obj) : ((w.alloc a).alloc b).drew.heap[w.heap.size + 1]? = some b := by
  have := heap_alloc_new (w.alloc a) b
  rw [World.size_alloc] at this
  exact this
theorem heapN3 (w : World) (a b : Obj) : ((w.alloc a).alloc b).drew.heap[w.heap.size]? = some a := (Below.heap_alloc (w.alloc a) b _ (by simp)).trans (heap_alloc_new w a)

/-- One element in a block of its own. -/
theorem reads_blk {w : World} {b size : Nat} {us : List Value} {t : TypeId} {fr : Nat × Nat} (h : w.heap[b]? = some (.cells us.toArray t fr)) (hl : us.length = size) : Reads w (b + 1) size (some ⟨b, 0, none⟩) 1 us := by
  refine ⟨by simpa using hl, fun _ => ⟨b, 0, rfl, Nat.lt_succ_self _, fun j u hu => ?_⟩⟩
  simp only [World.cell?, h, Nat.zero_add]
  simpa using hu
theorem Reads.take {w : World} {B size n : Nat} {A : Option Addr} {xs : List Value} (h : Reads w B size A n xs) {m : Nat} (hm : m ≤ n) : Reads w B size A m (xs.take (m * size)) := by
  refine ⟨?_, fun hp => ?_⟩
  · rw [List.length_take, h.1]
    exact Nat.min_eq_left (Nat.mul_le_mul_right _ hm)
  · obtain ⟨b, o, e, hb, hc⟩ := h.2 (by omega)
    refine ⟨b, o, e, hb, fun j u hu => hc j u ?_⟩
    rw [List.getElem?_take] at hu
    split at hu
    · exact hu
    · cases hu
theorem Reads.drop {w : World} {B size n c : Nat} {A : Option Addr} {xs : List Value} (h : Reads w B size A n xs) {m : Nat} (hm : m ≤ n) (hc : n ≤ c) {b o : Nat} (hA : A = some ⟨b, o, none⟩) : Reads w B size (if c = m then A else some ⟨b, o + m * size, none⟩) (n - m) (xs.drop (m * size)) := by
  refine ⟨?_, fun hp => ?_⟩
  · rw [List.length_drop, h.1, Nat.sub_mul]
  · rw [if_neg (by omega)]
    obtain ⟨b', o', e, hb, hcc⟩ := h.2 (by omega)
    rw [hA] at e
    injection e with e
    injection e with e1 e2
    subst e1 e2
    refine ⟨b, o + m * size, rfl, hb, fun j u hu => ?_⟩
    rw [List.getElem?_drop] at hu
    rw [Nat.add_assoc]
    exact hcc _ u hu
/-- One element of one cell; where the row lies behind it. -/
theorem wpList_append_cellL {P : Program} (w : World) {ops : Array Oper} {rest : List Oper} {o : Oper} {a : Act} {Q : Exit → Act → World → Prop} (hgd : o.guard = none) (s x : Operand) (t : TypeId)
    (ho : o.op = .call { callee := .builtin .append, args := #[s, x], argTypes := #[t, t] })
    (base : Nat) (e : TypeId) (z : Value) (bytes : Nat) (ht : P.underlying t = some (.slice e)) (hinfo : (P.info? e).map (fun i => (i.zero, i.size, i.bytes)) = some (some z, 1, bytes))
    (hzs : z.cells.size = 1)
    (A : Option Addr) (n c : Nat) (xs : List Value) (hs : a.eval s = .slice A n c) (hown : w.ownsRow base e 1 (.slice A n c) n xs)
    (u : Value) (hx : a.eval x = .slice (some ⟨w.heap.size, 0, none⟩) 1 1) (h1 : u.oneCell' = true)
    (hbytes : (n + 1) * bytes ≤ 140737488355328) (hmax : n + 1 ≤ maxLen) (hbase : base ≤ w.heap.size)
    (h : ∀ A' c' w', w'.ownsRow base e 1 (.slice A' (n + 1) c') (n + 1) (xs ++ [u]) → w.grownBy w' (Value.slice A n c).ownBlock → Below base w w' →
      ((Value.slice A' (n + 1) c').ownBlock = (Value.slice A n c).ownBlock ∨ (Value.slice A' (n + 1) c').ownBlock = some (w.heap.size + 1)) → wpList P ops Q rest (a.put o.dst (.slice A' (n + 1) c')) w') :
    wpList P ops Q (o :: rest) a (w.alloc (.cells #[u] e)) :=
  wpList_plain hgd fun _ hK => wp_append_one w s x t ho base e z 1 bytes ht hinfo hzs (by decide) A n c xs hs hown [u] hx rfl (by intro y hy; simp at hy; subst hy; exact h1) hbytes hmax hbase fun A' c' w' h2 h3 h4 h5 => hK _ _ (h A' c' w' h2 h3 h4 h5)
end Go.Proofs.YtaollcpoibgblaaDoor
