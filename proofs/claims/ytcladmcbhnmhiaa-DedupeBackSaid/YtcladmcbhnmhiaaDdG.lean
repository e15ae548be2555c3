/- Contract of putNumber. -/
import Derived.Test.YtcladmcbhnmhiaaDdF
import Derived.Lib.AppendStr
namespace Go.Proofs.Ytcladmcbhnmhiaa
open Go.ChangeShapes Go.WideShapes Go.ChangeAt Go.RowKit
set_option linter.unusedVariables false
set_option linter.unusedSimpArgs false

/-- A number in groups of seven bits, the least first. -/
def numB (n : Nat) : List UInt8 := if h : n < 128 then [UInt8.ofNat n] else UInt8.ofNat (128 + n % 128) :: numB (n / 128)
termination_by n
decreasing_by omega
def byC (l : List UInt8) : List Value := l.map fun b => Value.int .u8 b.toNat
theorem byC_append (a b : List UInt8) : byC (a ++ b) = byC a ++ byC b := by unfold byC; rw [List.map_append]
theorem byC_len (l : List UInt8) : (byC l).length = l.length := by unfold byC; rw [List.length_map]
theorem byC_one (l : List UInt8) : ∀ v ∈ byC l, v.oneCell' = true := by
  intro v hv
  obtain ⟨b, -, rfl⟩ := List.mem_map.1 hv
  rfl
theorem numB_len {n : Nat} : ∀ {f : Nat}, n < 128 ^ (f + 1) → (numB n).length ≤ f + 1
  | 0, h => by
    rw [numB, dif_pos (by simpa using h)]
    simp
  | f + 1, h => by
    rw [numB]
    split
    · simp
    · have : n / 128 < 128 ^ (f + 1) := by
        rw [Nat.div_lt_iff_lt_mul (by omega)]
        rw [Nat.pow_succ] at h
        exact h
      have := numB_len this
      simp
      omega
def ByRow (w : World) (base : Nat) (A : Option Addr) (c : Nat) (l : List UInt8) : Prop := w.ownsRow base 5 1 (.slice A l.length c) l.length (byC l)
theorem u8_info : (Try.prog.info? 5).map (fun i => (i.zero, i.size, i.bytes)) = some (some (.int .u8 0), 1, 1) := by kernel_rfl
/-- A row of one's own has grown: nothing else has changed. -/
def Grows (w : World) (v : Option Nat) (w' : World) (v' : Option Nat) : Prop := w.grownBy w' v ∧ (v' = v ∨ ∃ k, v' = some k ∧ w.heap.size ≤ k)
theorem Grows.refl (w : World) (v : Option Nat) : Grows w v w v := ⟨⟨rfl, rfl, rfl, Nat.le_refl _, fun _ _ _ => rfl⟩, .inl rfl⟩
theorem Grows.trans {w w' w'' : World} {v v' v'' : Option Nat} (h : Grows w v w' v') (h' : Grows w' v' w'' v'') : Grows w v w'' v'' := by
  obtain ⟨h1, h2⟩ := h
  obtain ⟨h3, h4⟩ := h'
  refine ⟨⟨h3.os.trans h1.os, h3.tape.trans h1.tape, h3.output.trans h1.output, Nat.le_trans h1.size h3.size, fun k hk hn => (h3.block k (Nat.lt_of_lt_of_le hk h1.size) (fun e => ?_)).trans (h1.block k hk hn)⟩, ?_⟩
  · rcases h2 with h2 | ⟨q, h2, h5⟩
    · exact hn (e.trans h2)
    · rw [h2] at e
      injection e with e
      omega
  · have hs := h1.size
    rcases h4 with h4 | ⟨q, h4, h5⟩
    · rcases h2 with h2 | ⟨q, h2, h5⟩
      · exact .inl (h4.trans h2)
      · exact .inr ⟨q, h4.trans h2, h5⟩
    · exact .inr ⟨q, h4, by omega⟩
theorem Grows.below {w w' : World} {v v' : Option Nat} {base : Nat} (h : Grows w v w' v') (hb : base ≤ w.heap.size) (hv : ∀ k, v = some k → base ≤ k) : Below base w w' := (Below.refl _ _).grown h.1 hb hv
theorem Grows.keeps {w w' : World} {v v' : Option Nat} (h : Grows w v w' v') : Keeps (fun k => some k = v) w w' := Keeps.ofGrown h.1
/-- 'append(s, x)' of one cell, told where the row lies. -/
theorem wpList_append_cellG {P : Program} (w : World) {ops : Array Oper} {rest : List Oper} {o : Oper} {a : Act} {Q : Exit → Act → World → Prop} (hgd : o.guard = none) (s x : Operand) (t : TypeId)
    (ho : o.op = .call { callee := .builtin .append, args := #[s, x], argTypes := #[t, t] })
    (base : Nat) (e : TypeId) (z : Value) (bytes : Nat) (ht : P.underlying t = some (.slice e)) (hinfo : (P.info? e).map (fun i => (i.zero, i.size, i.bytes)) = some (some z, 1, bytes))
    (hzs : z.cells.size = 1)
    (A : Option Addr) (n c : Nat) (xs : List Value) (hs : a.eval s = .slice A n c) (hown : w.ownsRow base e 1 (.slice A n c) n xs)
    (u : Value) (hx : a.eval x = .slice (some ⟨w.heap.size, 0, none⟩) 1 1) (h1 : u.oneCell' = true)
    (hbytes : (n + 1) * bytes ≤ 140737488355328) (hmax : n + 1 ≤ maxLen) (hbase : base ≤ w.heap.size)
    (h : ∀ A' c' w', w'.ownsRow base e 1 (.slice A' (n + 1) c') (n + 1) (xs ++ [u]) → Grows w (Value.slice A n c).ownBlock w' (Value.slice A' (n + 1) c').ownBlock → wpList P ops Q rest (a.put o.dst (.slice A' (n + 1) c')) w') :
    wpList P ops Q (o :: rest) a (w.alloc (.cells #[u] e)) :=
  wpList_plain hgd fun _ hK => wp_append_one w s x t ho base e z 1 bytes ht hinfo hzs (by decide) A n c xs hs hown [u] hx rfl (by intro y hy; simp at hy; subst hy; exact h1) hbytes hmax hbase fun A' c' w' h2 h3 h4 h5 => hK _ _ (h A' c' w' h2 ⟨h3, h5.imp id (fun e => ⟨_, e, by omega⟩)⟩)

set_option maxRecDepth 100000 in
theorem or128_fin : ∀ z : Fin 256, bits BinOp.or IntKind.u8 ((z.1 : Nat) : Int) 128 = ((128 + z.1 % 128 : Nat) : Int) := by decide
theorem or128 (y : Nat) : bits BinOp.or IntKind.u8 ((y : Int) % 256) 128 = ((UInt8.ofNat (128 + y % 128)).toNat : Int) := by
  have h := or128_fin ⟨y % 256, by omega⟩
  simp only at h
  have e : ((y % 256 : Nat) : Int) = (y : Int) % 256 := by omega
  rw [← e, h]
  have : (UInt8.ofNat (128 + y % 128)).toNat = 128 + y % 128 := by simp; omega
  rw [this]
  omega

set_option maxHeartbeats 4000000 in
set_option maxRecDepth 100000 in
theorem putNumber_any (base : Nat) (A : Option Addr) (c : Nat) (l : List UInt8) (n : Nat) (w : World) (h : ByRow w base A c l) (hl : l.length < 1000000000) (hn : (n : Int) ≤ 4398046511103) (hbase : base ≤ w.heap.size) :
    Calls Try.prog 41 #[.slice A l.length c, .int .i64 n] w fun e w' => ∃ A' c', e = .returned (.slice A' (l ++ numB n).length c') ∧ ByRow w' base A' c' (l ++ numB n) ∧ Grows w (Value.slice A l.length c).ownBlock w' (Value.slice A' (l ++ numB n).length c').ownBlock := by
  have H := Lib.hid h
  clear h
  have hnl : (numB n).length ≤ 6 := numB_len (by omega)
  have HNL := Lib.hid hnl
  clear hnl
  go_enter Try.func41, Try.ntmps41
  go_wp2_with fail
  go_loopg [0, 1] n (fun rest s0 s1 wr => ∃ (A2 : Option Addr) (c2 : Nat) (l2 : List UInt8) (y : Nat), s0 = .slice A2 l2.length c2 ∧ s1 = .int .i64 y ∧ Hid (y ≤ rest) ∧ (y : Int) ≤ 4398046511103 ∧ Hid (l2 ++ numB y = l ++ numB n) ∧ Hid (ByRow wr base A2 c2 l2) ∧ base ≤ wr.heap.size ∧ Hid (Grows w (Value.slice A l.length c).ownBlock wr (Value.slice A2 l2.length c2).ownBlock))
  case atStart => exact ⟨A, c, l, n, rfl, rfl, Lib.hid (Nat.le_refl _), hn, Lib.hid rfl, H, hbase, Lib.hid (Grows.refl _ _)⟩
  case round =>
    obtain ⟨A2, c2, l2, y, rfl, rfl, HM, hy, HE, HR, hbase2, HB⟩ := hrel
    have hlen : l2.length ≤ l.length + 6 := by
      have h1 := congrArg List.length HE.out
      simp only [List.length_append] at h1
      have := HNL.out
      omega
    by_cases hy2 : (y : Int) < 128
    · go_wp2_with (at_builtin; refine wpList_append_cellG wr rfl _ _ _ rfl base 5 (.int .u8 0) 1 Try.underlying52 u8_info rfl A2 l2.length c2 _ rfl HR.out _ rfl rfl (by omega) (by unfold maxLen; omega) hbase2 ?_; intro A5 c5 w5 hown5 hg5)
      have hnb : numB y = [UInt8.ofNat y] := by rw [numB, dif_pos (by omega)]
      have he : l ++ numB n = l2 ++ [UInt8.ofNat y] := by rw [← hnb, HE.out]
      have hu : ((UInt8.ofNat y).toNat : Int) = (y : Int) := by
        have : (UInt8.ofNat y).toNat = y := by simp; omega
        rw [this]
      have hfin : w5.ownsRow base 5 1 (.slice A5 (l2 ++ [UInt8.ofNat y]).length c5) (l2 ++ [UInt8.ofNat y]).length (byC (l2 ++ [UInt8.ofNat y])) := by
        rw [byC_append, List.length_append]
        show w5.ownsRow base _ 1 (.slice A5 (l2.length + 1) c5) (l2.length + 1) (byC l2 ++ [.int .u8 ((UInt8.ofNat y).toNat : Int)])
        rw [hu]
        exact hown5
      go_ret
      rw [he]
      refine ⟨A5, c5, by simp, hfin, ?_⟩
      have h9 := HB.out.trans hg5
      rw [List.length_append]
      exact h9
    · go_wp2_with (at_builtin; refine wpList_append_cellG wr rfl _ _ _ rfl base 5 (.int .u8 0) 1 Try.underlying52 u8_info rfl A2 l2.length c2 _ rfl HR.out _ rfl rfl (by omega) (by unfold maxLen; omega) hbase2 ?_; intro A5 c5 w5 hown5 hg5)
      have hnb : numB y = UInt8.ofNat (128 + y % 128) :: numB (y / 128) := by rw [numB, dif_neg (by omega)]
      have hfin : ByRow w5 base A5 c5 (l2 ++ [UInt8.ofNat (128 + y % 128)]) := by
        unfold ByRow
        rw [byC_append, List.length_append]
        show w5.ownsRow base _ 1 (.slice A5 (l2.length + 1) c5) (l2.length + 1) (byC l2 ++ [.int .u8 ((UInt8.ofNat (128 + y % 128)).toNat : Int)])
        rw [← or128]
        exact hown5
      have HF := Lib.hid hfin
      clear hfin hown5
      go_roundg (gk - 1)
      case measure => have := HM.out; omega
      case rel => exact ⟨A5, c5, l2 ++ [UInt8.ofNat (128 + y % 128)], y / 128, by simp, by congr 1, Lib.hid (by have := HM.out; omega), by omega, Lib.hid (by rw [List.append_assoc, List.singleton_append, ← hnb]; exact HE.out), HF, Nat.le_trans hbase2 hg5.1.size, Lib.hid (by rw [List.length_append]; exact HB.out.trans hg5)⟩

theorem Grows.alloc {w w' : World} {v v' : Option Nat} (h : Grows w v w' v') (o : Obj) : Grows w v (w'.alloc o) v' := by
  refine ⟨⟨h.1.os, h.1.tape, h.1.output, by have := h.1.size; simp; omega, fun k hk hn => (Below.heap_alloc w' o k (by have := h.1.size; omega)).trans (h.1.block k hk hn)⟩, h.2⟩
theorem strCells_byC (s : ByteArray) : Lib.strCells s = byC s.data.toList := rfl
/-- 'append(b, s...)', s a text, told where the row lies. -/
theorem run_append_strG (w : World) (base g n cap : Nat) (xs : List Value) (ty : TypeId) (hown : w.ownsRow base 5 1 (.slice (some ⟨g, 0, none⟩) n cap) n xs) (s : ByteArray) (hmax : n + s.size ≤ 1000000000) (hbase : base ≤ w.heap.size) :
    ∃ A' c' w', (Builtin.append_ #[52, 9] ty #[.slice (some ⟨g, 0, none⟩) n cap, .string s]).run Try.prog w = .ok (.slice A' (n + s.size) c') w' ∧ w'.ownsRow base 5 1 (.slice A' (n + s.size) c') (n + s.size) (xs ++ byC s.data.toList) ∧ Grows w (some g) w' (Value.slice A' (n + s.size) c').ownBlock := by
  obtain ⟨i, hi, hz, hz1, hz2⟩ := info_parts u8_info
  obtain ⟨v', w', hr, ho, hg, -⟩ := Lib.run_append_own_string (P := Try.prog) w base 52 9 ty 5 i Try.underlying52 Try.underlying9 hi hz hz1 hz2 (.slice (some ⟨g, 0, none⟩) n cap) n xs hown s (by unfold maxLen; omega) (by omega) hbase
  obtain ⟨A', c', rfl⟩ := own_form ho
  rw [strCells_byC] at ho
  refine ⟨A', c', w', hr, ho, hg, ?_⟩
  obtain ⟨cur, h1, h2, h3, h4, h5, h6, h7⟩ := own_block hown
  have hsrc := Src.ofString (P := Try.prog) (w := w) (tx := 9) Try.underlying9 s
  rcases Nat.lt_or_ge cap (n + s.size) with q | q
  · have hold : (Builtin.firstCells i.size n (.slice (some ⟨g, 0, none⟩) n cap)).run Try.prog w.drew = .ok xs.toArray w.drew := by
      rw [hz1]
      exact run_firstCells_some w.drew 1 n ⟨g, 0, none⟩ n cap xs (by omega) (cells_block (w := w.drew) h1 0 (fun j u hu => by
        rw [← h6, List.getElem?_take] at hu
        split at hu
        · simpa using hu
        · cases hu))
    have := run_append_grow_src (P := Try.prog) w 52 9 ty 5 i _ Try.underlying52 hi hz (some ⟨g, 0, none⟩) n cap xs hold (.string s) s.size (byteCells s) (by rw [hz1]; exact hsrc) q (by omega) (by rw [hz2]; exact growslice_fits q (by omega))
    rw [hr] at this
    injection this with e1 e2
    injection e1 with e1
    rw [e1]
    exact .inr ⟨_, rfl, Nat.le_refl _⟩
  · have hfit : ∀ j, j < (byteCells s).length → (w.cell? ⟨g, 0 + n * i.size + j, none⟩).isSome = true := fun j hj => by
      rw [byteCells_length] at hj
      rw [cell_of_row w g _ cur.toArray _ _ h1]
      have : n * i.size + j < cur.length := by rw [hz1, h5]; omega
      simp [this]
    have := run_append_room_src (P := Try.prog) w 52 9 ty 5 i Try.underlying52 hi g 0 n cap (.string s) s.size (byteCells s) (by rw [hz1]; exact hsrc) q hfit (fun j hj => frozen_block h1 _)
    rw [hr] at this
    injection this with e1 e2
    injection e1 with e1
    rw [e1]
    exact .inl rfl
theorem wpList_append_strG (w : World) {ops : Array Oper} {rest : List Oper} {o : Oper} {a : Act} {Q : Exit → Act → World → Prop} (hgd : o.guard = none) (sl x : Operand)
    (ho : o.op = .call { callee := .builtin .append, args := #[sl, x], argTypes := #[52, 9] })
    (base g n cap : Nat) (xs : List Value) (hs : a.eval sl = .slice (some ⟨g, 0, none⟩) n cap) (hown : w.ownsRow base 5 1 (.slice (some ⟨g, 0, none⟩) n cap) n xs) (s : ByteArray) (hx : a.eval x = .string s) (hmax : n + s.size ≤ 1000000000) (hbase : base ≤ w.heap.size)
    (h : ∀ A' c' w', w'.ownsRow base 5 1 (.slice A' (n + s.size) c') (n + s.size) (xs ++ byC s.data.toList) → Grows w (some g) w' (Value.slice A' (n + s.size) c').ownBlock → wpList Try.prog ops Q rest (a.put o.dst (.slice A' (n + s.size) c')) w') : wpList Try.prog ops Q (o :: rest) a w := by
  refine wpList_plain hgd fun K hK => ?_
  obtain ⟨A', c', w', hr, h2, h3⟩ := run_append_strG w base g n cap xs o.type hown s hmax hbase
  unfold Oper.wp execOp
  simp only [ho, resolve, invoke, builtin, Sem.run_bind, Sem.run_pure, Result.andThen_ok, List.map_toArray, List.map_cons, List.map_nil, hs, hx, hr]
  exact hK _ _ (h A' c' w' h2 h3)
end Go.Proofs.Ytcladmcbhnmhiaa
