/- Contract of the reference's Put. -/
import Derived.Test.YtcladmcbhnmhiaaDdK
namespace Go.Proofs.Ytcladmcbhnmhiaa
open Go.ChangeShapes Go.WideShapes Go.ChangeAt Go.RowKit Go.Shelf Go.Lib Go.Sort Go.Proofs
set_option linter.unusedVariables false
set_option linter.unusedSimpArgs false

/-- 'append(s, x)', told where the row lies. -/
theorem wpList_append_oneG {P : Program} (w : World) {ops : Array Oper} {rest : List Oper} {o : Oper} {a : Act} {Q : Exit → Act → World → Prop} (hgd : o.guard = none) (s x : Operand) (t : TypeId)
    (ho : o.op = .call { callee := .builtin .append, args := #[s, x], argTypes := #[t, t] })
    (base : Nat) (e : TypeId) (z : Value) (size bytes : Nat) (ht : P.underlying t = some (.slice e)) (hinfo : (P.info? e).map (fun i => (i.zero, i.size, i.bytes)) = some (some z, size, bytes))
    (hzs : z.cells.size = size) (hsz : 0 < size)
    (A : Option Addr) (n c : Nat) (xs : List Value) (hs : a.eval s = .slice A n c) (hown : w.ownsRow base e size (.slice A n c) n xs)
    (us : List Value) (hx : a.eval x = .slice (some ⟨w.heap.size, 0, none⟩) 1 1) (hl : us.length = size) (h1 : ∀ u ∈ us, u.oneCell' = true)
    (hbytes : (n + 1) * bytes ≤ 140737488355328) (hmax : n + 1 ≤ maxLen) (hbase : base ≤ w.heap.size)
    (h : ∀ A' c' w', w'.ownsRow base e size (.slice A' (n + 1) c') (n + 1) (xs ++ us) → Grows w (Value.slice A n c).ownBlock w' (Value.slice A' (n + 1) c').ownBlock → Below base w w' → wpList P ops Q rest (a.put o.dst (.slice A' (n + 1) c')) w') :
    wpList P ops Q (o :: rest) a (w.alloc (.cells us.toArray e)) :=
  wpList_plain hgd fun _ hK => wp_append_one w s x t ho base e z size bytes ht hinfo hzs hsz A n c xs hs hown us hx hl h1 hbytes hmax hbase fun A' c' w' h2 h3 h4 h5 => hK _ _ (h A' c' w' h2 ⟨h3, h5.imp id (fun e => ⟨_, e, by omega⟩)⟩ h4)

/-- A source whose numbers lie apart from a row. -/
def SrcFree (w : World) (v : Option Nat) (s : SrcD) : Prop := SrcOk w w.heap.size s ∧ (0 < s.l.length → ∀ b o sp, s.adr = some ⟨b, o, sp⟩ → some b ≠ v)
theorem SrcFree.grow {w w' : World} {v v' : Option Nat} {s : SrcD} (h : SrcFree w v s) (g : Grows w v w' v') : SrcFree w' v' s := by
  refine ⟨⟨h.1.1, fun hn => ?_⟩, fun hn b o sp e => ?_⟩
  · obtain ⟨b, o, e, hb, hc⟩ := h.1.2 hn
    have hv := h.2 hn b o none e
    exact ⟨b, o, e, Nat.lt_of_lt_of_le hb g.1.size, fun j u hu => (g.keeps.cell (p := ⟨b, o + j, none⟩) hb hv).trans (hc j u hu)⟩
  · obtain ⟨b', o', e', hb, hc⟩ := h.1.2 hn
    rw [e] at e'
    injection e' with e'
    injection e' with e1 e2
    subst e1
    intro e3
    rcases g.2 with h4 | ⟨q, h4, h5⟩
    · exact h.2 hn b o sp e (e3.trans h4)
    · rw [h4] at e3
      injection e3 with e3
      omega
theorem SrcFree.alloc {w : World} {v : Option Nat} {s : SrcD} (h : SrcFree w v s) (o : Obj) : SrcFree (w.alloc o) v s := h.grow ((Grows.refl w v).alloc o)
theorem src_info : (Try.prog.info? 38).map (fun i => (i.zero, i.size, i.bytes)) = some (some (.agg #[.string ByteArray.empty, .slice none 0 0]), 2, 40) := by kernel_rfl

abbrev RefX := List (ByteArray × List Int)
def putP (key : ByteArray) (n : Int) : RefX → RefX
  | [] => [(key, [n])]
  | s :: r => if sLt key s.1 = true then (key, [n]) :: s :: r else if s.1 = key then (key, risL n s.2) :: r else s :: putP key n r
theorem putP_len (key : ByteArray) (n : Int) : ∀ X : RefX, (putP key n X).length ≤ X.length + 1
  | [] => by simp [putP]
  | s :: r => by
    unfold putP
    have := putP_len key n r
    split
    · simp
    · split
      · simp
      · simp; omega
def rputB (X : RefX) (key : ByteArray) (n : Int) : Bool := nameB key && decide (1 ≤ n) && decide (n ≤ 1099511627776) && !decide (hasX X key n)
def rputX (X : RefX) (key : ByteArray) (n : Int) : RefX := if rputB X key n = true then putP key n X else X
/-- Old, or laid behind B. -/
def NewS (B : Nat) (xs : List SrcD) (s : SrcD) : Prop := s ∈ xs ∨ ∀ b o sp, s.adr = some ⟨b, o, sp⟩ → B ≤ b
def RPutNew (w : World) (A : Option Addr) (xs : List SrcD) (key : ByteArray) (n : Int) (e : Ending) (w' : World) : Prop :=
  ∃ A' c' ys, e = .returned (.tuple #[.slice A' (List.length ys) c', .bool (rputB (xs.map plS) key n)]) ∧ SrcsAt w' w'.heap.size A' ys ∧ ys.map plS = rputX (xs.map plS) key n ∧ Below w.heap.size w w' ∧
    ((A' = A ∧ ys = xs) ∨ ∀ b o sp, A' = some ⟨b, o, sp⟩ → w.heap.size ≤ b) ∧ ∀ s ∈ ys, NewS w.heap.size xs s

theorem Grows.ofBelow {w w' : World} (v : Option Nat) (h : Below w.heap.size w w') : Grows w v w' v := ⟨⟨h.os, h.tape, h.output, h.size, fun k hk _ => h.block k hk⟩, .inl rfl⟩
theorem srcFree_new (w : World) (v : Option Nat) (hv : ∀ k, v = some k → k < w.heap.size) (key : ByteArray) (n : Int) (t : TypeId) : SrcFree (w.alloc (.cells #[.int .i64 n] t)) v ⟨key, some ⟨w.heap.size, 0, none⟩, 1, [n]⟩ := by
  refine ⟨⟨by simp [intC], fun _ => ⟨w.heap.size, 0, rfl, by simp, fun j u hu => ?_⟩⟩, fun _ b o sp e => ?_⟩
  · simp only [intC, List.map_cons, List.map_nil] at hu
    cases j with
    | zero => simp at hu; subst hu; simp
    | succ j => simp at hu
  · injection e with e
    injection e with e1
    subst e1
    intro e3
    have := hv _ e3.symm
    omega
theorem srcFree_old {w0 w : World} {v : Option Nat} {s : SrcD} (h : SrcOk w0 w0.heap.size s) (hb : Below w0.heap.size w0 w) (hv : ∀ k, v = some k → w0.heap.size ≤ k) : SrcFree w v s := by
  refine ⟨(h.below hb).more hb.size, fun hn b o sp e e3 => ?_⟩
  obtain ⟨b', o', e', hb', -⟩ := h.2 hn
  rw [e] at e'
  injection e' with e'
  injection e' with e1
  subst e1
  have := hv _ e3.symm
  omega
theorem srcFree_own {w : World} {v : Option Nat} {base : Nat} {A : Option Addr} {c : Nat} {l : List Int} (h : w.ownsRow base 3 1 (.slice A l.length c) l.length (intC l)) (hv : ∀ k, v = some k → k < base) (key : ByteArray) : SrcFree w v ⟨key, A, c, l⟩ := by
  refine ⟨Reads.of_own h, fun hn b o sp e e3 => ?_⟩
  have h1 := (h.lt b (by rw [show A = some ⟨b, o, sp⟩ from e]; rfl)).1
  have := hv _ e3.symm
  omega
theorem SrcFree.keep {w w' : World} {v : Option Nat} {s : SrcD} {F : Nat → Prop} (h : SrcFree w v s) (hk : Keeps F w w') (hF : ∀ b o sp, s.adr = some ⟨b, o, sp⟩ → ¬ F b) : SrcFree w' v s := by
  refine ⟨⟨h.1.1, fun hn => ?_⟩, h.2⟩
  obtain ⟨b, o, e, hb, hc⟩ := h.1.2 hn
  exact ⟨b, o, e, Nat.lt_of_lt_of_le hb hk.size, fun j u hu => (hk.cell (p := ⟨b, o + j, none⟩) hb (hF b o none e)).trans (hc j u hu)⟩
theorem srcsC_snoc (O : List SrcD) (x : SrcD) : srcsC (O ++ [x]) = srcsC O ++ srcCells x := by rw [srcsC_append]; simp [srcsC]

theorem step_row {w w5 : World} {base : Nat} {v : Option Nat} {O : List SrcD} {A5 : Option Addr} {c5 : Nat} (x : SrcD) (hown5 : w5.ownsRow base 38 2 (.slice A5 (O.length + 1) c5) (O.length + 1) (srcsC O ++ srcCells x)) (hg : Grows w v w5 (Value.slice A5 (O.length + 1) c5).ownBlock)
    (hF : ∀ s ∈ O, SrcFree w v s) (hx : SrcFree w v x) : w5.ownsRow base 38 2 (.slice A5 (O ++ [x]).length c5) (O ++ [x]).length (srcsC (O ++ [x])) ∧ ∀ s ∈ O ++ [x], SrcFree w5 (Value.slice A5 (O ++ [x]).length c5).ownBlock s := by
  have e : (O ++ [x]).length = O.length + 1 := by simp
  rw [e, srcsC_snoc]
  refine ⟨hown5, fun s hs => ?_⟩
  rcases List.mem_append.1 hs with hs | hs
  · exact (hF s hs).grow hg
  · simp at hs
    subst hs
    exact hx.grow hg

theorem newS_snoc {B : Nat} {xs O : List SrcD} {x : SrcD} (h : ∀ s ∈ O, NewS B xs s) (hx : NewS B xs x) : ∀ s ∈ O ++ [x], NewS B xs s := fun s hs => by
  rcases List.mem_append.1 hs with hs | hs
  · exact h s hs
  · simp at hs
    subst hs
    exact hx
set_option maxRecDepth 100000 in
set_option maxHeartbeats 16000000 in
theorem rput07_any (A : Option Addr) (c : Nat) (xs : List SrcD) (key : ByteArray) (n : Int) (w : World) (h : SrcsAt w w.heap.size A xs) (hup : NamesUp xs) (hl : xs.length < 900000) (hll : ∀ s ∈ xs, s.l.length < 900000) (hok : key.size ≤ maxLen) :
    Calls Try.prog 28 #[.slice A xs.length c, .string key, .int .i64 n] w (RPutNew w A xs key n) := by
  obtain ⟨nb, hnb⟩ : ∃ nb, nb = nameB key := ⟨_, rfl⟩
  have hnm := rname07_any key w hok
  have hhas := rhas07_any A c w.heap.size xs key n w h hup (by omega) (fun s hs => by have := hll s hs; omega)
  have hNO : (nb = false ∨ n < 1 ∨ 1099511627776 < n ∨ hasX (xs.map plS) key n) → RPutNew w A xs key n (.returned (.tuple #[.slice A xs.length c, .bool false])) w := fun hc => by
    have hb : rputB (xs.map plS) key n = false := by
      unfold rputB
      rw [← hnb]
      rcases hc with e | e | e | e
      · rw [e]; simp
      · have : decide (1 ≤ n) = false := by simp; omega
        rw [this]; simp
      · have : decide (n ≤ 1099511627776) = false := by simp; omega
        rw [this]; simp
      · have : decide (hasX (xs.map plS) key n) = true := by simpa using e
        rw [this]; simp
    refine ⟨A, c, xs, by rw [hb], h, ?_, Below.refl _ _, .inl ⟨rfl, rfl⟩, fun s hs => .inl hs⟩
    unfold rputX
    rw [hb]
    rfl
  have HNO := Lib.hid hNO
  have HNM := Lib.hid hnm
  have HHAS := Lib.hid hhas
  have HL := Lib.hid h
  have HUP := Lib.hid hup
  have HLL := Lib.hid hll
  have HN := Lib.hid hnb
  rw [← hnb] at HNM
  clear hNO hnm hhas h hup hnb hll
  go_enter Try.func28, Try.ntmps28
  cases nb with
  | false =>
    go_wp2_with fail
    refine Calls.mono HNM.out ?_
    rintro e w1 ⟨rfl, rfl⟩
    go_wp2
    go_ret2
    exact HNO.out (.inl (by simp))
  | true =>
  by_cases q1 : n < 1
  · go_wp2_with fail
    refine Calls.mono HNM.out ?_
    rintro e w1 ⟨rfl, rfl⟩
    go_wp2
    go_ret2
    exact HNO.out (.inr (.inl q1))
  by_cases q2 : 1099511627776 < n
  · go_wp2_with fail
    refine Calls.mono HNM.out ?_
    rintro e w1 ⟨rfl, rfl⟩
    go_wp2
    go_ret2
    exact HNO.out (.inr (.inr (.inl q2)))
  go_wp2_with fail
  refine Calls.mono HNM.out ?_
  rintro e w1 ⟨rfl, rfl⟩
  go_wp2_with fail
  refine Calls.mono HHAS.out ?_
  rintro e w2 ⟨rfl, rfl⟩
  by_cases hm : hasX (xs.map plS) key n
  · have hd : decide (hasX (xs.map plS) key n) = true := by simpa using hm
    rw [hd]
    clear hd
    go_wp2
    go_ret2
    exact HNO.out (.inr (.inr (.inr hm)))
  have hd : decide (hasX (xs.map plS) key n) = false := by simpa using hm
  have hpb : rputB (xs.map plS) key n = true := by
    unfold rputB
    rw [← HN.out, hd]
    have e1 : decide (1 ≤ n) = true := by simp; omega
    have e2 : decide (n ≤ 1099511627776) = true := by simp; omega
    rw [e1, e2]; rfl
  have hfin : ∀ A' c' ys w', SrcsAt w' w'.heap.size A' ys → ys.map plS = putP key n (xs.map plS) → Below w.heap.size w w' → (∀ b o sp, A' = some ⟨b, o, sp⟩ → w.heap.size ≤ b) → (∀ s ∈ ys, NewS w.heap.size xs s) → RPutNew w A xs key n (.returned (.tuple #[.slice A' (List.length ys) c', .bool true])) w' := fun A' c' ys w' h1 h2 h3 h4 h5 =>
    ⟨A', c', ys, by rw [hpb], h1, by unfold rputX; rw [if_pos hpb]; exact h2, h3, .inr h4, h5⟩
  have HFIN := Lib.hid hfin
  rw [hd]
  obtain ⟨W1, hW1⟩ : ∃ W1, W1 = w.alloc (.cells #[] 38) := ⟨_, rfl⟩
  have hb1 : Below w.heap.size w W1 := by rw [hW1]; exact (Below.refl _ w).alloc (Nat.le_refl _) _
  have ho1 : W1.ownsRow w.heap.size 38 2 (.slice (some ⟨w.heap.size, 0, none⟩) 0 0) 0 [] := own_empty (Nat.le_refl _) (by rw [hW1]; exact heap_alloc_new w _)
  have HB1 := Lib.hid hb1
  have HO1 := Lib.hid ho1
  obtain ⟨T, hT⟩ : ∃ T, T = putP key n (xs.map plS) := ⟨_, rfl⟩
  rw [← hT] at HFIN
  have hTl : T.length ≤ xs.length + 1 := by rw [hT]; have := putP_len key n (xs.map plS); rw [List.length_map] at this; exact this
  have HT := Lib.hid hT
  clear hb1 ho1 hd hpb hfin HNO HHAS HNM hm hT HN
  go_wp2_with fail
  rw [← hW1]
  clear hW1
  go_loopg [8, 9, 10] xs.length (fun rest s8 s9 s10 wr => ∃ (k : Nat) (d : Bool) (A2 : Option Addr) (c2 : Nat) (O : List SrcD), s10 = .int .i64 k ∧ s9 = .bool d ∧ s8 = .slice A2 O.length c2 ∧ Hid (k + rest = xs.length) ∧ (k : Int) ≤ 900000 ∧ Hid (O.map plS ++ (if d = true then (xs.drop k).map plS else putP key n ((xs.drop k).map plS)) = T) ∧ Hid (wr.ownsRow w.heap.size 38 2 (.slice A2 O.length c2) O.length (srcsC O)) ∧ Hid (∀ s ∈ O, SrcFree wr (Value.slice A2 O.length c2).ownBlock s) ∧ Hid (Below w.heap.size w wr) ∧ Hid (d = true → ∀ s ∈ xs.drop k, s.name ≠ key) ∧ Hid (∀ s ∈ O, NewS w.heap.size xs s))
  case atStart => exact ⟨0, false, some ⟨w.heap.size, 0, none⟩, 0, [], rfl, rfl, rfl, Lib.hid (by simp), by omega, Lib.hid (by rw [HT.out]; simp), HO1, Lib.hid (by simp), HB1, Lib.hid (by simp), Lib.hid (by simp)⟩
  case round =>
    obtain ⟨k, d, A2, c2, O, rfl, rfl, rfl, HK, hk0, HEQ, HO, HF, HB, HD, HNS⟩ := hrel
    have hOl : O.length ≤ xs.length + 1 := by
      have h1 := congrArg List.length HEQ.out
      rw [List.length_append, List.length_map] at h1
      omega
    have hbase : w.heap.size ≤ wr.heap.size := HB.out.size
    by_cases hk : (k : Int) < (xs.length : Int)
    · have hkl : k < xs.length := by omega
      have hL := HL.out.below HB.out
      obtain ⟨b, o, rfl, hb, y1, y2, hsok⟩ := hL.one hkl
      have hold := HL.out.2 _ (List.getElem_mem hkl)
      have hd := List.drop_eq_getElem_cons hkl
      have hlx := HLL.out _ (List.getElem_mem hkl)
      have hnx : ∀ s ∈ xs.drop (k + 1), s.name ≠ xs[k].name := fun s hs => by
        obtain ⟨j, hj, rfl⟩ := List.getElem_of_mem hs
        rw [List.getElem_drop]
        exact HUP.out.ne _ hkl (by omega)
      have hlt : sLt key xs[k].name = true → ∀ s ∈ xs.drop k, s.name ≠ key := fun h1 s hs e => by
        obtain ⟨j, hj, rfl⟩ := List.getElem_of_mem hs
        rw [List.getElem_drop] at e
        rcases Nat.eq_zero_or_pos j with q | q
        · subst q
          simp only [Nat.add_zero] at e
          rw [e, sLt_irrefl] at h1
          cases h1
        · have := List.pairwise_iff_getElem.1 HUP.out k (k + j) hkl (by simp at hj; omega) (by omega)
          rw [e] at this
          rw [sLt_asymm h1] at this
          cases this
      have hxm := List.getElem_mem hkl
      have HDR := Lib.hid hd
      have HOLD := Lib.hid hold
      have HNX := Lib.hid hnx
      have HLT := Lib.hid hlt
      have HLX := Lib.hid hlx
      clear hL hsok hold hd hnx hlt hlx
      have hov := HO.out.lt
      have HOV := Lib.hid hov
      clear hov
      generalize xs[k] = x at *
      have HXM := Lib.hid hxm
      clear hxm
      obtain ⟨nm, adr, cap, l⟩ := x
      simp only at y1 y2
      have HOLD2 : Hid (SrcOk w w.heap.size ⟨nm, adr, cap, l⟩) := HOLD
      -- a step: the box's element goes into the row
      cases d with
      | true =>
        have hne := HD.out rfl (⟨nm, adr, cap, l⟩ : SrcD) (by rw [HDR.out]; exact List.mem_cons_self)
        have hne2 : (nm.toList == key.toList) = false := by rw [str_beq]; simpa using hne
        have HE2 : Hid ((O ++ [(⟨nm, adr, cap, l⟩ : SrcD)]).map plS ++ (xs.drop (k + 1)).map plS = T) := Lib.hid (by
          have := HEQ.out
          simp only [if_true, HDR.out, List.map_cons] at this
          rw [← this]
          simp)
        have HD2 : Hid (∀ s ∈ xs.drop (k + 1), s.name ≠ key) := Lib.hid (fun s hs => HD.out rfl s (by rw [HDR.out]; exact List.mem_cons_of_mem _ hs))
        clear hne
        go_wp2_with (at_builtin; refine wpList_append_oneG (wr.alloc (.cells #[.string nm, .slice adr l.length cap] 38)) rfl _ _ _ rfl w.heap.size 38 (.agg #[.string ByteArray.empty, .slice none 0 0]) 2 40 Try.underlying26 src_info rfl (by decide) A2 O.length c2 _ rfl (HO.out.alloc _) [.string nm, .slice adr l.length cap] (by rw [World.size_alloc]; rfl) rfl (by intro u hu; simp at hu; rcases hu with rfl | rfl <;> rfl) (by omega) (by unfold maxLen; omega) (by rw [World.size_alloc]; omega) ?_; intro A5 c5 w5 hown5 hg5 hb5)
        have hst := step_row (⟨nm, adr, cap, l⟩ : SrcD) hown5 hg5 (fun s hs => (HF.out s hs).alloc _) (srcFree_old HOLD.out (HB.out.alloc hbase _) (fun q e => (HOV.out q e).1))
        have HO5 := Lib.hid hst.1
        have HF5 := Lib.hid hst.2
        have hB5 : Below w.heap.size w w5 := (HB.out.alloc hbase _).trans hb5
        clear hst hown5 hg5 hb5
        go_roundg (gk - 1)
        case measure => have := HK.out; omega
        case rel => exact ⟨k + 1, true, A5, c5, O ++ [(⟨nm, adr, cap, l⟩ : SrcD)], by go_num, rfl, by simp, Lib.hid (by have := HK.out; omega), by omega, Lib.hid (by simp only [if_true]; exact HE2.out), HO5, HF5, Lib.hid hB5, Lib.hid (fun _ => HD2.out), Lib.hid (newS_snoc HNS.out (.inl HXM.out))⟩
      | false =>
        by_cases hc : sLt key nm = true
        · have hkn := HLT.out hc
          have hne : nm ≠ key := fun e => by rw [e, sLt_irrefl] at hc; cases hc
          have hne2 : (nm.toList == key.toList) = false := by rw [str_beq]; simpa using hne
          have hc2 : Op.bytesLess key.toList nm.toList = true := hc
          have HD2 : Hid (∀ s ∈ xs.drop (k + 1), s.name ≠ key) := Lib.hid (fun s hs => hkn s (by rw [HDR.out]; exact List.mem_cons_of_mem _ hs))
          have HE2 : Hid ((O ++ [(⟨key, some ⟨wr.heap.size, 0, none⟩, 1, [n]⟩ : SrcD)] ++ [(⟨nm, adr, cap, l⟩ : SrcD)]).map plS ++ (xs.drop (k + 1)).map plS = T) := Lib.hid (by
            have := HEQ.out
            simp only [HDR.out, List.map_cons, putP] at this
            rw [if_pos (show sLt key (plS (⟨nm, adr, cap, l⟩ : SrcD)).1 = true from hc)] at this
            rw [← this]
            simp [plS])
          clear hkn hne hc
          have hnew := srcFree_new wr (Value.slice A2 O.length c2).ownBlock (fun q e => (HOV.out q e).2) key n 3
          have HNEW := Lib.hid hnew
          clear hnew
          go_upto_region 11 with (at_builtin; refine wpList_append_oneG (wr.alloc (.cells #[.int .i64 n] 3)) rfl _ _ _ rfl w.heap.size 38 (.agg #[.string ByteArray.empty, .slice none 0 0]) 2 40 Try.underlying26 src_info rfl (by decide) A2 O.length c2 _ rfl (HO.out.alloc _) [.string key, .slice (some ⟨wr.heap.size, 0, none⟩) 1 1] (by rw [World.size_alloc]; rfl) rfl (by intro u hu; simp at hu; rcases hu with rfl | rfl <;> rfl) (by omega) (by unfold maxLen; omega) (by rw [World.size_alloc]; omega) ?_; intro A5 c5 w5 hown5 hg5 hb5)
          have hst := step_row (⟨key, some ⟨wr.heap.size, 0, none⟩, 1, [n]⟩ : SrcD) hown5 hg5 (fun s hs => (HF.out s hs).alloc _) HNEW.out
          obtain ⟨O5, hO5⟩ : ∃ O5, O5 = O ++ [(⟨key, some ⟨wr.heap.size, 0, none⟩, 1, [n]⟩ : SrcD)] := ⟨_, rfl⟩
          have HNS5 : Hid (∀ s ∈ O5, NewS w.heap.size xs s) := Lib.hid (by rw [hO5]; exact newS_snoc HNS.out (.inr (fun b o sp e => by injection e with e; injection e with e1; omega)))
          have hO5n : O5.length = O.length + 1 := by rw [hO5]; simp
          rw [← hO5] at hst HE2
          rw [← hO5n]
          have hB5 : Below w.heap.size w w5 := (HB.out.alloc hbase _).trans hb5
          have hbase5 : w.heap.size ≤ w5.heap.size := hB5.size
          have HO5 := Lib.hid hst.1
          have HF5 := Lib.hid hst.2
          have hov5 := hst.1.lt
          have HOV5 := Lib.hid hov5
          have z1 := (hb5.cell (p := ⟨b, o + k * 2, none⟩) hb)
          have z2 := (hb5.cell (p := ⟨b, o + k * 2 + 1, none⟩) hb)
          have y1' : w5.cell? ⟨b, o + k * 2, none⟩ = some (.string nm) := z1.trans ((((Below.refl w.heap.size wr).alloc hbase (.cells #[.int .i64 n] 3)).cell (p := ⟨b, o + k * 2, none⟩) hb).trans y1)
          have y2' : w5.cell? ⟨b, o + k * 2 + 1, none⟩ = some (.slice adr l.length cap) := z2.trans ((((Below.refl w.heap.size wr).alloc hbase (.cells #[.int .i64 n] 3)).cell (p := ⟨b, o + k * 2 + 1, none⟩) hb).trans y2)
          have HO5N := Lib.hid hO5n
          clear hst hown5 hg5 hb5 hO5 hO5n hov5 z1 z2 y1 y2
          have hO5l : O5.length ≤ 900002 := by have := HO5N.out; omega
          go_wp2_with (at_builtin; refine wpList_append_oneG (w5.alloc (.cells #[.string nm, .slice adr l.length cap] 38)) rfl _ _ _ rfl w.heap.size 38 (.agg #[.string ByteArray.empty, .slice none 0 0]) 2 40 Try.underlying26 src_info rfl (by decide) A5 O5.length c5 _ rfl (HO5.out.alloc _) [.string nm, .slice adr l.length cap] (by rw [World.size_alloc]; rfl) rfl (by intro u hu; simp at hu; rcases hu with rfl | rfl <;> rfl) (by omega) (by unfold maxLen; omega) (by rw [World.size_alloc]; omega) ?_; intro A6 c6 w6 hown6 hg6 hb6)
          have hst := step_row (⟨nm, adr, cap, l⟩ : SrcD) hown6 hg6 (fun s hs => (HF5.out s hs).alloc _) (srcFree_old HOLD.out (hB5.alloc hbase5 _) (fun q e => (HOV5.out q e).1))
          have HO6 := Lib.hid hst.1
          have HF6 := Lib.hid hst.2
          have hB6 : Below w.heap.size w w6 := (hB5.alloc hbase5 _).trans hb6
          clear hst hown6 hg6 hb6
          go_roundg (gk - 1)
          case measure => have := HK.out; omega
          case rel => exact ⟨k + 1, true, A6, c6, O5 ++ [(⟨nm, adr, cap, l⟩ : SrcD)], by go_num, rfl, by simp, Lib.hid (by have := HK.out; omega), by omega, Lib.hid (by simp only [if_true]; exact HE2.out), HO6, HF6, Lib.hid hB6, Lib.hid (fun _ => HD2.out), Lib.hid (newS_snoc HNS5.out (.inl HXM.out))⟩
        · have hc1 : sLt key nm = false := by simpa using hc
          have hc2 : Op.bytesLess key.toList nm.toList = false := hc1
          by_cases hq : nm = key
          · subst hq
            have hne2 : (nm.toList == nm.toList) = true := by rw [str_beq]; simp
            have HD2 : Hid (∀ s ∈ xs.drop (k + 1), s.name ≠ nm) := Lib.hid (fun s hs => HNX.out s hs)
            obtain ⟨Wb, hWb⟩ : ∃ Wb, Wb = wr.alloc (.cells #[.string nm, .slice adr l.length cap] 38) := ⟨_, rfl⟩
            have hbb : Below wr.heap.size wr Wb := by rw [hWb]; exact (Below.refl _ wr).alloc (Nat.le_refl _) _
            have hsb : Wb.heap.size = wr.heap.size + 1 := by rw [hWb]; simp
            have hbk : Wb.heap[wr.heap.size]? = some (.cells #[.string nm, .slice adr l.length cap] 38 (0, 0)) := by rw [hWb]; exact heap_alloc_new wr _
            have hri := rising_any adr cap l n Wb ((HOLD.out.below (HB.out.trans (hbb.mono hbase))).more (by omega)) (by have := HLX.out; simp only at this; omega)
            have HRI := Lib.hid hri
            have HBB := Lib.hid (And.intro hbb hsb)
            have HBK := Lib.hid hbk
            clear hri hbb hbk hsb hc hc1
            go_wp2_with fail
            rw [← hWb]
            refine Calls.mono HRI.out ?_
            rintro e w6 ⟨A6, c6, rfl, ho6, hb6⟩
            have hbk6 : w6.heap[wr.heap.size]? = some (.cells #[.string nm, .slice adr l.length cap] 38 (0, 0)) := (hb6.block _ (by have := HBB.out.2; omega)).trans HBK.out
            have z1 : w6.cell? ⟨wr.heap.size, 0, none⟩ = some (.string nm) := by rw [cell_of_row w6 _ _ _ _ _ hbk6]; rfl
            have z2 : w6.cell? ⟨wr.heap.size, 1, none⟩ = some (.slice adr l.length cap) := by rw [cell_of_row w6 _ _ _ _ _ hbk6]; rfl
            have z3 : w6.frozen? ⟨wr.heap.size, 0, none⟩ = false := frozen_block hbk6 0
            have z4 : w6.frozen? ⟨wr.heap.size, 1, none⟩ = false := frozen_block hbk6 1
            have HO6 := Lib.hid ho6
            have HB6 := Lib.hid hb6
            have HBK6 := Lib.hid hbk6
            clear ho6 hb6 hbk6
            go_upto_region 14 with fail
            obtain ⟨W7, hW7⟩ : ∃ W7, W7 = (w6.setCell ⟨wr.heap.size, 0, none⟩ (.string nm)).setCell ⟨wr.heap.size, 1, none⟩ (.slice A6 (risL n l).length c6) := ⟨_, rfl⟩
            have e7 : W7 = w6.setRow wr.heap.size #[.string nm, .slice A6 (risL n l).length c6] := by
              rw [hW7, setCell_eq_setRow w6 wr.heap.size 0 _ _ _ _ HBK6.out, setCell_eq_setRow _ wr.heap.size 1 _ _ _ _ (setRow_heap w6 _ _ _ _ _ HBK6.out), setRow_setRow]
              rfl
            have hk7 : Keeps (fun q => q = wr.heap.size) w6 W7 := by
              rw [e7]
              exact (Keeps.ofGrown (grown_setRow w6 wr.heap.size _)).mono (fun q _ e => by injection e)
            have hbk7 : W7.heap[wr.heap.size]? = some (.cells #[.string nm, .slice A6 (risL n l).length c6] 38 (0, 0)) := by rw [e7]; exact setRow_heap w6 _ _ _ _ _ HBK6.out
            have x1 : W7.cell? ⟨wr.heap.size, 0, none⟩ = some (.string nm) := by rw [cell_of_row W7 _ _ _ _ _ hbk7]; rfl
            have x2 : W7.cell? ⟨wr.heap.size, 1, none⟩ = some (.slice A6 (risL n l).length c6) := by rw [cell_of_row W7 _ _ _ _ _ hbk7]; rfl
            rw [← hW7]
            have hB17 : Below wr.heap.size wr W7 := (HBB.out.1.trans (HB6.out.mono HBB.out.1.size)).trans (hk7.toBelow (Nat.le_trans HBB.out.1.size HB6.out.size) (fun q e => Nat.le_of_eq e.symm))
            have hO7 : W7.ownsRow w.heap.size 38 2 (.slice A2 O.length c2) O.length (srcsC O) := (Keeps.ofBelow hB17 (fun _ => False)).own HO.out (fun _ _ e => e)
            have hF7 : ∀ s ∈ O, SrcFree W7 (Value.slice A2 O.length c2).ownBlock s := fun s hs => (HF.out s hs).grow (Grows.ofBelow _ hB17)
            have hN7 : SrcFree W7 (Value.slice A2 O.length c2).ownBlock (⟨nm, A6, c6, risL n l⟩ : SrcD) := (srcFree_own HO6.out (fun q e => by have := (HOV.out q e).2; have := HBB.out.2; omega) nm).keep hk7 (fun b' o' sp e1 e2 => by
              have h1 := (HO6.out.lt b' (by rw [show A6 = some ⟨b', o', sp⟩ from e1]; rfl)).1
              have := HBB.out.2
              omega)
            have hbase7 : w.heap.size ≤ W7.heap.size := Nat.le_trans hbase hB17.size
            have HE2 : Hid ((O ++ [(⟨nm, A6, c6, risL n l⟩ : SrcD)]).map plS ++ (xs.drop (k + 1)).map plS = T) := Lib.hid (by
              have := HEQ.out
              simp only [HDR.out, List.map_cons, putP] at this
              rw [if_neg (show ¬ sLt nm (plS (⟨nm, adr, cap, l⟩ : SrcD)).1 = true by show ¬ sLt nm nm = true; rw [sLt_irrefl]; simp), if_pos (show (plS (⟨nm, adr, cap, l⟩ : SrcD)).1 = nm from rfl)] at this
              simp only [Bool.false_eq_true, if_false] at this
              rw [← this]
              simp [plS])
            have HA6 : Hid (∀ b o sp, A6 = some ⟨b, o, sp⟩ → w.heap.size ≤ b) := Lib.hid (fun b' o' sp e1 => by
              have h1 := (HO6.out.lt b' (by rw [e1]; rfl)).1
              have := HBB.out.2
              omega)
            have HO7 := Lib.hid hO7
            have HF7 := Lib.hid hF7
            have HN7 := Lib.hid hN7
            have HB17 := Lib.hid hB17
            clear hW7 e7 hk7 hbk7 hB17 hO7 hF7 hN7 z1 z2 z3 z4
            go_wp2_with (at_builtin; refine wpList_append_oneG (W7) rfl _ _ _ rfl w.heap.size 38 (.agg #[.string ByteArray.empty, .slice none 0 0]) 2 40 Try.underlying26 src_info rfl (by decide) A2 O.length c2 _ rfl (HO7.out) [.string nm, .slice A6 (risL n l).length c6] rfl rfl (by intro u hu; simp at hu; rcases hu with rfl | rfl <;> rfl) (by omega) (by unfold maxLen; omega) hbase7 ?_; intro A8 c8 w8 hown8 hg8 hb8)
            have hst := step_row (⟨nm, A6, c6, risL n l⟩ : SrcD) hown8 hg8 HF7.out HN7.out
            have HO8 := Lib.hid hst.1
            have HF8 := Lib.hid hst.2
            have hB8 : Below w.heap.size w w8 := (HB.out.trans (HB17.out.mono hbase)).trans hb8
            clear hst hown8 hg8 hb8
            go_roundg (gk - 1)
            case measure => have := HK.out; omega
            case rel => exact ⟨k + 1, true, A8, c8, O ++ [(⟨nm, A6, c6, risL n l⟩ : SrcD)], by go_num, rfl, by simp, Lib.hid (by have := HK.out; omega), by omega, Lib.hid (by simp only [if_true]; exact HE2.out), HO8, HF8, Lib.hid hB8, Lib.hid (fun _ => HD2.out), Lib.hid (newS_snoc HNS.out (.inr HA6.out))⟩
          · have hne2 : (nm.toList == key.toList) = false := by rw [str_beq]; simpa using hq
            have HE2 : Hid ((O ++ [(⟨nm, adr, cap, l⟩ : SrcD)]).map plS ++ putP key n ((xs.drop (k + 1)).map plS) = T) := Lib.hid (by
              have := HEQ.out
              simp only [HDR.out, List.map_cons, putP] at this
              rw [if_neg (show ¬ sLt key (plS (⟨nm, adr, cap, l⟩ : SrcD)).1 = true from hc), if_neg (show ¬ (plS (⟨nm, adr, cap, l⟩ : SrcD)).1 = key from hq)] at this
              simp only [Bool.false_eq_true, if_false] at this
              rw [← this]
              simp)
            clear hc hc1
            go_wp2_with (at_builtin; refine wpList_append_oneG (wr.alloc (.cells #[.string nm, .slice adr l.length cap] 38)) rfl _ _ _ rfl w.heap.size 38 (.agg #[.string ByteArray.empty, .slice none 0 0]) 2 40 Try.underlying26 src_info rfl (by decide) A2 O.length c2 _ rfl (HO.out.alloc _) [.string nm, .slice adr l.length cap] (by rw [World.size_alloc]; rfl) rfl (by intro u hu; simp at hu; rcases hu with rfl | rfl <;> rfl) (by omega) (by unfold maxLen; omega) (by rw [World.size_alloc]; omega) ?_; intro A5 c5 w5 hown5 hg5 hb5)
            have hst := step_row (⟨nm, adr, cap, l⟩ : SrcD) hown5 hg5 (fun s hs => (HF.out s hs).alloc _) (srcFree_old HOLD.out (HB.out.alloc hbase _) (fun q e => (HOV.out q e).1))
            have HO5 := Lib.hid hst.1
            have HF5 := Lib.hid hst.2
            have hB5 : Below w.heap.size w w5 := (HB.out.alloc hbase _).trans hb5
            clear hst hown5 hg5 hb5
            go_roundg (gk - 1)
            case measure => have := HK.out; omega
            case rel => exact ⟨k + 1, false, A5, c5, O ++ [(⟨nm, adr, cap, l⟩ : SrcD)], by go_num, rfl, by simp, Lib.hid (by have := HK.out; omega), by omega, Lib.hid (by simpa using HE2.out), HO5, HF5, Lib.hid hB5, Lib.hid (fun e => by cases e), Lib.hid (newS_snoc HNS.out (.inl HXM.out))⟩
    · have hke : k = xs.length := by have := HK.out; omega
      cases d with
      | true =>
        have hE : O.map plS = T := by
          have := HEQ.out
          simp only [if_true, hke, List.drop_length, List.map_nil, List.append_nil] at this
          exact this
        have hrd := Reads.of_own HO.out
        have hall : SrcsAt wr wr.heap.size A2 O := ⟨hrd, fun s hs => (HF.out s hs).1⟩
        have HA := Lib.hid (HFIN.out A2 c2 O wr hall hE HB.out (fun b o sp e => (HO.out.lt b (by rw [e]; rfl)).1) HNS.out)
        clear hE hrd hall
        go_wp2_with fail
        go_ret2
        exact HA.out
      | false =>
        have hE : O.map plS ++ [(key, [n])] = T := by
          have := HEQ.out
          simp only [hke, List.drop_length, List.map_nil, putP] at this
          simpa using this
        have hov := HO.out.lt
        have hnew := srcFree_new wr (Value.slice A2 O.length c2).ownBlock (fun k e => (hov k e).2) key n 3
        have hall := fun s hs => (HF.out s hs).alloc (.cells #[.int .i64 n] 3)
        have hbn : Below w.heap.size w (wr.alloc (.cells #[.int .i64 n] 3)) := HB.out.alloc hbase _
        have HNEW := Lib.hid hnew
        have HALL := Lib.hid hall
        have HBN := Lib.hid hbn
        have HE := Lib.hid hE
        clear hE hov hnew hall hbn
        go_wp2_with (at_builtin; refine wpList_append_oneG (wr.alloc (.cells #[.int .i64 n] 3)) rfl _ _ _ rfl w.heap.size 38 (.agg #[.string ByteArray.empty, .slice none 0 0]) 2 40 Try.underlying26 src_info rfl (by decide) A2 O.length c2 _ rfl (HO.out.alloc _) [.string key, .slice (some ⟨wr.heap.size, 0, none⟩) 1 1] (by rw [World.size_alloc]; rfl) rfl (by intro u hu; simp at hu; rcases hu with rfl | rfl <;> rfl) (by omega) (by unfold maxLen; omega) (by rw [World.size_alloc]; omega) ?_; intro A5 c5 w5 hown5 hg5 hb5)
        have hS : SrcsAt w5 w5.heap.size A5 (O ++ [⟨key, some ⟨wr.heap.size, 0, none⟩, 1, [n]⟩]) := by
          refine ⟨?_, fun s hs => ?_⟩
          · have h9 := Reads.of_own hown5
            rw [srcsC_snoc, List.length_append]
            exact h9
          · rcases List.mem_append.1 hs with hs | hs
            · exact ((HALL.out s hs).grow hg5).1
            · simp at hs
              subst hs
              exact (HNEW.out.grow hg5).1
        have HA := Lib.hid (HFIN.out A5 c5 _ w5 hS (by rw [← HE.out, List.map_append]; rfl) (HBN.out.trans hb5) (fun b o sp e => (hown5.lt b (by rw [e]; rfl)).1) (fun s hs => by
          rcases List.mem_append.1 hs with hs | hs
          · exact HNS.out s hs
          · simp at hs
            subst hs
            exact .inr (fun b o sp e => by injection e with e; injection e with e1; omega)))
        rw [List.length_append] at HA
        clear hS hown5 hg5 hb5
        go_ret2
        exact HA.out
end Go.Proofs.Ytcladmcbhnmhiaa
