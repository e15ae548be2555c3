/- A heavy as an object with a plain state; the contract of its Add. -/
import Derived.Test.YtmigjlceogofaaaHvP
import Derived.Test.YtmigjlceogofaaaKitO
namespace Go.Proofs.Ytmigjlceogofaaa
open Go.ChangeShapes Go.WideShapes Go.ChangeAt Go.RowKit Go.Shelf Go.Sort Go.Proofs
attribute [local go_sem] Oper.semAt_some
set_option linter.unusedVariables false
set_option linter.unusedSimpArgs false

/-- A heavy at hb, on the footprint F, is in the state s. -/
def HvO (w : World) (hb : Nat) (F : Nat → Prop) (s : HvS) : Prop :=
  ∃ cb S, HeavyAt w hb cb s.room s.added s.total s.slack S ∧ S.Perm s.S ∧ cb ≠ hb ∧ F = (fun k => k = hb ∨ k = cb) ∧ HvInv s
theorem HvO.inv {w : World} {hb : Nat} {F : Nat → Prop} {s : HvS} (h : HvO w hb F s) : HvInv s := by obtain ⟨_, _, _, _, _, _, h⟩ := h; exact h
theorem HvO.own (hb : Nat) (s : HvS) : Own1 (fun w F => HvO w hb F s) where
  keep := by
    rintro w w' F G ⟨cb, S, h, hp, hne, rfl, hi⟩ hk hd
    have hl : hb < w.heap.size := (Array.getElem?_eq_some_iff.1 h.blk).1
    exact ⟨cb, S, ⟨(hk.block hb hl (hd hb (.inl rfl))).trans h.blk, h.cnt.keep hk (hd cb (.inr rfl))⟩, hp, hne, rfl, hi⟩
  lt := by
    rintro w F ⟨cb, S, h, hp, hne, rfl, hi⟩ k (rfl | rfl)
    · exact (Array.getElem?_eq_some_iff.1 h.blk).1
    · exact h.cnt.lt
theorem HvO.below {w w' : World} {hb : Nat} {F : Nat → Prop} {s : HvS} (h : HvO w hb F s) (hb' : Below w.heap.size w w') : HvO w' hb F s := (HvO.own hb s).below h hb'

/-- What an add leaves: the answer, the new state, what it wrote. -/
def AddNew (w : World) (hb : Nat) (F : Nat → Prop) (s : HvS) (k : ByteArray) (n : Int) (e : Ending) (w' : World) : Prop :=
  e = .returned (.bool (hokB s k n)) ∧ ∃ F', HvO w' hb F' (addH s k n) ∧ Upd F w F' w'

theorem heavy_set {w : World} {hb : Nat} {a0 a1 a2 a3 a4 : Value} (h : w.heap[hb]? = some (.cells #[a0, a1, a2, a3, a4] 126 (0, 0))) :
    (∀ v, (w.setCell ⟨hb, 1, none⟩ v).heap[hb]? = some (.cells #[a0, v, a2, a3, a4] 126 (0, 0))) ∧ (∀ v, (w.setCell ⟨hb, 3, none⟩ v).heap[hb]? = some (.cells #[a0, a1, a2, v, a4] 126 (0, 0))) ∧ (∀ v, (w.setCell ⟨hb, 4, none⟩ v).heap[hb]? = some (.cells #[a0, a1, a2, a3, v] 126 (0, 0))) := by
  refine ⟨fun v => ?_, fun v => ?_, fun v => ?_⟩ <;> simp [World.setCell, Array.getElem?_modify, h]
theorem heavy_cells {w : World} {hb : Nat} {a0 a1 a2 a3 a4 : Value} (h : w.heap[hb]? = some (.cells #[a0, a1, a2, a3, a4] 126 (0, 0))) :
    (w.cell? ⟨hb, 0, none⟩ = some a0 ∧ w.cell? ⟨hb, 1, none⟩ = some a1 ∧ w.cell? ⟨hb, 2, none⟩ = some a2 ∧ w.cell? ⟨hb, 3, none⟩ = some a3 ∧ w.cell? ⟨hb, 4, none⟩ = some a4) ∧ w.frozen? ⟨hb, 1, none⟩ = false ∧ w.frozen? ⟨hb, 3, none⟩ = false ∧ w.frozen? ⟨hb, 4, none⟩ = false := by
  refine ⟨⟨?_, ?_, ?_, ?_, ?_⟩, ?_, ?_, ?_⟩ <;> simp [World.cell?, World.frozen?, h]

set_option maxRecDepth 20000 in
set_option maxHeartbeats 1000000 in
theorem hadd_not (hb : Nat) (F : Nat → Prop) (s : HvS) (k : ByteArray) (n : Int) (w : World) (h : HvO w hb F s) (hk : (k.size : Int) ≤ 4611686018427387904) (hno : hokB s k n = false) :
    Calls Try.prog 24 #[.pointer (some ⟨hb, 0, none⟩), .string k, .int .i64 n] w (AddNew w hb F s k n) := by
  have HH := Lib.hid h
  obtain ⟨cb, S, hA, hp, hne, rfl, hi⟩ := h
  obtain ⟨c0, c1, c2, c3, c4⟩ := hA.cells
  have fin : AddNew w hb (fun k => k = hb ∨ k = cb) s k n (.returned (.bool false)) w := by
    refine ⟨by rw [hno], _, ?_, Upd.refl _ _⟩
    unfold addH
    rw [if_neg (by rw [hno]; simp)]
    exact HH.out
  have FIN := Lib.hid fin
  have hx : ¬ ((1 : Int) ≤ k.size ∧ (k.size : Int) ≤ 24 ∧ 0 ≤ n ∧ n ≤ 1048576 ∧ s.added < 1048576) := fun e => by rw [hokB_iff.2 e] at hno; cases hno
  clear fin hA hp hno HH
  by_cases h1 : (k.size : Int) < 1
  · go_enter Try.func24, Try.ntmps24
    go_wp2
    go_ret
    exact FIN.out
  · by_cases h2 : 24 < (k.size : Int)
    · go_enter Try.func24, Try.ntmps24
      go_wp2
      go_ret
      exact FIN.out
    · by_cases h3 : n < 0
      · go_enter Try.func24, Try.ntmps24
        go_wp2
        go_ret
        exact FIN.out
      · by_cases h4 : 1048576 < n
        · go_enter Try.func24, Try.ntmps24
          go_wp2
          go_ret
          exact FIN.out
        · have h5 : (1048576 : Int) ≤ s.added := by omega
          clear hx
          go_enter Try.func24, Try.ntmps24
          go_wp2
          go_ret
          exact FIN.out

theorem hokB_add {s : HvS} {k : ByteArray} {n : Int} (h : hokB s k n = true) : addH s k n = ⟨s.room, s.added + 1, s.total + n, s.slack + cutC s.room (plusS s.S k n), cutS s.room (plusS s.S k n)⟩ := by unfold addH; rw [if_pos h]
theorem perm_plus {S T : CntrL} (h : S.Perm T) (hn : (S.map (·.1)).Nodup) (hp : PosS S) (k : ByteArray) {n : Int} (h0 : 0 ≤ n) : (plusS S k n).Perm (plusS T k n) := by
  have hT : (T.map (·.1)).Nodup := ((h.map (·.1)).nodup_iff).1 hn
  have pT : PosS T := fun p hp' => hp p (h.symm.subset hp')
  exact perm_of_low (plusS_nodup hn k n) (plusS_nodup hT k n) (plusS_pos hp k h0) (plusS_pos pT k h0) (fun x => by rw [lowV_plus, lowV_plus, lowV_perm h hn])

set_option maxRecDepth 20000 in
set_option maxHeartbeats 2000000 in
theorem hadd_zero (hb : Nat) (F : Nat → Prop) (s : HvS) (k : ByteArray) (w : World) (h : HvO w hb F s) (hok : hokB s k 0 = true) :
    Calls Try.prog 24 #[.pointer (some ⟨hb, 0, none⟩), .string k, .int .i64 0] w (AddNew w hb F s k 0) := by
  obtain ⟨cb, S, hA, hp, hne, rfl, hi⟩ := h
  obtain ⟨⟨c0, c1, c2, c3, c4⟩, f1, f3, f4⟩ := heavy_cells hA.blk
  obtain ⟨k1, k2, n0, n1, a1⟩ := hokB_iff.1 hok
  have hw1 : wrap64 (s.added + 1) = s.added + 1 := by have := hi.a0; have := hi.a1; unfold wrap64; omega
  have hw2 : wrap64 s.total = s.total := by have := hi.t0; have := hi.sl.2.2; unfold wrap64; omega
  have fin : ∀ W, W.heap[hb]? = some (.cells #[.int .i64 s.room, .int .i64 (s.added + 1), .map (some cb), .int .i64 s.total, .int .i64 s.slack] 126 (0, 0)) → Keeps (fun k => k = hb) w W → AddNew w hb (fun k => k = hb ∨ k = cb) s k 0 (.returned (.bool true)) W := by
    intro W hW hk
    refine ⟨by rw [hok], fun k => k = hb ∨ k = cb, ⟨cb, S, ?_, ?_, hne, rfl, addH_inv hi k 0⟩, hk.mono (fun k _ e => .inl e), fun k e => .inl e⟩
    · rw [hokB_add hok]
      have e1 : plusS s.S k 0 = s.S := by unfold plusS; rw [if_pos rfl]
      have e2 : cutC s.room s.S = 0 := by unfold cutC; rw [if_neg (by have := hi.len; omega)]
      refine ⟨?_, hA.cnt.keep hk hne⟩
      simp only [e1, e2, Int.add_zero]
      exact hW
    · rw [hokB_add hok]
      have e1 : plusS s.S k 0 = s.S := by unfold plusS; rw [if_pos rfl]
      have e2 : cutS s.room s.S = s.S := by unfold cutS; rw [if_neg (by have := hi.len; omega)]
      simp only [e1, e2]
      exact hp
  have FIN := Lib.hid fin
  have HB := Lib.hid hA.blk
  clear fin hp hok hA
  have b1 := (heavy_set HB.out).1 (.int .i64 (s.added + 1))
  obtain ⟨⟨d0, d1, d2, d3, d4⟩, g1, g3, g4⟩ := heavy_cells b1
  have hnc : (w.setCell ⟨hb, 1, none⟩ (.int .i64 (s.added + 1))).heap[hb]? = some (.cells #[.int .i64 s.room, .int .i64 (s.added + 1), .map (some cb), .int .i64 s.total, .int .i64 s.slack] 126 (0, 0)) := b1
  have b2 := (heavy_set hnc).2.1 (.int .i64 s.total)
  have B2 := Lib.hid b2
  clear b1 b2 hnc
  go_enter Try.func24, Try.ntmps24
  go_wp2
  go_ret
  exact FIN.out _ B2.out (((Keeps.refl (fun k => k = hb) w).setCell (p := ⟨hb, 1, none⟩) (.inr rfl) _).setCell (p := ⟨hb, 3, none⟩) (.inr rfl) _)

theorem plusS_ne {S : CntrL} {k : ByteArray} {n : Int} (h : n ≠ 0) : plusS S k n = mput S k (lowV S k + n) := by unfold plusS; rw [if_neg h]
theorem leastV_perm {S T : CntrL} (h : S.Perm T) (n : Int) : leastV S n = leastV T n := by
  have key : ∀ {S T : CntrL}, S.Perm T → leastV S n ≤ leastV T n := by
    intro S T h
    rcases leastV_mem T n with e | ⟨p, hp, e⟩
    · rw [e]; exact (leastV_le S n).1
    · rw [e]; exact (leastV_le S n).2 p (h.symm.subset hp)
  exact Int.le_antisymm (key h) (key h.symm)
theorem size_setCell (w : World) (p : Addr) (v : Value) : (w.setCell p v).heap.size = w.heap.size := by simp [World.setCell]
/-- The struct behind the two sums. -/
theorem heavy_two {w : World} {hb cb : Nat} {s : HvS} {S : CntrL} (hA : HeavyAt w hb cb s.room s.added s.total s.slack S) (hne : cb ≠ hb) (x y : Int) :
    HeavyAt ((w.setCell ⟨hb, 1, none⟩ (.int .i64 x)).setCell ⟨hb, 3, none⟩ (.int .i64 y)) hb cb s.room x y s.slack S ∧ Keeps (fun k => k = hb) w ((w.setCell ⟨hb, 1, none⟩ (.int .i64 x)).setCell ⟨hb, 3, none⟩ (.int .i64 y)) := by
  have hk : Keeps (fun k => k = hb) w ((w.setCell ⟨hb, 1, none⟩ (.int .i64 x)).setCell ⟨hb, 3, none⟩ (.int .i64 y)) := ((Keeps.refl (fun k => k = hb) w).setCell (p := ⟨hb, 1, none⟩) (.inr rfl) _).setCell (p := ⟨hb, 3, none⟩) (.inr rfl) _
  exact ⟨⟨(heavy_set ((heavy_set hA.blk).1 (.int .i64 x))).2.1 (.int .i64 y), hA.cnt.keep hk hne⟩, hk⟩

set_option maxRecDepth 20000 in
set_option maxHeartbeats 2000000 in
theorem hadd_few (hb : Nat) (F : Nat → Prop) (s : HvS) (k : ByteArray) (n : Int) (w : World) (h : HvO w hb F s) (hok : hokB s k n = true) (hn : n ≠ 0) (hlen : ((plusS s.S k n).length : Int) ≤ s.room) :
    Calls Try.prog 24 #[.pointer (some ⟨hb, 0, none⟩), .string k, .int .i64 n] w (AddNew w hb F s k n) := by
  obtain ⟨cb, S, hA, hp, hne, rfl, hi⟩ := h
  obtain ⟨⟨c0, c1, c2, c3, c4⟩, f1, f3, f4⟩ := heavy_cells hA.blk
  obtain ⟨k1, k2, n0, n1, a1⟩ := hokB_iff.1 hok
  have hSn : (S.map (·.1)).Nodup := hA.cnt.nodup
  have hSp : PosS S := fun p hp' => hi.pos p (hp.subset hp')
  have hlv : lowV S k = lowV s.S k := lowV_perm hp hSn k
  have hl1 := hi.low k
  have hl2 := hi.sl.2.2
  have ht0 := hi.t0
  have hpp : (plusS S k n).Perm (plusS s.S k n) := perm_plus hp hSn hSp k n0
  have hpl := hpp.length_eq
  rw [plusS_ne hn] at hpp hpl
  have hw1 : wrap64 (s.added + 1) = s.added + 1 := by have := hi.a0; have := hi.a1; unfold wrap64; omega
  have hw2 : wrap64 (s.total + n) = s.total + n := by unfold wrap64; omega
  have hw3 : wrap64 (lowV S k + n) = lowV S k + n := by rw [hlv]; unfold wrap64; omega
  obtain ⟨hA2, hK2⟩ := heavy_two hA hne (s.added + 1) (s.total + n)
  have hko : strOk k := by show k.size ≤ maxLen; unfold maxLen; omega
  have hlook := look_low hA2.cnt hko
  obtain ⟨W3, hrun, hM3, hK3, hz3⟩ := hA2.cnt.put strKey Try.underlying57 (x := k) hko (lowV S k + n)
  have hrun' : (Instr.mapUpdate 57 (.map (some cb)) (.string k) (.int .i64 (lowV S k + n))).run Try.prog ((w.setCell ⟨hb, 1, none⟩ (.int .i64 (s.added + 1))).setCell ⟨hb, 3, none⟩ (.int .i64 (s.total + n))) = .ok () W3 := hrun
  have hl2b : hb < ((w.setCell ⟨hb, 1, none⟩ (.int .i64 (s.added + 1))).setCell ⟨hb, 3, none⟩ (.int .i64 (s.total + n))).heap.size := (Array.getElem?_eq_some_iff.1 hA2.blk).1
  have hb3 := (hK3.block hb hl2b (fun e => hne e.symm)).trans hA2.blk
  obtain ⟨⟨e0, e1, e2, e3, e4⟩, -, -, -⟩ := heavy_cells hb3
  obtain ⟨⟨d0, d1, d2, d3, d4⟩, g1, g3, g4⟩ := heavy_cells ((heavy_set hA.blk).1 (.int .i64 (s.added + 1)))
  obtain ⟨⟨i0, i1, i2, i3, i4⟩, j1, j3, j4⟩ := heavy_cells hA2.blk
  have hlenr := fun m ty => (hM3.drewN m).len (P := Try.prog) Try.underlying57 (ty := ty)
  have hn' : (n == 0) = false := by simpa using hn
  have hcm : ¬ s.room < ((mput S k (lowV S k + n)).length : Int) := by rw [hpl]; omega
  have fin : ∀ W, (∃ q, W = W3.drewN q) → AddNew w hb (fun k => k = hb ∨ k = cb) s k n (.returned (.bool true)) W := by
    rintro W ⟨q, rfl⟩
    refine ⟨by rw [hok], fun k => k = hb ∨ k = cb, ⟨cb, mput S k (lowV S k + n), ?_, ?_, hne, rfl, addH_inv hi k n⟩, ?_, fun k e => .inl e⟩
    · rw [hokB_add hok]
      have e2 : cutC s.room (plusS s.S k n) = 0 := by unfold cutC; rw [if_neg (by omega)]
      simp only [e2, Int.add_zero]
      exact ⟨hb3, hM3⟩
    · rw [hokB_add hok]
      have e2 : cutS s.room (plusS s.S k n) = plusS s.S k n := by unfold cutS; rw [if_neg (by omega)]
      simp only [e2]
      exact hpp
    · exact ((hK2.mono (G := fun k => k = hb ∨ k = cb) (fun k _ e => .inl e)).trans hK3 (fun k _ e => .inr e)).drewN q
  have FIN := Lib.hid fin
  clear fin hA hA2 hM3 hb3 hok hp hpp hpl hSn hSp hi hlv hrun hK2 hK3 hl2b
  generalize (mput S k (lowV S k + n)).length = len at *
  generalize lowV S k = lv at *
  go_enter Try.func24, Try.ntmps24
  go_wp2_with fail
  go_quiet (fail)
  go_wp2
  go_ret
  exact FIN.out _ ⟨_, rfl⟩

set_option maxRecDepth 100000 in
set_option maxHeartbeats 4000000 in
theorem hadd_over (hb : Nat) (F : Nat → Prop) (s : HvS) (k : ByteArray) (n : Int) (w : World) (h : HvO w hb F s) (hok : hokB s k n = true) (hn : n ≠ 0) (hlen : s.room < ((plusS s.S k n).length : Int)) :
    Calls Try.prog 24 #[.pointer (some ⟨hb, 0, none⟩), .string k, .int .i64 n] w (AddNew w hb F s k n) := by
  refine (callsIn_wide (n := 8)).1 ?_
  obtain ⟨cb, S, hA, hp, hne, rfl, hi⟩ := h
  obtain ⟨⟨c0, c1, c2, c3, c4⟩, f1, f3, f4⟩ := heavy_cells hA.blk
  obtain ⟨k1, k2, n0, n1, a1⟩ := hokB_iff.1 hok
  have hSn : (S.map (·.1)).Nodup := hA.cnt.nodup
  have hSp : PosS S := fun p hp' => hi.pos p (hp.subset hp')
  have hlv : lowV S k = lowV s.S k := lowV_perm hp hSn k
  have hl1 := hi.low k
  have hl2 := hi.sl.2.2
  have ht0 := hi.t0
  have hpp : (plusS S k n).Perm (plusS s.S k n) := perm_plus hp hSn hSp k n0
  have hpl := hpp.length_eq
  rw [plusS_ne (S := S) hn] at hpp hpl
  have hw1 : wrap64 (s.added + 1) = s.added + 1 := by have := hi.a0; have := hi.a1; unfold wrap64; omega
  have hw2 : wrap64 (s.total + n) = s.total + n := by unfold wrap64; omega
  have hw3 : wrap64 (lowV S k + n) = lowV S k + n := by rw [hlv]; unfold wrap64; omega
  obtain ⟨hA2, hK2⟩ := heavy_two hA hne (s.added + 1) (s.total + n)
  have hko : strOk k := by show k.size ≤ maxLen; unfold maxLen; omega
  have hlook := look_low hA2.cnt hko
  obtain ⟨W3, hrun, hM3, hK3, hz3⟩ := hA2.cnt.put strKey Try.underlying57 (x := k) hko (lowV S k + n)
  have hrun' : (Instr.mapUpdate 57 (.map (some cb)) (.string k) (.int .i64 (lowV S k + n))).run Try.prog ((w.setCell ⟨hb, 1, none⟩ (.int .i64 (s.added + 1))).setCell ⟨hb, 3, none⟩ (.int .i64 (s.total + n))) = .ok () W3 := hrun
  have hl2b : hb < ((w.setCell ⟨hb, 1, none⟩ (.int .i64 (s.added + 1))).setCell ⟨hb, 3, none⟩ (.int .i64 (s.total + n))).heap.size := (Array.getElem?_eq_some_iff.1 hA2.blk).1
  have hb3 := (hK3.block hb hl2b (fun e => hne e.symm)).trans hA2.blk
  obtain ⟨⟨e0, e1, e2, e3, e4⟩, -, -, -⟩ := heavy_cells hb3
  obtain ⟨⟨d0, d1, d2, d3, d4⟩, g1, g3, g4⟩ := heavy_cells ((heavy_set hA.blk).1 (.int .i64 (s.added + 1)))
  obtain ⟨⟨i0, i1, i2, i3, i4⟩, j1, j3, j4⟩ := heavy_cells hA2.blk
  have hlenr := fun ty => hM3.drew.len (P := Try.prog) Try.underlying57 (ty := ty)
  have hn' : (n == 0) = false := by simpa using hn
  have hcm : s.room < ((mput S k (lowV S k + n)).length : Int) := by rw [hpl]; omega
  have HA3 : Hid (HeavyAt W3 hb cb s.room (s.added + 1) (s.total + n) s.slack (mput S k (lowV S k + n))) := Lib.hid ⟨hb3, hM3⟩
  have HK3 : Hid (Keeps (fun k => k = hb ∨ k = cb) w W3) := Lib.hid ((hK2.mono (G := fun k => k = hb ∨ k = cb) (fun k _ e => .inl e)).trans hK3 (fun k _ e => .inr e))
  have HPP := Lib.hid hpp
  have HOK := Lib.hid hok
  have HI := Lib.hid hi
  clear hA hA2 hM3 hb3 hok hp hpp hpl hSn hSp hi hlv hrun hK2 hK3 hl2b
  generalize mput S k (lowV S k + n) = S1 at *
  generalize lowV S k = lv at *
  refine callsIn_of_wp_marks Try.func24 rfl trivial ?_ rfl
  simp only [Try.ntmps24, List.size_toArray, List.length_cons, List.length_nil, Nat.reduceAdd, Nat.reduceSub, Array.replicate_succ, Array.replicate_zero, List.push_toArray, List.append_toArray, List.nil_append, List.cons_append]
  gi_wp2
  have hlen2 : decide (s.room < (S1.length : Int)) = true := by simpa using hcm
  gi_region
  gi_wp2
  obtain ⟨W4, hW4⟩ : ∃ W4, W4 = (W3.alloc (Obj.cells #[Value.int .i64 n] 2)).drew := ⟨_, rfl⟩
  have hz3' : W3.heap.size = w.heap.size := by rw [hz3, size_setCell, size_setCell]
  have hB4 : Below W3.heap.size W3 W4 := by rw [hW4]; exact ((Below.refl _ W3).alloc (Nat.le_refl _) _).drew
  have hz4 : W4.heap.size = w.heap.size + 1 := by rw [hW4, ← hz3']; simp [World.drew]
  have k4 : W4.heap[w.heap.size]? = some (Obj.cells #[Value.int .i64 n] 2) := by
    rw [hW4, ← hz3']
    exact heap_alloc_new W3 _
  have hblt : hb < w.heap.size := by rw [← hz3']; exact (Array.getElem?_eq_some_iff.1 HA3.out.blk).1
  have hcblt : cb < w.heap.size := by rw [← hz3']; exact HA3.out.cnt.lt
  have hA4 : HeavyAt W4 hb cb s.room (s.added + 1) (s.total + n) s.slack S1 := ⟨(hB4.block hb (by omega)).trans HA3.out.blk, HA3.out.cnt.below hB4 (by omega)⟩
  obtain ⟨q0, q1, q2, q3, q4⟩ := hA4.cells
  rw [← hW4]
  clear hW4 hz3
  refine ⟨trivial, (callsIn_wide.2 (each_any hb cb W4 q2)).mono ?_⟩
  rintro e w1 ⟨rfl, rfl⟩
  obtain ⟨W5, hW5⟩ : ∃ W5, W5 = W4.alloc (.cells #[.map (some cb)] 57) := ⟨_, rfl⟩
  have hB5 : Below W4.heap.size W4 W5 := by rw [hW5]; exact (Below.refl _ W4).alloc (Nat.le_refl _) _
  have hz5 : W5.heap.size = w.heap.size + 1 + 1 := by rw [hW5, ← hz4]; simp
  have k5 : W5.heap[w.heap.size + 1]? = some (.cells #[.map (some cb)] 57) := by
    rw [hW5, ← hz4]
    exact heap_alloc_new W4 _
  have b5 : W5.cell? ⟨w.heap.size + 1, 0, none⟩ = some (.map (some cb)) := by simp [World.cell?, k5]
  have hB45 : Below W3.heap.size W3 W5 := hB4.trans (hB5.mono hB4.size)
  have hS5 := hA4.cnt.below hB5 hA4.cnt.lt
  have k6 : W5.heap[w.heap.size]? = some (Obj.cells #[Value.int .i64 n] 2) := (hB5.block _ (by omega)).trans k4
  rw [← hW5]
  clear hW5
  rw [hz4]
  gi_wp2
  apply wpIn_rangeFunc_ownG (hro := rfl) (h1 := by omega) (gf := 121) (lb := #[.pointer (some ⟨w.heap.size + 1, 0, none⟩)]) (hg := rfl) (hFg := trivial) (eg := enters_of Try.func121 (by kernel_rfl) rfl)
    (hseq := allIs_stops (ρ := Try.allH_ren) { Try.allH with } Fence.wide _ trivial rfl (by omega) (w.heap.size + 1) cb w.heap.size (by omega) S1 W5 (by omega) (by omega) b5 hS5) (hKt := KeepsBut.trans) (hKb := fun W l o o' _ ho _ hw => KeepsBut.putObj _ W l o o' ho hw) (hb0 := Below.refl _ _) (hps := fun _ => rfl)
    (I := fun pre W => (W.heap[w.heap.size]? = some (Obj.cells #[Value.int .i64 (leastV (pre.map (·.1)) n)] 2)) ∧ Below W3.heap.size W3 W)
    (Ix := fun _ _ _ => False)
    (hI := OwnFrom.and (fun s A B row hs hg hr => (hg.block _ (Array.getElem?_eq_some_iff.1 hs).1 (fun e => by have := (hr _ e.symm).1; omega)).trans hs) (ownFrom_below (Nat.le_refl _) (by omega)))
    (hIx := fun _ _ _ _ _ hs _ _ => hs)
    (h0 := ⟨k6, hB45⟩)
  case hassign =>
    intro l x W K hK
    gi_wp2
    exact hK
  case hstop =>
    rintro D c pre W _ _ h _
    exact h.elim
  case hbody =>
    rintro l pre x W ⟨hbx, hB⟩ hlt
    have hc0 : W.cell? ⟨w.heap.size, 0, none⟩ = some (.int .i64 (leastV (pre.map (·.1)) n)) := by simp [World.cell?, hbx]
    have hf0 : W.frozen? ⟨w.heap.size, 0, none⟩ = false := by simp [World.frozen?, hbx]
    have hmin : leastV ((pre ++ [x]).map (·.1)) n = min (leastV (pre.map (·.1)) n) x.1.2 := by unfold leastV; rw [List.map_append, List.foldl_append]; rfl
    generalize leastV (pre.map (·.1)) n = v at *
    gi_wp2
    have hk : Keeps (fun j => j = w.heap.size) W (W.setCell ⟨w.heap.size, 0, none⟩ (.int .i64 (min v x.1.2))) := (Keeps.refl (fun j => j = w.heap.size) W).setCell (p := ⟨w.heap.size, 0, none⟩) (.inr rfl) _
    exact ⟨KeepsFrom.of_grownBy (hk.toGrown (fun j _ e => by rw [e])) (fun j e => by cases e; omega), KeepsBut.of_keeps hk, by
      rw [hmin]
      simp [World.setCell, Array.getElem?_modify, hbx], hB.trans (hk.toBelow hB.size (fun j e => by omega))⟩
  case hdone =>
    rintro D ys W hD hS ⟨hbx, hB⟩ hK
    have hc0 : W.cell? ⟨w.heap.size, 0, none⟩ = some (.int .i64 (leastV (ys.map (·.1)) n)) := by simp [World.cell?, hbx]
    generalize hv : leastV (ys.map (·.1)) n = v at *
    have HI' := HI.out
    have hperm : (ys.map (·.1)).Perm (plusS s.S k n) := hS.trans HPP.out
    have hvl : leastV (plusS s.S k n) n = v := by rw [← hv]; exact (leastV_perm hperm n).symm
    obtain ⟨hN, -⟩ := plus_nth HI' hlen
    rw [hvl] at hN
    have hpos : PosS (plusS s.S k n) := plusS_pos HI'.pos k n0
    have hrl : s.room.toNat < (plusS s.S k n).length := by have := HI'.r1; omega
    have hv0 := hN.pos hpos hrl
    have hsm := sumS_plus HI'.nd k n
    have hv1 := hN.le hpos
    have hsl := HI'.sl
    have hadd0 := HI'.a0
    have htt := HI'.t1
    have hss0 := HI'.s0
    have hAW : HeavyAt W hb cb s.room (s.added + 1) (s.total + n) s.slack S1 := ⟨(hB.block hb (by omega)).trans HA3.out.blk, HA3.out.cnt.below hB (by omega)⟩
    have hbd : ∀ p ∈ S1, 0 ≤ p.2 ∧ p.2 ≤ 1099511627776 := fun p hp' => by
      have h1 := HPP.out.subset hp'
      have h2 := hpos p h1
      have h3 := mem_le_sum hpos p h1
      omega
    have q := htake_any hb cb s.room (s.added + 1) (s.total + n) s.slack v S1 W hAW (by have := hB.size; omega) hne hbd (by omega) (by omega) hss0 (by omega)
    have Q := Lib.hid q
    have HAW := Lib.hid hAW
    clear q hbd hAW
    gi_wp2
    refine ⟨trivial, (callsIn_wide.2 Q.out).mono ?_⟩
    rintro e w1 ⟨rfl, cb', S', hA', hp', hcb', hk'⟩
    have hDl : D < W.heap.size := (Array.getElem?_eq_some_iff.1 hK).1
    have hKf : w1.heap[D]? = some (.deferred (some [])) := (hk'.block D hDl (by show ¬ D = hb; omega)).trans hK
    gi_wp2
    refine ⟨by simp, .inl ⟨_, _, rfl, run_takeDeferred hKf, ?_⟩⟩
    refine ⟨_, results_tmp rfl _ _ _, ?_⟩
    have hcb2 : cb' ≠ D := by omega
    have hcb3 : cb' ≠ hb := by have := hB.size; omega
    have hn1 := nthV_is hN
    have hzW := hB.size
    refine ⟨by rw [HOK.out]; rfl, fun j => j = hb ∨ j = cb', ⟨cb', S', ?_, ?_, hcb3, rfl, addH_inv HI' k n⟩, ?_, ?_⟩
    · rw [hokB_add HOK.out]
      have e2 : cutC s.room (plusS s.S k n) = v := by unfold cutC; rw [if_pos hlen, hn1]
      rw [e2]
      exact ⟨(World.putObj_heap_other (by show hb ≠ D; omega)).trans hA'.blk, hA'.cnt.of_block (World.putObj_heap_other hcb2)⟩
    · rw [hokB_add HOK.out]
      have e2 : cutS s.room (plusS s.S k n) = takeL (plusS s.S k n) v := by unfold cutS; rw [if_pos hlen, hn1]
      show S'.Perm (cutS s.room (plusS s.S k n))
      rw [e2]
      exact hp'.trans (takeL_perm HPP.out v)
    · have hkf : Keeps (fun j => j = hb ∨ j = cb) w w1 := (HK3.out.trans (Keeps.ofBelow hB (fun j => j = hb ∨ j = cb)) (fun j _ e => e)).trans hk' (fun j _ e => .inl e)
      exact ⟨hkf.os, hkf.tape, hkf.output, Nat.le_trans hkf.size (by simp [World.putObj]), fun j hj hn => (World.putObj_heap_other (by omega)).trans (hkf.block j hj hn)⟩
    · rintro j (e | e)
      · exact .inl (.inl e)
      · exact .inr (by omega)
theorem hadd_any (hb : Nat) (F : Nat → Prop) (s : HvS) (k : ByteArray) (n : Int) (w : World) (h : HvO w hb F s) (hk : (k.size : Int) ≤ 4611686018427387904) :
    Calls Try.prog 24 #[.pointer (some ⟨hb, 0, none⟩), .string k, .int .i64 n] w (AddNew w hb F s k n) := by
  by_cases hok : hokB s k n = true
  · by_cases hn : n = 0
    · subst hn
      exact hadd_zero hb F s k w h hok
    · by_cases hl : s.room < ((plusS s.S k n).length : Int)
      · exact hadd_over hb F s k n w h hok hn hl
      · exact hadd_few hb F s k n w h hok hn (by omega)
  · exact hadd_not hb F s k n w h hk (by simpa using hok)
end Go.Proofs.Ytmigjlceogofaaa
