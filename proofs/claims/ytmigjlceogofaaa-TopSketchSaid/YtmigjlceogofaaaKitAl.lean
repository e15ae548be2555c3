/- The iterator of maps.All for a loop body that may leave early, in the words of MapIs (texts to numbers). Each pair that comes is known to be one of the map's. Lemmas over any program. -/
import Derived.Test.YtmigjlceogofaaaKitI
import Derived.Test.YtmigjlceogofaaaKitL
import Derived.Shelf.SlIter.AllValues
import Derived.RangeFuncNested
import Derived.RangeFuncBound
import Derived.RangeFuncCalls
import Derived.RangeFuncLeaves
namespace Go.Proofs.Ytmigjlceogofaaa
open Go.ChangeShapes Go.WideShapes Go.ChangeAt Go.RowKit Go.Shelf Go.Sort Go.Proofs
set_option linter.unusedVariables false
set_option linter.unusedSimpArgs false
set_option linter.unusedSectionVars false

/-- A pair of a map's. -/
abbrev PairOf (S : List (ByteArray × Int)) := { p : ByteArray × Int // p ∈ S }
abbrev pairEncs (S : List (ByteArray × Int)) (x : PairOf S) : Array Value := #[.string x.1.1, .int .i64 x.1.2]
/-- What a round of the caller's keeps: maps and walks, all but one map that it may write. -/
structure KeepsBut (mb : Nat) (W W' : World) : Prop where
  size : W.heap.size ≤ W'.heap.size
  same : ∀ k o, W.heap[k]? = some o → o.isWalk = true → k ≠ mb → W'.heap[k]? = some o
theorem KeepsBut.trans {mb : Nat} {A B C : World} (h : KeepsBut mb A B) (k : KeepsBut mb B C) : KeepsBut mb A C := ⟨Nat.le_trans h.size k.size, fun i o hi ho hn => k.same i o (h.same i o hi ho hn) ho hn⟩
theorem KeepsBut.refl (mb : Nat) (W : World) : KeepsBut mb W W := ⟨Nat.le_refl _, fun _ _ h _ _ => h⟩
theorem KeepsBut.putObj (mb : Nat) (W : World) (l : Nat) (o o' : Obj) (ho : W.heap[l]? = some o) (hw : o.isWalk = false) : KeepsBut mb W (W.putObj l o') := by
  refine ⟨by simp [World.putObj], fun k p hk hp hn => ?_⟩
  by_cases e : k = l
  · subst e
    rw [ho] at hk
    injection hk with hk
    subst hk
    rw [hw] at hp
    cases hp
  · exact (World.putObj_heap_other e).trans hk
theorem KeepsBut.of_keeps {mb : Nat} {W W' : World} (h : Keeps (fun k => k = mb) W W') : KeepsBut mb W W' := ⟨h.size, fun k o hk _ hn => (h.block k (Array.getElem?_eq_some_iff.1 hk).1 hn).trans hk⟩
theorem RangeAt.but {κ υ : Type} [DecidableEq κ] {kf : κ → Value} {vf : υ → Value} {w w' : World} {b r mb : Nat} {left : List (κ × υ)} (h : RangeAt w kf vf r (some b) left) (hk : KeepsBut mb w w') (hr : r ≠ mb) (hb : b ≠ mb) : RangeAt w' kf vf r (some b) left := by
  obtain ⟨es, clock, since, seen, c0, h1, h2, h3, rest⟩ := h
  exact ⟨es, clock, since, seen, c0, hk.same _ _ h1 rfl hb, h2, hk.same _ _ h3 rfl hr, rest⟩
section
variable {P : Program} {ρ : Ren} {Ok : ByteArray → Prop}

set_option maxRecDepth 100000 in
set_option maxHeartbeats 1000000 in
theorem allIsS_in (L : SlLaysY.n8 P ρ) (F : Fence) (n : Nat) (h8 : F.fn (ρ.f 8)) (hro : F.round = none) (hn : 1 ≤ n) (l Bm b mb : Nat) (hbm : b ≠ mb) (S : List (ByteArray × Int)) (J Jx : List (PairOf S) → World → Prop)
    (hY : ∀ pre x W, J pre W → pre.length < S.length → YieldAt F (n - 1) P l (pairEncs S x) W fun e W' => (e = .returned (.bool true) ∧ J (pre ++ [x]) W' ∧ KeepsBut mb W W') ∨ (e = .returned (.bool false) ∧ Jx (pre ++ [x]) W'))
    (W : World) (hmW : mb < W.heap.size) (hJ : AbidesFrom W.heap.size J) (hm : W.cell? ⟨Bm, 0, none⟩ = some (.map (some b))) (hS : MapIs W strKf intVf Ok b S) (h0 : J [] W) :
    CallsIn F n P (ρ.f 8) #[.func (.yield l) #[] #[], .pointer (some ⟨Bm, 0, none⟩)] W fun e W' => (∃ v, e = .returned v) ∧ ((∃ ss : List (PairOf S), (ss.map (·.1)).Perm S ∧ J ss W') ∨ (∃ pre : List (PairOf S), True ∧ Jx pre W')) := by
  have mixed := L.mixed; have t0 := L.t0; have a0 := L.a0; have z0 := L.z0; have v0 := L.v0; have t3 := L.t3; have a3 := L.a3; have z3 := L.z3; have v3 := L.v3; have t4 := L.t4; have a4 := L.a4; have z4 := L.z4; have v4 := L.v4; have t23 := L.t23; have a23 := L.a23; have z23 := L.z23; have v23 := L.v23; have t27 := L.t27; have a27 := L.a27; have z27 := L.z27; have v27 := L.v27; have t34 := L.t34; have a34 := L.a34; have z34 := L.z34; have v34 := L.v34
  have u0 := run_underlying L.t0; have u3 := run_underlying L.t3; have u4 := run_underlying L.t4; have u23 := run_underlying L.t23; have u27 := run_underlying L.t27; have u34 := run_underlying L.t34
  obtain ⟨_, _, FG⟩ := L.f8
  refine callsIn_of_wp FG rfl h8 ?_ hro
  simp only [SlBodyY.n8_ntmps ρ, List.size_toArray, List.length_cons, List.length_nil, Nat.reduceAdd, Nat.reduceSub, Array.replicate_succ, Array.replicate_zero, List.push_toArray, List.append_toArray, List.nil_append, List.cons_append]
  gi_wp2_with (first
    | (gi_at_range; refine wpListIn_range_is rfl _ (ρ.t 23) rfl L.t23 rfl hS ?_; intro w0 hrg0 hb0 hs0)
    | gi_in)
  go_frame
  gi_loopw [3, 4] (fun _ _ wr => ∃ (left : List (ByteArray × Int)) (ss : List (PairOf S)), RangeAt wr strKf intVf W.heap.size (some b) left ∧ Hid ((ss.map (·.1) ++ left).Perm S) ∧ J ss wr)
    (fun _ _ wr => wr.rangeLeft b W.heap.size)
  case atStart =>
    exact ⟨S, [], hrg0, Lib.hid (by simp), hJ [] W w0 none h0 ⟨hb0.os, hb0.tape, hb0.output, hb0.size, fun k hk _ => hb0.block k hk⟩ (fun r e => by cases e)⟩
  case round =>
    obtain ⟨left, ss, hrg, HP, hJs⟩ := hrel
    gi_wp2_with (first
      | (gi_at_next; refine wpListIn_next_is rfl _ rfl rfl hrg ?_ ?_)
      | gi_in)
    · intro hl0
      subst hl0
      gi_wp2
      go_end0
      exact ⟨⟨_, rfl⟩, .inl ⟨ss, by simpa using HP.out, hJs⟩⟩
    · intro x v w2 hmem hrg2 hk2 hs2 hen
      have hg2 : wr.grownBy w2 (some W.heap.size) := hk2.toGrown (fun k _ e => by rw [e])
      have hJ2 : J ss w2 := hJ ss wr w2 (some W.heap.size) hJs hg2 (fun r e => by cases e; exact ⟨Nat.le_refl _, hrg.iter_walk⟩)
      have hperm := mdel_perm hrg.nodup hmem
      have hmS : (x, v) ∈ S := HP.out.subset (List.mem_append.2 (.inr hmem))
      have HP2 : Hid (((ss ++ [(⟨(x, v), hmS⟩ : PairOf S)]).map (·.1) ++ mdel left x).Perm S) := Lib.hid (by
        refine List.Perm.trans ?_ HP.out
        rw [List.map_append, List.append_assoc]
        refine List.Perm.append_left _ ?_
        exact hperm.symm)
      have hlen : ss.length < S.length := by
        have h1 := HP.out.length_eq
        have h2 := List.length_pos_of_mem hmem
        simp at h1
        omega
      obtain ⟨fn, tmps, assign, body, hy, hR⟩ := hY ss ⟨(x, v), hmS⟩ w2 hJ2 hlen
      dsimp only [pairEncs] at hy
      simp only [strKf, intVf] at hen
      have hm2 : (mdel left x).length < left.length := by have := mdel_len hrg.nodup (p := (x, v)) hmem; simp only at this; omega
      have HM2 := Lib.hid hm2
      clear hs2 hm2 hlen hperm
      gi_wp2
      refine hR.mono ?_
      rintro e W3 (⟨rfl, hJ3, hk3⟩ | ⟨rfl, hJx3⟩)
      · gi_wp2
        have hrg3 := hrg2.but hk3 (by omega) hbm
        go_roundw
        case rel => exact ⟨_, _, hrg3, HP2, hJ3⟩
        case measure => rw [hrg3.left_eq, hrg.left_eq]; exact HM2.out
      · gi_wp2
        refine bodyPost_ret (results_none rfl _ _ _) rfl ?_
        exact ⟨⟨_, rfl⟩, .inr ⟨_, trivial, hJx3⟩⟩

theorem allIs_stops (L : SlLaysY.n8 P ρ) (F : Fence) (n : Nat) (h8 : F.fn (ρ.f 8)) (hro : F.round = none) (hn : 1 ≤ n) (Bm b mb : Nat) (hbm : b ≠ mb) (S : List (ByteArray × Int)) (w : World) (hmw : mb < w.heap.size) (hBm : Bm < w.heap.size) (hm : w.cell? ⟨Bm, 0, none⟩ = some (.map (some b))) (hS : MapIs w strKf intVf Ok b S) :
    SeqStopsK F n P (ρ.f 8) #[.pointer (some ⟨Bm, 0, none⟩)] (pairEncs S) (KeepsBut mb) (fun ss => (ss.map (·.1)).Perm S) (fun _ => True) S.length w := fun l J Jx W hW hJ hJx hY h0 =>
  allIsS_in L F n h8 hro hn l Bm b mb hbm S J Jx hY W (by have := hW.size; omega) hJ ((hW.cell (p := ⟨Bm, 0, none⟩) hBm).trans hm) (hS.below hW hS.lt) h0
end
end Go.Proofs.Ytmigjlceogofaaa
