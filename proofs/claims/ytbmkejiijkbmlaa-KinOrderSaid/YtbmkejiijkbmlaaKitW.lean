/- The iterator of maps.Keys for a loop body that may leave early, in the words of MapIs. Lemmas over any program. -/
import Derived.Test.YtbmkejiijkbmlaaKitI
import Derived.RangeFuncNested
import Derived.RangeFuncBound
import Derived.RangeFuncCalls
import Derived.RangeFuncLeaves
import Derived.RangeFuncBox
namespace Go.Proofs.Ytbmkejiijkbmlaa
open Go.ChangeShapes Go.WideShapes Go.ChangeAt Go.RowKit Go.Shelf Go.Sort Go.Proofs
set_option linter.unusedVariables false
set_option linter.unusedSimpArgs false
set_option linter.unusedSectionVars false
/-- A key of a map's. -/
abbrev KeyIn {υ : Type} (S : List (ByteArray × υ)) := { k : ByteArray // k ∈ S.map (·.1) }
section
variable {P : Program} {ρ : Ren} {υ : Type} {vf : υ → Value} {Ok : ByteArray → Prop}

set_option maxRecDepth 100000 in
set_option maxHeartbeats 1000000 in
/-- The iterator over a map's keys: each comes once; a body may leave early. -/
theorem keysIsS_in (L : SlLaysZ.n10 P ρ) (F : Fence) (n : Nat) (h10 : F.fn (ρ.f 10)) (hro : F.round = none) (hn : 1 ≤ n) (l Bm b : Nat) (S : List (ByteArray × υ)) (J Jx : List (List UInt8) → World → Prop)
    (hY : ∀ pre x W, J pre W → pre.length < S.length → YieldAt F (n - 1) P l #[encStr x] W fun e W' => (e = .returned (.bool true) ∧ J (pre ++ [x]) W' ∧ KeepsWalks W W') ∨ (e = .returned (.bool false) ∧ Jx (pre ++ [x]) W'))
    (W : World) (hJ : AbidesFrom W.heap.size J) (hm : W.cell? ⟨Bm, 0, none⟩ = some (.map (some b))) (hS : MapIs W (fun s : ByteArray => Value.string s) vf Ok b S) (h0 : J [] W) :
    CallsIn F n P (ρ.f 10) #[.func (.yield l) #[] #[], .pointer (some ⟨Bm, 0, none⟩)] W fun e W' => (∃ v, e = .returned v) ∧ ((∃ ss : List (List UInt8), (ss.map mkS).Perm (S.map (·.1)) ∧ J ss W') ∨ (∃ pre : List (List UInt8), True ∧ Jx pre W')) := by
  have mixed := L.mixed; have t0 := L.t0; have a0 := L.a0; have z0 := L.z0; have v0 := L.v0; have t4 := L.t4; have a4 := L.a4; have z4 := L.z4; have v4 := L.v4; have t23 := L.t23; have a23 := L.a23; have z23 := L.z23; have v23 := L.v23; have t26 := L.t26; have a26 := L.a26; have z26 := L.z26; have v26 := L.v26; have t33 := L.t33; have a33 := L.a33; have z33 := L.z33; have v33 := L.v33
  have u0 := run_underlying L.t0; have u4 := run_underlying L.t4; have u23 := run_underlying L.t23; have u26 := run_underlying L.t26; have u33 := run_underlying L.t33
  obtain ⟨_, _, FG⟩ := L.f10
  refine callsIn_of_wp FG rfl h10 ?_ hro
  simp only [SlBodyZ.n10_ntmps ρ, List.size_toArray, List.length_cons, List.length_nil, Nat.reduceAdd, Nat.reduceSub, Array.replicate_succ, Array.replicate_zero, List.push_toArray, List.append_toArray, List.nil_append, List.cons_append]
  gi_wp2_with (first
    | (gi_at_range; refine wpListIn_range_is rfl _ (ρ.t 23) rfl L.t23 rfl hS ?_; intro w0 hrg0 hb0 hs0)
    | gi_in)
  go_frame
  gi_loopw [3] (fun _ wr => ∃ (left : List (ByteArray × υ)) (ss : List (List UInt8)), RangeAt wr (fun s : ByteArray => Value.string s) vf W.heap.size (some b) left ∧ Hid ((ss.map mkS ++ left.map (·.1)).Perm (S.map (·.1))) ∧ J ss wr)
    (fun _ wr => wr.rangeLeft b W.heap.size)
  case atStart =>
    exact ⟨S, [], hrg0, Lib.hid (by simp), hJ [] W w0 none h0 ⟨hb0.os, hb0.tape, hb0.output, hb0.size, fun k hk _ => hb0.block k hk⟩ (fun r e => by cases e)⟩
  case round =>
    obtain ⟨left, ss, hrg, HP, hJs⟩ := hrel
    gi_wp2_with (first
      | (gi_at_next; refine wpListIn_next_is rfl _ rfl rfl hrg ?_ ?_)
      | gi_in)
    · intro hl0
      subst hl0
      gi_wp2
      go_end0
      exact ⟨⟨_, rfl⟩, .inl ⟨ss, by simpa using HP.out, hJs⟩⟩
    · intro x v w2 hmem hrg2 hk2 hs2 hen
      have hg2 : wr.grownBy w2 (some W.heap.size) := hk2.toGrown (fun k _ e => by rw [e])
      have hJ2 : J ss w2 := hJ ss wr w2 (some W.heap.size) hJs hg2 (fun r e => by cases e; exact ⟨Nat.le_refl _, hrg.iter_walk⟩)
      have hperm := mdel_perm hrg.nodup hmem
      have HP2 : Hid (((ss ++ [x.data.toList]).map mkS ++ (mdel left x).map (·.1)).Perm (S.map (·.1))) := Lib.hid (by
        refine List.Perm.trans ?_ HP.out
        rw [List.map_append, List.append_assoc]
        refine List.Perm.append_left _ ?_
        have := (hperm.map (·.1)).symm
        simpa [mkS_data] using this)
      have hlen : ss.length < S.length := by
        have h1 := HP.out.length_eq
        have h2 := List.length_pos_of_mem hmem
        simp at h1
        omega
      obtain ⟨fn, tmps, assign, body, hy, hR⟩ := hY ss x.data.toList w2 hJ2 hlen
      have hx : encStr x.data.toList = Value.string x := rfl
      rw [hx] at hy
      have hm2 : (mdel left x).length < left.length := by have := mdel_len hrg.nodup (p := (x, v)) hmem; simp only at this; omega
      have HM2 := Lib.hid hm2
      clear hs2 hx hm2 hlen hperm
      gi_wp2
      refine hR.mono ?_
      rintro e W3 (⟨rfl, hJ3, hk3⟩ | ⟨rfl, hJx3⟩)
      · gi_wp2
        have hrg3 := hrg2.walks hk3
        go_roundw
        case rel => exact ⟨_, ss ++ [x.data.toList], hrg3, HP2, hJ3⟩
        case measure => rw [hrg3.left_eq, hrg.left_eq]; exact HM2.out
      · gi_wp2
        refine bodyPost_ret (results_none rfl _ _ _) rfl ?_
        exact ⟨⟨_, rfl⟩, .inr ⟨ss ++ [x.data.toList], trivial, hJx3⟩⟩

theorem keysIs_stops (L : SlLaysZ.n10 P ρ) (F : Fence) (n : Nat) (h10 : F.fn (ρ.f 10)) (hro : F.round = none) (hn : 1 ≤ n) (Bm b : Nat) (S : List (ByteArray × υ)) (w : World) (hBm : Bm < w.heap.size) (hm : w.cell? ⟨Bm, 0, none⟩ = some (.map (some b))) (hS : MapIs w (fun s : ByteArray => Value.string s) vf Ok b S) :
    SeqStops F n P (ρ.f 10) #[.pointer (some ⟨Bm, 0, none⟩)] encStr (fun ss => (ss.map mkS).Perm (S.map (·.1))) (fun _ => True) S.length w := fun l J Jx W hW hJ hJx hY h0 =>
  keysIsS_in L F n h10 hro hn l Bm b S J Jx hY W hJ ((hW.cell (p := ⟨Bm, 0, none⟩) hBm).trans hm) (hS.below hW hS.lt) h0

set_option maxRecDepth 100000 in
set_option maxHeartbeats 1000000 in
/-- The iterator over a map's keys: each that comes is known to be one of the map's. -/
theorem keysInS_in (L : SlLaysZ.n10 P ρ) (F : Fence) (n : Nat) (h10 : F.fn (ρ.f 10)) (hro : F.round = none) (hn : 1 ≤ n) (l Bm b : Nat) (S : List (ByteArray × υ)) (J Jx : List (KeyIn S) → World → Prop)
    (hY : ∀ pre x W, J pre W → pre.length < S.length → YieldAt F (n - 1) P l #[Value.string x.1] W fun e W' => (e = .returned (.bool true) ∧ J (pre ++ [x]) W' ∧ KeepsWalks W W') ∨ (e = .returned (.bool false) ∧ Jx (pre ++ [x]) W'))
    (W : World) (hJ : AbidesFrom W.heap.size J) (hm : W.cell? ⟨Bm, 0, none⟩ = some (.map (some b))) (hS : MapIs W (fun s : ByteArray => Value.string s) vf Ok b S) (h0 : J [] W) :
    CallsIn F n P (ρ.f 10) #[.func (.yield l) #[] #[], .pointer (some ⟨Bm, 0, none⟩)] W fun e W' => (∃ v, e = .returned v) ∧ ((∃ ss : List (KeyIn S), (ss.map (·.1)).Perm (S.map (·.1)) ∧ J ss W') ∨ (∃ pre : List (KeyIn S), True ∧ Jx pre W')) := by
  have mixed := L.mixed; have t0 := L.t0; have a0 := L.a0; have z0 := L.z0; have v0 := L.v0; have t4 := L.t4; have a4 := L.a4; have z4 := L.z4; have v4 := L.v4; have t23 := L.t23; have a23 := L.a23; have z23 := L.z23; have v23 := L.v23; have t26 := L.t26; have a26 := L.a26; have z26 := L.z26; have v26 := L.v26; have t33 := L.t33; have a33 := L.a33; have z33 := L.z33; have v33 := L.v33
  have u0 := run_underlying L.t0; have u4 := run_underlying L.t4; have u23 := run_underlying L.t23; have u26 := run_underlying L.t26; have u33 := run_underlying L.t33
  obtain ⟨_, _, FG⟩ := L.f10
  refine callsIn_of_wp FG rfl h10 ?_ hro
  simp only [SlBodyZ.n10_ntmps ρ, List.size_toArray, List.length_cons, List.length_nil, Nat.reduceAdd, Nat.reduceSub, Array.replicate_succ, Array.replicate_zero, List.push_toArray, List.append_toArray, List.nil_append, List.cons_append]
  gi_wp2_with (first
    | (gi_at_range; refine wpListIn_range_is rfl _ (ρ.t 23) rfl L.t23 rfl hS ?_; intro w0 hrg0 hb0 hs0)
    | gi_in)
  go_frame
  gi_loopw [3] (fun _ wr => ∃ (left : List (ByteArray × υ)) (ss : List (KeyIn S)), RangeAt wr (fun s : ByteArray => Value.string s) vf W.heap.size (some b) left ∧ Hid ((ss.map (·.1) ++ left.map (·.1)).Perm (S.map (·.1))) ∧ J ss wr)
    (fun _ wr => wr.rangeLeft b W.heap.size)
  case atStart =>
    exact ⟨S, [], hrg0, Lib.hid (by simp), hJ [] W w0 none h0 ⟨hb0.os, hb0.tape, hb0.output, hb0.size, fun k hk _ => hb0.block k hk⟩ (fun r e => by cases e)⟩
  case round =>
    obtain ⟨left, ss, hrg, HP, hJs⟩ := hrel
    gi_wp2_with (first
      | (gi_at_next; refine wpListIn_next_is rfl _ rfl rfl hrg ?_ ?_)
      | gi_in)
    · intro hl0
      subst hl0
      gi_wp2
      go_end0
      exact ⟨⟨_, rfl⟩, .inl ⟨ss, by simpa using HP.out, hJs⟩⟩
    · intro x v w2 hmem hrg2 hk2 hs2 hen
      have hg2 : wr.grownBy w2 (some W.heap.size) := hk2.toGrown (fun k _ e => by rw [e])
      have hJ2 : J ss w2 := hJ ss wr w2 (some W.heap.size) hJs hg2 (fun r e => by cases e; exact ⟨Nat.le_refl _, hrg.iter_walk⟩)
      have hperm := mdel_perm hrg.nodup hmem
      have hmS : x ∈ S.map (·.1) := HP.out.subset (List.mem_append.2 (.inr (List.mem_map.2 ⟨_, hmem, rfl⟩)))
      have HP2 : Hid (((ss ++ [(⟨x, hmS⟩ : KeyIn S)]).map (·.1) ++ (mdel left x).map (·.1)).Perm (S.map (·.1))) := Lib.hid (by
        refine List.Perm.trans ?_ HP.out
        rw [List.map_append, List.append_assoc]
        refine List.Perm.append_left _ ?_
        have := (hperm.map (·.1)).symm
        simpa using this)
      have hlen : ss.length < S.length := by
        have h1 := HP.out.length_eq
        have h2 := List.length_pos_of_mem hmem
        simp at h1
        omega
      obtain ⟨fn, tmps, assign, body, hy, hR⟩ := hY ss ⟨x, hmS⟩ w2 hJ2 hlen
      dsimp only at hy
      have hm2 : (mdel left x).length < left.length := by have := mdel_len hrg.nodup (p := (x, v)) hmem; simp only at this; omega
      have HM2 := Lib.hid hm2
      clear hs2 hm2 hlen hperm
      gi_wp2
      refine hR.mono ?_
      rintro e W3 (⟨rfl, hJ3, hk3⟩ | ⟨rfl, hJx3⟩)
      · gi_wp2
        have hrg3 := hrg2.walks hk3
        go_roundw
        case rel => exact ⟨_, ss ++ [(⟨x, hmS⟩ : KeyIn S)], hrg3, HP2, hJ3⟩
        case measure => rw [hrg3.left_eq, hrg.left_eq]; exact HM2.out
      · gi_wp2
        refine bodyPost_ret (results_none rfl _ _ _) rfl ?_
        exact ⟨⟨_, rfl⟩, .inr ⟨ss ++ [(⟨x, hmS⟩ : KeyIn S)], trivial, hJx3⟩⟩

theorem keysIn_stops (L : SlLaysZ.n10 P ρ) (F : Fence) (n : Nat) (h10 : F.fn (ρ.f 10)) (hro : F.round = none) (hn : 1 ≤ n) (Bm b : Nat) (S : List (ByteArray × υ)) (w : World) (hBm : Bm < w.heap.size) (hm : w.cell? ⟨Bm, 0, none⟩ = some (.map (some b))) (hS : MapIs w (fun s : ByteArray => Value.string s) vf Ok b S) :
    SeqStopsK F n P (ρ.f 10) #[.pointer (some ⟨Bm, 0, none⟩)] (fun x : KeyIn S => #[Value.string x.1]) KeepsWalks (fun ss => (ss.map (·.1)).Perm (S.map (·.1))) (fun _ => True) S.length w := fun l J Jx W hW hJ hJx hY h0 =>
  keysInS_in L F n h10 hro hn l Bm b S J Jx hY W hJ ((hW.cell (p := ⟨Bm, 0, none⟩) hBm).trans hm) (hS.below hW hS.lt) h0
end
end Go.Proofs.Ytbmkejiijkbmlaa

/- A loop over an iterator that itself loops over an iterator: contract and law (the loop's body never leaves early). Lemmas over any program. -/
namespace Go.Proofs.Ytbmkejiijkbmlaa
open Go.RowKit Go.Shelf
set_option linter.unusedVariables false

/-- What an iterator gives to a body that always goes on: whatever the caller holds may lie beside any book-keeping of the iterator's own. -/
def SeqAll {α : Type} (F : Fence) (n : Nat) (P : Program) (g : Nat) (lb : Array Value) (encs : α → Array Value) (Kp : World → World → Prop) (S : List α → Prop) (N : Nat) (w : World) : Prop :=
  ∀ (l : Nat) (J : List α → World → Prop) (W : World), Below w.heap.size w W → w.heap.size + 2 ≤ W.heap.size → OwnFrom W.heap.size J →
    (∀ pre x W1, J pre W1 → pre.length < N → YieldAt F (n - 1) P l (encs x) W1 fun e W' => e = .returned (.bool true) ∧ J (pre ++ [x]) W' ∧ Kp W1 W') → J [] W →
    CallsIn F n P g (#[.func (.yield l) #[] #[]] ++ lb) W fun e W' => (∃ v, e = .returned v) ∧ ∃ xs, S xs ∧ J xs W'

/-- The one way out of a round. -/
def goesOn {α : Type} (B : Nat) (Kp : World → World → Prop) (I : List α → World → Prop) (xs : List α) (W : World) : Exit → Act → World → Prop
  | .normal, _, W' => KeepsFrom B W W' ∧ Kp W W' ∧ I xs W'
  | _, _, _ => False

section
variable {F : Fence} {n : Nat} {P : Program}
theorem wpIn_rangeFunc_all {α : Type} {g : Operand} {ps : Array Tmp} {assign body : Code} {Q : Exit → Act → World → Prop} {a : Act} {w : World}
    (hro : F.round = none) (h1 : 1 ≤ n) {gf : Nat} {lb : Array Value} (hg : a.eval g = .func (.func gf) #[] lb) (hFg : F.fn gf) (eg : ∀ args w, (callFunc gf args).run P w = .ok (.enter gf args) w)
    {encs : α → Array Value} {Kp : World → World → Prop} {S : List α → Prop} {N : Nat} (hseq : SeqAll F (n - 1) P gf lb encs Kp S N w)
    (hKt : ∀ {A B C : World}, Kp A B → Kp B C → Kp A C) (hKb : ∀ (W : World) (o o' : Obj), W.heap[w.heap.size + 1]? = some o → o.isCells = false → o.isWalk = false → Kp W (W.putObj (w.heap.size + 1) o')) (hps : ∀ x, (encs x).size = ps.size)
    (I : List α → World → Prop) (hI : OwnFrom w.heap.size I) (h0 : I [] w) (a₁ : α → Act)
    (hassign : ∀ (l : Nat) (x : α) (W : World) (K : Act → World → Prop), K (a₁ x) W →
      assign.wpIn (F.inRound l) (n - 1 - 1) P (Exit.then K (fun _ _ _ => False)) { tmps := (ps.zip (encs x)).foldl (fun t (p, v) => t.setIfInBounds p v) a.tmps, defers := [] } W)
    (hbody : ∀ (l : Nat) (pre : List α) (x : α) (W : World), I pre W → pre.length < N → body.wpIn (F.inRound l) (n - 1 - 1) P (goesOn w.heap.size Kp I (pre ++ [x]) W) (a₁ x) W)
    (hdone : ∀ (D : Nat) (xs : List α) (W : World), w.heap.size ≤ D → S xs → I xs W → W.heap[D]? = some (.deferred (some [])) → Q .normal { a with defers := { target := .collected D, args := #[] } :: a.defers } W) :
    (Code.rangeFunc g ps assign body).wpIn F n P Q a w := by
  refine wpIn_rangeFunc fun fn hfn => ?_
  rw [hro]
  obtain ⟨rec, hrec⟩ : ∃ rec : LoopState → Loop, rec = fun st => { state := st, pending := none, fn, tmps := a.tmps, params := ps, assign, body, defers := w.heap.size } := ⟨_, rfl⟩
  obtain ⟨z, hz⟩ : ∃ z, w.heap.size = z := ⟨_, rfl⟩
  obtain ⟨W1, hW1⟩ : ∃ W1, (w.alloc (.deferred (some []))).alloc (.loop (rec .ready)) = W1 := ⟨_, rfl⟩
  have hs1 : W1.heap.size = w.heap.size + 1 + 1 := by rw [← hW1]; simp
  have hL1 : W1.heap[w.heap.size + 1]? = some (.loop (rec .ready)) := by
    rw [← hW1]
    have := World.alloc_heap_new (w.alloc (.deferred (some []))) (.loop (rec .ready))
    rwa [World.size_alloc] at this
  have hK1 : W1.heap[w.heap.size]? = some (.deferred (some [])) := by
    rw [← hW1]; exact (Below.heap_alloc _ _ _ (by simp)).trans (World.alloc_heap_new w _)
  have hI1 : I [] W1 := by rw [← hW1]; exact hI.alloc _ (hI.alloc _ h0)
  have hb1 : Below w.heap.size w W1 := by
    rw [← hW1]; exact ((Below.refl _ w).alloc (Nat.le_refl _) _).alloc (by simp) _
  refine ⟨w.heap.size + 1, [{ target := .collected w.heap.size, args := #[] }], W1, { target := .fn (.func gf) lb, args := #[.func (.yield (w.heap.size + 1)) #[] #[]] }, W1, gf,
    #[.func (.yield (w.heap.size + 1)) #[] #[]] ++ lb, W1, ?_, ?_, ?_, ?_, fun _ => h1, ?_⟩
  · rw [← hW1, hrec]; exact run_enterLoop_outer _ _ _ _ _
  · simp only [resolve, hg]
    simp [go_sem]
  · intro f' hf'; simp [Target.leads] at hf'; subst hf'; exact hFg
  · simp [invoke, go_sem, eg]
  · have keep : ∀ {A B : World} {row : Option Nat} {k : Nat} {o : Obj}, A.grownBy B row → (∀ r, row = some r → W1.heap.size ≤ r ∧ ∃ o : Obj, A.heap[r]? = some o ∧ o.isCells = false) → k < W1.heap.size → A.heap[k]? = some o → B.heap[k]? = some o :=
      fun hg' hr hk ho => (hg'.block _ (Array.getElem?_eq_some_iff.1 ho).1 (fun e => by have := (hr _ e.symm).1; omega)).trans ho
    refine (hseq (w.heap.size + 1) (fun pre W => I pre W ∧ W.heap[w.heap.size + 1]? = some (.loop (rec .ready)) ∧ W.heap[w.heap.size]? = some (.deferred (some []))) W1 hb1 (by omega)
      (fun s A B row hs hg' hr => ⟨hI s A B row hs.1 hg' (fun r e => ⟨by have := (hr r e).1; omega, (hr r e).2⟩), keep hg' hr (by omega) hs.2.1, keep hg' hr (by omega) hs.2.2⟩) ?_ ⟨hI1, hL1, hK1⟩).mono ?_
    · rintro pre x W ⟨hi, hl, hk⟩ hlen
      have hlt : w.heap.size + 1 < W.heap.size := (Array.getElem?_eq_some_iff.1 hl).1
      have hy := run_yield (P := P) (args := encs x) hl (by rw [hrec]; exact hps x)
      rw [hrec] at hy
      refine ⟨fn, _, assign, body, hy, roundIn_of_wpIn hfn (hassign _ x W _ ⟨_, run_beginRound hl (by rw [hrec]), ?_⟩)⟩
      have hl2 : (W.putObj (w.heap.size + 1) (.loop { rec .ready with state := .busy })).heap[w.heap.size + 1]? = some (.loop { rec .ready with state := .busy }) := World.putObj_heap_same hlt
      have hk2 : (W.putObj (w.heap.size + 1) (.loop { rec .ready with state := .busy })).heap[w.heap.size]? = some (.deferred (some [])) := (World.putObj_heap_other (by omega)).trans hk
      have hw2 : Kp W (W.putObj (w.heap.size + 1) (.loop { rec .ready with state := .busy })) := hKb _ _ _ hl rfl rfl
      refine wpIn_mono (hbody _ pre x _ (hI.putObj _ hi (by omega) hl rfl) hlen) ?_
      rintro e a3 W3 hp
      cases e with
      | normal =>
        obtain ⟨hk3, hkp3, hi3⟩ := hp
        have hl3 := hk3.same _ _ (by omega) hl2 rfl
        have hr := run_endRound (P := P) none hl3
        rw [hrec] at hr hl3
        refine ⟨_, _, hr, rfl, ⟨hI.putObj _ hi3 (by omega) hl3 rfl, ?_, (World.putObj_heap_other (by omega)).trans (hk3.same _ _ (Nat.le_refl _) hk2 rfl)⟩, hKt (hKt hw2 hkp3) (hKb _ _ _ hl3 rfl rfl)⟩
        rw [hrec]
        exact World.putObj_heap_same (Array.getElem?_eq_some_iff.1 hl3).1
      | ret => exact hp.elim
      | exit id => exact hp.elim
      | goto t => exact hp.elim
      | panic ch => exact hp.elim
      | outgrown => exact hp.elim
    · rintro e W2 ⟨⟨v, rfl⟩, xs, hS, hi, hl, hk⟩
      exact ⟨none, _, by have := run_endLoop (P := P) hl (by rw [hrec]; simp); rw [hrec] at this; exact this, hdone _ xs _ (Nat.le_refl _) hS (hI.putObj _ hi (by omega) hl rfl) ((World.putObj_heap_other (by omega)).trans hk)⟩

/-! ### A round asked for in another loop's round -/
theorem roomE {F : Fence} (hd : F.depth = none) (k : Nat) : F.room k := fun d h => by rw [hd] at h; cases h
theorem roundInE {F : Fence} (hd : F.depth = none) {m m' : Nat} {P : Program} {l l2 : Nat} {f : FuncId} {tmps : Array Value} {assign body : Code} {w : World} {R : Ending → World → Prop}
    (h : RoundIn F m P l f tmps assign body w R) : RoundIn (F.inRound l2) m' P l f tmps assign body w R := ⟨h.1, fun c cs _ => h.2 c cs (roomE hd _)⟩

/-! ### What a body that collects keeps: told by the types of the cells -/
/-- Which objects stay: walks; what is no cells from B on; cells whose type is none of T. -/
def Stays (B : Nat) (T : TypeId → Prop) (k : Nat) (o : Obj) : Prop := o.isWalk = true ∨ (o.isCells = false ∧ B ≤ k) ∨ ∃ c t z, o = .cells c t z ∧ ¬ T t
structure KeepsTy (B : Nat) (T : TypeId → Prop) (W W' : World) : Prop where
  size : W.heap.size ≤ W'.heap.size
  same : ∀ k o, W.heap[k]? = some o → Stays B T k o → W'.heap[k]? = some o
theorem KeepsTy.refl (B : Nat) (T : TypeId → Prop) (W : World) : KeepsTy B T W W := ⟨Nat.le_refl _, fun _ _ h _ => h⟩
theorem KeepsTy.trans {B : Nat} {T : TypeId → Prop} {X Y Z : World} (h : KeepsTy B T X Y) (k : KeepsTy B T Y Z) : KeepsTy B T X Z := ⟨Nat.le_trans h.size k.size, fun i o hi ho => k.same i o (h.same i o hi ho) ho⟩
theorem KeepsTy.below {B : Nat} {T : TypeId → Prop} {W W' : World} (h : Below W.heap.size W W') : KeepsTy B T W W' := ⟨h.size, fun k o hk _ => (h.block k (Array.getElem?_eq_some_iff.1 hk).1).trans hk⟩
theorem KeepsTy.walks {B : Nat} {T : TypeId → Prop} {W W' : World} (h : KeepsTy B T W W') : KeepsWalks W W' := ⟨h.size, fun k o hk ho => h.same k o hk (.inl ho)⟩
theorem KeepsTy.keepsFrom {B B' : Nat} {T : TypeId → Prop} {W W' : World} (h : KeepsTy B T W W') (hB : B ≤ B') : KeepsFrom B' W W' := ⟨h.size, fun k o hk ho hc => h.same k o ho (.inr (.inl ⟨hc, by omega⟩))⟩
theorem KeepsTy.record {B : Nat} {T : TypeId → Prop} {W : World} {l : Nat} {o o' : Obj} (hl : l < B) (ho : W.heap[l]? = some o) (hc : o.isCells = false) (hw : o.isWalk = false) : KeepsTy B T W (W.putObj l o') := by
  refine ⟨by simp [World.putObj], fun k p hk hs => ?_⟩
  by_cases e : k = l
  · subst e
    rw [ho] at hk
    injection hk with hk
    subst hk
    rcases hs with h | ⟨h, h2⟩ | ⟨c, t, z, rfl, h⟩
    · rw [hw] at h; cases h
    · omega
    · cases hc
  · exact (World.putObj_heap_other e).trans hk
theorem ownFrom_keepsTy {β : Type} {B B' : Nat} {T : TypeId → Prop} {w₀ : World} (hB : w₀.heap.size ≤ B') : OwnFrom B' (fun (_ : β) W => KeepsTy B T w₀ W) :=
  fun _ X Y row hs hg hr => ⟨Nat.le_trans hs.size hg.size, fun k o hk ho => by
    have hX := hs.same k o hk ho
    refine (hg.block k (Array.getElem?_eq_some_iff.1 hX).1 (fun e => ?_)).trans hX
    have h1 := (hr k e.symm).1
    have h2 := (Array.getElem?_eq_some_iff.1 hk).1
    omega⟩
/-- 'out = append(out, ..)' in a round: what it keeps. -/
theorem Boxed.appendedTy {W w1 : World} {n₀ B B2 : Nat} {t e : TypeId} {size : Nat} {v v' : Value} {k : Nat} {xs : List Value} {tmp : Obj} {T : TypeId → Prop}
    (hv : Boxed W B t v) (hte : t ≠ e) (hrow : W.ownsRow n₀ e size v k xs) (hgrow : (W.alloc tmp).grownBy w1 v.ownBlock) (ht : T t) (he : T e) : KeepsTy B2 T W (w1.setCell ⟨B, 0, none⟩ v') := by
  refine ⟨by have := hgrow.size; simp [World.setCell] at this ⊢; omega, fun j o hj hs => ?_⟩
  have hjl := (Array.getElem?_eq_some_iff.1 hj).1
  have h1 : j ≠ B := by
    rintro rfl
    rw [show W.heap[j]? = _ from hv] at hj
    injection hj with hj
    subst hj
    rcases hs with h | ⟨h, _⟩ | ⟨c, t', z, h, hn⟩
    · cases h
    · cases h
    · injection h with _ h _; subst h; exact hn ht
  refine (Below.heap_setCell _ _ _ _ (by show j ≠ B; exact h1)).trans ((hgrow.block j (by simp; omega) (fun hh => ?_)).trans ((Below.heap_alloc W tmp j hjl).trans hj))
  rcases hrow.2 with ⟨rfl, _⟩ | ⟨g, cap, cur, rfl, _, hgb, _⟩
  · simp [Value.ownBlock] at hh
  · obtain rfl : g = j := by simpa [Value.ownBlock] using hh.symm
    rw [hgb] at hj
    injection hj with hj
    subst hj
    rcases hs with h | ⟨h, _⟩ | ⟨c, t', z, h, hn⟩
    · cases h
    · cases h
    · injection h with _ h _; subst h; exact hn he
end
end Go.Proofs.Ytbmkejiijkbmlaa
