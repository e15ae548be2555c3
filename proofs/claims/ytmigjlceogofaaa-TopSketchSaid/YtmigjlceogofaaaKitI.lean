/- maps.Keys and slices.Collect in the words of MapIs and ownsRow (keys that are texts). Lemmas over any program. -/
import Derived.Test.YtmigjlceogofaaaKitR
import Derived.Test.YtmigjlceogofaaaKitZ
import Derived.Shelf.SlIter.Collect
import Derived.Shelf.SlIter.Nil
namespace Go.Proofs.Ytmigjlceogofaaa
open Go.ChangeShapes Go.WideShapes Go.ChangeAt Go.RowKit Go.Shelf Go.Sort Go.Proofs
set_option linter.unusedVariables false
set_option linter.unusedSimpArgs false
set_option linter.unusedSectionVars false

section
variable {κ υ : Type} [DecidableEq κ] {P : Program} {k : TypeId} {kf : κ → Value} {vf : υ → Value} {Ok : κ → Prop} {w w' : World} {b r : Nat} {l left : List (κ × υ)}
theorem RangeAt.walks (h : RangeAt w kf vf r (some b) left) (hk : KeepsWalks w w') : RangeAt w' kf vf r (some b) left := by
  obtain ⟨es, clock, since, seen, c0, h1, h2, h3, rest⟩ := h
  exact ⟨es, clock, since, seen, c0, hk.same _ _ h1 rfl, h2, hk.same _ _ h3 rfl, rest⟩
theorem RangeAt.iter_walk (h : RangeAt w kf vf r (some b) left) : ∃ o : Obj, w.heap[r]? = some o ∧ o.isWalk = true := by
  obtain ⟨es, clock, since, seen, c0, h1, h2, h3, rest⟩ := h
  exact ⟨_, h3, rfl⟩

theorem RangeAt.left_eq (h : RangeAt w kf vf r (some b) left) : w.rangeLeft b r = left.length := by
  obtain ⟨es, clock, since, seen, c0, h1, h2, h3, h4, h5, h6, h7⟩ := h
  have : (leftOf es seen).toList.length = left.length := by simpa using congrArg List.length h6
  unfold World.rangeLeft
  rw [h1, h3]
  simpa using this

variable {F : Fence} {n : Nat} {ops : Array Oper} {rest : List Oper} {o : Oper} {a : Act} {Q : Exit → Act → World → Prop}
theorem wpListIn_range_is (hg : o.guard = none) (m : Operand) (t : TypeId) (hop : o.op = Op.range t m) {e : TypeId} (ht : P.underlying t = some (.map k e)) (hm : a.eval m = .map (some b)) (h : MapIs w kf vf Ok b l)
    (hK : ∀ w', RangeAt w' kf vf w.heap.size (some b) l → Below w.heap.size w w' → w'.heap.size = w.heap.size + 1 → wpListIn F n P ops Q rest (a.put o.dst (.pointer (some ⟨w.heap.size, 0, none⟩))) w') :
    wpListIn F n P ops Q (o :: rest) a w := by
  refine wpListIn_plain hg fun K' hK' => ?_
  obtain ⟨w', hrun, r1, r2, r3⟩ := h.range (P := P) ht
  unfold Oper.wpIn
  refine ⟨by simp [Oper.about, hop], ?_⟩
  rw [Oper.semAt_plain F _ _ (by rw [hop]; intro c hc'; cases hc')]
  simp [execOp, hop, hm, hrun, Result.andThen]
  exact hK' _ _ (hK w' r1 r2 r3)
theorem wpListIn_next_is (hg : o.guard = none) (it : Operand) (hop : o.op = Op.next it false) {r : Nat} {mb : Option Nat} (hit : a.eval it = .pointer (some ⟨r, 0, none⟩)) (h : RangeAt w kf vf r mb left)
    (hDone : left = [] → wpListIn F n P ops Q rest (a.put o.dst (.tuple #[.bool false])) w)
    (hMore : ∀ (x : κ) (v : υ) (w' : World), (x, v) ∈ left → RangeAt w' kf vf r mb (mdel left x) → Keeps (fun k => k = r) w w' → w'.heap.size = w.heap.size → (Instr.entry (.pointer (some ⟨r, 0, none⟩))).run P w' = .ok (.tuple #[kf x, vf v]) w' →
      wpListIn F n P ops Q rest (a.put o.dst (.tuple #[.bool true, kf x, vf v])) w') :
    wpListIn F n P ops Q (o :: rest) a w := by
  refine wpListIn_plain hg fun K' hK' => ?_
  unfold Oper.wpIn
  refine ⟨by simp [Oper.about, hop], ?_⟩
  rw [Oper.semAt_plain F _ _ (by rw [hop]; intro c hc'; cases hc')]
  rcases h.next (P := P) o.type with ⟨h0, hrun⟩ | ⟨p, hp, w', hrun, hrg, hk, hsz, hen⟩
  · simp [execOp, hop, hit, hrun, Result.andThen]
    exact hK' _ _ (hDone h0)
  · simp [execOp, hop, hit, hrun, Result.andThen]
    exact hK' _ _ (hMore p.1 p.2 w' hp hrg hk hsz hen)
end

/-- A text of its bytes. -/
def mkS (x : List UInt8) : ByteArray := ⟨x.toArray⟩
theorem mkS_data (s : ByteArray) : mkS s.data.toList = s := rfl

section
variable {P : Program} {ρ : Ren} {υ : Type} {vf : υ → Value} {Ok : ByteArray → Prop}

set_option maxRecDepth 100000 in
set_option maxHeartbeats 1000000 in
/-- The iterator over a map's keys: each comes once. -/
theorem keysIs_in (L : SlLaysZ.n10 P ρ) (F : Fence) (n : Nat) (h10 : F.fn (ρ.f 10)) (hro : F.round = none) (hn : 1 ≤ n) (l Bm b : Nat) (S : List (ByteArray × υ)) (J : List (List UInt8) → World → Prop)
    (hY : ∀ pre x W, J pre W → pre.length < S.length → YieldAt F (n - 1) P l #[encStr x] W fun e W' => e = .returned (.bool true) ∧ J (pre ++ [x]) W' ∧ KeepsWalks W W')
    (W : World) (hJ : AbidesFrom W.heap.size J) (hm : W.cell? ⟨Bm, 0, none⟩ = some (.map (some b))) (hS : MapIs W (fun s : ByteArray => Value.string s) vf Ok b S) (h0 : J [] W) :
    CallsIn F n P (ρ.f 10) #[.func (.yield l) #[] #[], .pointer (some ⟨Bm, 0, none⟩)] W fun e W' => (∃ v, e = .returned v) ∧ ∃ ss : List (List UInt8), (ss.map mkS).Perm (S.map (·.1)) ∧ J ss W' := by
  have mixed := L.mixed; have t0 := L.t0; have a0 := L.a0; have z0 := L.z0; have v0 := L.v0; have t4 := L.t4; have a4 := L.a4; have z4 := L.z4; have v4 := L.v4; have t23 := L.t23; have a23 := L.a23; have z23 := L.z23; have v23 := L.v23; have t26 := L.t26; have a26 := L.a26; have z26 := L.z26; have v26 := L.v26; have t33 := L.t33; have a33 := L.a33; have z33 := L.z33; have v33 := L.v33
  have u0 := run_underlying L.t0; have u4 := run_underlying L.t4; have u23 := run_underlying L.t23; have u26 := run_underlying L.t26; have u33 := run_underlying L.t33
  obtain ⟨_, _, FG⟩ := L.f10
  refine callsIn_of_wp FG rfl h10 ?_ hro
  simp only [SlBodyZ.n10_ntmps ρ, List.size_toArray, List.length_cons, List.length_nil, Nat.reduceAdd, Nat.reduceSub, Array.replicate_succ, Array.replicate_zero, List.push_toArray, List.append_toArray, List.nil_append, List.cons_append]
  gi_wp2_with (first
    | (gi_at_range; refine wpListIn_range_is rfl _ (ρ.t 23) rfl L.t23 rfl hS ?_; intro w0 hrg0 hb0 hs0)
    | gi_in)
  go_frame
  gi_loopw [3] (fun _ wr => ∃ (left : List (ByteArray × υ)) (ss : List (List UInt8)), RangeAt wr (fun s : ByteArray => Value.string s) vf W.heap.size (some b) left ∧ Hid ((ss.map mkS ++ left.map (·.1)).Perm (S.map (·.1))) ∧ J ss wr)
    (fun _ wr => wr.rangeLeft b W.heap.size)
  case atStart =>
    exact ⟨S, [], hrg0, Lib.hid (by simp), hJ [] W w0 none h0 ⟨hb0.os, hb0.tape, hb0.output, hb0.size, fun k hk _ => hb0.block k hk⟩ (fun r e => by cases e)⟩
  case round =>
    obtain ⟨left, ss, hrg, HP, hJs⟩ := hrel
    gi_wp2_with (first
      | (gi_at_next; refine wpListIn_next_is rfl _ rfl rfl hrg ?_ ?_)
      | gi_in)
    · intro hl0
      subst hl0
      gi_wp2
      go_end0
      exact ⟨⟨_, rfl⟩, ss, by simpa using HP.out, hJs⟩
    · intro x v w2 hmem hrg2 hk2 hs2 hen
      have hg2 : wr.grownBy w2 (some W.heap.size) := hk2.toGrown (fun k _ e => by rw [e])
      have hJ2 : J ss w2 := hJ ss wr w2 (some W.heap.size) hJs hg2 (fun r e => by cases e; exact ⟨Nat.le_refl _, hrg.iter_walk⟩)
      have hperm := mdel_perm hrg.nodup hmem
      have HP2 : Hid (((ss ++ [x.data.toList]).map mkS ++ (mdel left x).map (·.1)).Perm (S.map (·.1))) := Lib.hid (by
        refine List.Perm.trans ?_ HP.out
        rw [List.map_append, List.append_assoc]
        refine List.Perm.append_left _ ?_
        have := (hperm.map (·.1)).symm
        simpa [mkS_data] using this)
      have hlen : ss.length < S.length := by
        have h1 := HP.out.length_eq
        have h2 := List.length_pos_of_mem hmem
        simp at h1
        omega
      obtain ⟨fn, tmps, assign, body, hy, hR⟩ := hY ss x.data.toList w2 hJ2 hlen
      have hx : encStr x.data.toList = Value.string x := rfl
      rw [hx] at hy
      have hm2 : (mdel left x).length < left.length := by have := mdel_len hrg.nodup (p := (x, v)) hmem; simp only at this; omega
      have HM2 := Lib.hid hm2
      clear hs2 hx hm2 hlen hperm
      gi_wp2
      refine hR.mono ?_
      rintro e W3 ⟨rfl, hJ3, hk3⟩
      gi_wp2
      have hrg3 := hrg2.walks hk3
      go_roundw
      case rel => exact ⟨_, ss ++ [x.data.toList], hrg3, HP2, hJ3⟩
      case measure => rw [hrg3.left_eq, hrg.left_eq]; exact HM2.out

theorem keysIs_gives (L : SlLaysZ.n10 P ρ) (F : Fence) (n : Nat) (h10 : F.fn (ρ.f 10)) (hro : F.round = none) (hn : 1 ≤ n) (Bm b : Nat) (S : List (ByteArray × υ)) (w : World) (hBm : Bm < w.heap.size) (hm : w.cell? ⟨Bm, 0, none⟩ = some (.map (some b))) (hS : MapIs w (fun s : ByteArray => Value.string s) vf Ok b S) :
    SeqGives F n P (ρ.f 10) #[.pointer (some ⟨Bm, 0, none⟩)] encStr (fun ss => (ss.map mkS).Perm (S.map (·.1))) S.length w := fun l J W hW hJ hY h0 =>
  keysIs_in L F n h10 hro hn l Bm b S J hY W hJ ((hW.cell (p := ⟨Bm, 0, none⟩) hBm).trans hm) (hS.below hW hS.lt) h0

/-- slices.Collect of what maps.Keys gives. -/
theorem collectKeys_any {ρ' : Ren} (L : SlLaysZ.n10 P ρ) (L8 : SlLaysZ.n8 P ρ') (eg : ∀ args w, (callFunc (ρ.f 10) args).run P w = .ok (.enter (ρ.f 10) args) w) (Bm b : Nat) (S : List (ByteArray × υ)) (w : World) (hBm : Bm < w.heap.size) (hm : w.cell? ⟨Bm, 0, none⟩ = some (.map (some b)))
    (hS : MapIs w (fun s : ByteArray => Value.string s) vf Ok b S) (hN : (S.length : Int) ≤ 1000000) :
    Calls P (ρ'.f 8) #[.func (.func (ρ.f 10)) #[] #[.pointer (some ⟨Bm, 0, none⟩)]] w fun e w' => ∃ A c ks, e = .returned (.slice A (List.length ks) c) ∧ ks.Perm (S.map (·.1)) ∧ w'.ownsRow w.heap.size (ρ'.t 26) 1 (.slice A ks.length c) ks.length (ks.map Value.string) ∧ Below w.heap.size w w' := by
  have hseq := keysIs_gives L Fence.wide (3 - 1 - 1) trivial rfl (by omega) Bm b S w hBm hm hS
  refine (callsIn_wide.1 (AnyZ.collect_in L8 Fence.wide 3 trivial trivial rfl (Nat.le_refl _) (ρ.f 10) #[.pointer (some ⟨Bm, 0, none⟩)] trivial eg _ S.length (by unfold maxLen; omega) (by omega) w hseq)).mono ?_
  rintro e w' ⟨v, ss, rfl, hP, hown, _, hb⟩
  obtain ⟨A, c, rfl⟩ := own_form hown
  refine ⟨A, c, ss.map mkS, by simp, hP, ?_, hb⟩
  have e1 : (ss.map mkS).map Value.string = ss.map encStr := by rw [List.map_map]; rfl
  rw [e1, List.length_map]
  exact hown
theorem mapsKeys_any (L : SlLaysZ.n7 P ρ) (mb : Option Nat) (w : World) :
    Calls P (ρ.f 7) #[.map mb] w fun e w' => e = .returned (.func (.func (ρ.f 10)) #[] #[.pointer (some ⟨w.heap.size, 0, none⟩)]) ∧ w' = w.alloc (.cells #[.map mb] (ρ.t 23)) :=
  callsIn_wide.1 (AnyZ.keys_in L Fence.wide 5 trivial rfl mb w)
end
end Go.Proofs.Ytmigjlceogofaaa
