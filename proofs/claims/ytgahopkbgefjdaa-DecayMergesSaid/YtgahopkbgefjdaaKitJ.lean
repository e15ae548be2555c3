/- maps.Keys and slices.Collect in the words of MapIs and ownsRow (keys that are numbers). Lemmas over any program. -/
import Derived.Test.YtgahopkbgefjdaaKitI
import Derived.Shelf.SlIterI.Collect
import Derived.Shelf.SlIterI.Nil
namespace Go.Proofs.Ytgahopkbgefjdaa
open Go.ChangeShapes Go.WideShapes Go.ChangeAt Go.RowKit Go.Shelf Go.Sort Go.Proofs
set_option linter.unusedVariables false
set_option linter.unusedSimpArgs false
set_option linter.unusedSectionVars false

section
variable {P : Program} {ρ : Ren} {υ : Type} {vf : υ → Value} {Ok : Int → Prop}

set_option maxRecDepth 100000 in
set_option maxHeartbeats 1000000 in
/-- The iterator over a map's keys: each comes once. -/
theorem keysIsI_in (L : SlLaysZI.n10 P ρ) (F : Fence) (n : Nat) (h10 : F.fn (ρ.f 10)) (hro : F.round = none) (hn : 1 ≤ n) (l Bm b : Nat) (S : List (Int × υ)) (J : List Int → World → Prop)
    (hY : ∀ pre x W, J pre W → pre.length < S.length → YieldAt F (n - 1) P l #[encZ x] W fun e W' => e = .returned (.bool true) ∧ J (pre ++ [x]) W' ∧ KeepsWalks W W')
    (W : World) (hJ : AbidesFrom W.heap.size J) (hm : W.cell? ⟨Bm, 0, none⟩ = some (.map (some b))) (hS : MapIs W (fun n : Int => Value.int .i64 n) vf Ok b S) (h0 : J [] W) :
    CallsIn F n P (ρ.f 10) #[.func (.yield l) #[] #[], .pointer (some ⟨Bm, 0, none⟩)] W fun e W' => (∃ v, e = .returned v) ∧ ∃ ss : List Int, (ss).Perm (S.map (·.1)) ∧ J ss W' := by
  have mixed := L.mixed; have t0 := L.t0; have a0 := L.a0; have z0 := L.z0; have v0 := L.v0; have t4 := L.t4; have a4 := L.a4; have z4 := L.z4; have v4 := L.v4; have t23 := L.t23; have a23 := L.a23; have z23 := L.z23; have v23 := L.v23; have t26 := L.t26; have a26 := L.a26; have z26 := L.z26; have v26 := L.v26; have t33 := L.t33; have a33 := L.a33; have z33 := L.z33; have v33 := L.v33
  have u0 := run_underlying L.t0; have u4 := run_underlying L.t4; have u23 := run_underlying L.t23; have u26 := run_underlying L.t26; have u33 := run_underlying L.t33
  obtain ⟨_, _, FG⟩ := L.f10
  refine callsIn_of_wp FG rfl h10 ?_ hro
  simp only [SlBodyZ.n10_ntmps ρ, List.size_toArray, List.length_cons, List.length_nil, Nat.reduceAdd, Nat.reduceSub, Array.replicate_succ, Array.replicate_zero, List.push_toArray, List.append_toArray, List.nil_append, List.cons_append]
  gi_wp2_with (first
    | (gi_at_range; refine wpListIn_range_is rfl _ (ρ.t 23) rfl L.t23 rfl hS ?_; intro w0 hrg0 hb0 hs0)
    | gi_in)
  go_frame
  gi_loopw [3] (fun _ wr => ∃ (left : List (Int × υ)) (ss : List Int), RangeAt wr (fun n : Int => Value.int .i64 n) vf W.heap.size (some b) left ∧ Hid ((ss ++ left.map (·.1)).Perm (S.map (·.1))) ∧ J ss wr)
    (fun _ wr => wr.rangeLeft b W.heap.size)
  case atStart =>
    exact ⟨S, [], hrg0, Lib.hid (by simp), hJ [] W w0 none h0 ⟨hb0.os, hb0.tape, hb0.output, hb0.size, fun k hk _ => hb0.block k hk⟩ (fun r e => by cases e)⟩
  case round =>
    obtain ⟨left, ss, hrg, HP, hJs⟩ := hrel
    gi_wp2_with (first
      | (gi_at_next; refine wpListIn_next_is rfl _ rfl rfl hrg ?_ ?_)
      | gi_in)
    · intro hl0
      subst hl0
      gi_wp2
      go_end0
      exact ⟨⟨_, rfl⟩, ss, by simpa using HP.out, hJs⟩
    · intro x v w2 hmem hrg2 hk2 hs2 hen
      have hg2 : wr.grownBy w2 (some W.heap.size) := hk2.toGrown (fun k _ e => by rw [e])
      have hJ2 : J ss w2 := hJ ss wr w2 (some W.heap.size) hJs hg2 (fun r e => by cases e; exact ⟨Nat.le_refl _, hrg.iter_walk⟩)
      have hperm := mdel_perm hrg.nodup hmem
      have HP2 : Hid ((ss ++ [x] ++ (mdel left x).map (·.1)).Perm (S.map (·.1))) := Lib.hid (by
        refine List.Perm.trans ?_ HP.out
        rw [List.append_assoc]
        refine List.Perm.append_left _ ?_
        have := (hperm.map (·.1)).symm
        simpa using this)
      have hlen : ss.length < S.length := by
        have h1 := HP.out.length_eq
        have h2 := List.length_pos_of_mem hmem
        simp at h1
        omega
      obtain ⟨fn, tmps, assign, body, hy, hR⟩ := hY ss x w2 hJ2 hlen
      have hx : encZ x = Value.int .i64 x := rfl
      rw [hx] at hy
      have hm2 : (mdel left x).length < left.length := by have := mdel_len hrg.nodup (p := (x, v)) hmem; simp only at this; omega
      have HM2 := Lib.hid hm2
      clear hs2 hx hm2 hlen hperm
      gi_wp2
      refine hR.mono ?_
      rintro e W3 ⟨rfl, hJ3, hk3⟩
      gi_wp2
      have hrg3 := hrg2.walks hk3
      go_roundw
      case rel => exact ⟨_, ss ++ [x], hrg3, HP2, hJ3⟩
      case measure => rw [hrg3.left_eq, hrg.left_eq]; exact HM2.out

theorem keysIsI_gives (L : SlLaysZI.n10 P ρ) (F : Fence) (n : Nat) (h10 : F.fn (ρ.f 10)) (hro : F.round = none) (hn : 1 ≤ n) (Bm b : Nat) (S : List (Int × υ)) (w : World) (hBm : Bm < w.heap.size) (hm : w.cell? ⟨Bm, 0, none⟩ = some (.map (some b))) (hS : MapIs w (fun n : Int => Value.int .i64 n) vf Ok b S) :
    SeqGives F n P (ρ.f 10) #[.pointer (some ⟨Bm, 0, none⟩)] encZ (fun ss => (ss).Perm (S.map (·.1))) S.length w := fun l J W hW hJ hY h0 =>
  keysIsI_in L F n h10 hro hn l Bm b S J hY W hJ ((hW.cell (p := ⟨Bm, 0, none⟩) hBm).trans hm) (hS.below hW hS.lt) h0

/-- slices.Collect of what maps.Keys gives. -/
theorem collectKeysI_any {ρ' : Ren} (L : SlLaysZI.n10 P ρ) (L8 : SlLaysZI.n8 P ρ') (eg : ∀ args w, (callFunc (ρ.f 10) args).run P w = .ok (.enter (ρ.f 10) args) w) (Bm b : Nat) (S : List (Int × υ)) (w : World) (hBm : Bm < w.heap.size) (hm : w.cell? ⟨Bm, 0, none⟩ = some (.map (some b)))
    (hS : MapIs w (fun n : Int => Value.int .i64 n) vf Ok b S) (hN : (S.length : Int) ≤ 1000000) :
    Calls P (ρ'.f 8) #[.func (.func (ρ.f 10)) #[] #[.pointer (some ⟨Bm, 0, none⟩)]] w fun e w' => ∃ A c ks, e = .returned (.slice A (List.length ks) c) ∧ ks.Perm (S.map (·.1)) ∧ w'.ownsRow w.heap.size (ρ'.t 26) 1 (.slice A ks.length c) ks.length (ks.map (Value.int .i64)) ∧ Below w.heap.size w w' := by
  have hseq := keysIsI_gives L Fence.wide (3 - 1 - 1) trivial rfl (by omega) Bm b S w hBm hm hS
  refine (callsIn_wide.1 (AnyZI.collect_in L8 Fence.wide 3 trivial trivial rfl (Nat.le_refl _) (ρ.f 10) #[.pointer (some ⟨Bm, 0, none⟩)] trivial eg _ S.length (by unfold maxLen; omega) (by omega) w hseq)).mono ?_
  rintro e w' ⟨v, ss, rfl, hP, hown, _, hb⟩
  obtain ⟨A, c, rfl⟩ := own_form hown
  refine ⟨A, c, ss, by simp, hP, ?_, hb⟩
  exact hown
theorem mapsKeysI_any (L : SlLaysZI.n7 P ρ) (mb : Option Nat) (w : World) :
    Calls P (ρ.f 7) #[.map mb] w fun e w' => e = .returned (.func (.func (ρ.f 10)) #[] #[.pointer (some ⟨w.heap.size, 0, none⟩)]) ∧ w' = w.alloc (.cells #[.map mb] (ρ.t 23)) :=
  callsIn_wide.1 (AnyZI.keys_in L Fence.wide 5 trivial rfl mb w)
end
end Go.Proofs.Ytgahopkbgefjdaa
