/- slices.Clone in the words of Reads and ownsRow. Lemmas over any program. -/
import Derived.Test.YthbijemihaekiaaGreatDoorKitZ
import Derived.Shelf.SlicesE.Clone
namespace Go.Proofs.YthbijemihaekiaaGreatDoor
open Go.ChangeShapes Go.WideShapes Go.ChangeAt Go.RowKit Go.Shelf Go.Lib Go.Proofs
set_option linter.unusedVariables false
set_option linter.unusedSimpArgs false

section
variable {P : Program} {ρ : Ren}
theorem clone_any (L : SlLaysE0.n41 P ρ) {z : Value} {size bytes : Nat} (hinfo : (P.info? (ρ.t 23)).map (fun i => (i.zero, i.size, i.bytes)) = some (some z, size, bytes)) (hzs : z.cells.size = size) (hsz : 0 < size)
    (z23 : ∀ w, (Go.sizeOf (ρ.t 23)).run P w = .ok size w) (A : Option Addr) (B n c : Nat) (xs : List Value) (w : World) (hr : Reads w B size A n xs) (hn : n ≤ maxLen) (hbig : n * bytes ≤ 140737488355328) (h1 : ∀ u ∈ xs, u.oneCell' = true) (hA : ∀ b o sp, A = some ⟨b, o, sp⟩ → sp = none) :
    Calls P (ρ.f 41) #[.slice A n c] w fun e w' => ∃ A' c', e = .returned (.slice A' n c') ∧ w'.ownsRow w.heap.size (ρ.t 23) size (.slice A' n c') n xs ∧ Below w.heap.size w w' := by
  obtain ⟨i, hi, hz, hz1, hz2⟩ := info_parts hinfo
  cases A with
  | none =>
    have hn0 : n = 0 := by
      rcases Nat.eq_zero_or_pos n with h | h
      · exact h
      · obtain ⟨b, o, e, _⟩ := hr.2 h; cases e
    subst hn0
    have hx : xs = [] := by have := hr.1; simp at this; exact this
    subst hx
    refine (AnyE.slices_Clone_nil L 0 c w).mono ?_
    rintro e w' ⟨rfl, rfl⟩
    exact ⟨none, 0, rfl, ⟨by simp, .inl ⟨rfl, rfl⟩⟩, Below.refl _ _⟩
  | some ad =>
    obtain ⟨b, o, sp⟩ := ad
    obtain rfl := hA b o sp rfl
    refine (AnyE.slices_Clone L i z size bytes hi hz hz1 hz2 hzs hsz z23 b o n c xs w hr.1 hn hbig ?_ h1).mono ?_
    · intro j u hu
      have hj := (List.getElem?_eq_some_iff.1 hu).1
      have hpos : 0 < n := by
        rcases Nat.eq_zero_or_pos n with h | h
        · subst h; have := hr.1; simp at this; subst this; simp at hj
        · exact h
      obtain ⟨b', o', e, _, hc⟩ := hr.2 hpos
      injection e with e
      injection e with e1 e2
      subst e1 e2
      exact hc j u hu
    · rintro e w' ⟨v, rfl, ho, _, hb⟩
      obtain ⟨A', c', rfl⟩ := own_form ho
      exact ⟨A', c', rfl, ho, hb⟩

set_option maxHeartbeats 2000000 in
set_option maxRecDepth 100000 in
/-- slices.Clone of a row without elements, wherever it points. -/
theorem clone_zero (L : SlLaysE0.n41 P ρ) (i0 : TypeInfo) (z : Value) (size bytes : Nat) (hi : P.info? (ρ.t 23) = some i0) (hz0 : i0.zero = some z) (hz1 : i0.size = size) (hz2 : i0.bytes = bytes) (hzs : z.cells.size = size) (hsz : 0 < size)
    (z23 : ∀ w, (Go.sizeOf (ρ.t 23)).run P w = .ok size w) (ad : Addr) (c : Nat) (w : World) :
    Calls P (ρ.f 41) #[.slice (some ad) 0 c] w fun e w' => ∃ v', e = .returned v' ∧ w'.ownsRow w.heap.size (ρ.t 23) size v' 0 [] ∧ Below w.heap.size w w' := by
  have mixed := L.mixed; have t4 := L.t4; have a4 := L.a4; have z4 := L.z4; have v4 := L.v4; have t22 := L.t22; have a22 := L.a22; have z22 := L.z22; have v22 := L.v22
  have q22 : ∀ (w : World) (a : Option Addr) (n c n' c' : Nat), (binOp .eql (ρ.t 22) (.slice a n c) (.slice none n' c')).run P w = .ok (.bool a.isNone) w := fun w a n c n' c' => Lib.run_eql_slice_nil w _ _ a n c n' c' L.t22
  have u22 : ∀ w, Sem.run P (underlying (ρ.t 22)) w = .ok (TypeDesc.slice (ρ.t 23)) w := run_underlying t22
  obtain ⟨_, _, FG⟩ := L.f41
  go_enter FG, SlBodyN.n41_ntmps ρ
  go_wp2_with (at_builtin; refine wpList_append_own _ rfl _ _ (ρ.t 22) rfl w.heap.size (ρ.t 23) i0 z size bytes t22 hi hz0 hz1 hz2 hzs hsz _ _ _ rfl (World.ownsRow_made w #[] 0 (Nat.le_refl _) (Nat.zero_le _) (by simp)) ad 0 c [] rfl ?qc1 ?qc2 ?qc3 ?qc4 ?qc5 ?qc6 ?_)
  case qc1 => simp
  case qc2 => intro j u hj; simp at hj
  case qc3 => simp
  case qc4 => simp
  case qc5 => simp
  case qc6 => simp
  intro v' w1 hown hgrow hnil
  go_wp2
  go_ret
  refine ⟨v', rfl, by simpa using hown, ?_⟩
  exact ((Below.refl _ w).alloc (Nat.le_refl _) _).grown hgrow (by simp) (by intro k hk; simp [Value.ownBlock] at hk; omega)

theorem clone_all (L : SlLaysE0.n41 P ρ) {z : Value} {size bytes : Nat} (hinfo : (P.info? (ρ.t 23)).map (fun i => (i.zero, i.size, i.bytes)) = some (some z, size, bytes)) (hzs : z.cells.size = size) (hsz : 0 < size)
    (z23 : ∀ w, (Go.sizeOf (ρ.t 23)).run P w = .ok size w) (A : Option Addr) (B n c : Nat) (xs : List Value) (w : World) (hr : Reads w B size A n xs) (hn : n ≤ maxLen) (hbig : n * bytes ≤ 140737488355328) (h1 : ∀ u ∈ xs, u.oneCell' = true) :
    Calls P (ρ.f 41) #[.slice A n c] w fun e w' => ∃ A' c', e = .returned (.slice A' n c') ∧ w'.ownsRow w.heap.size (ρ.t 23) size (.slice A' n c') n xs ∧ Below w.heap.size w w' := by
  rcases Nat.eq_zero_or_pos n with h0 | h0
  · subst h0
    have hx : xs = [] := by have := hr.1; simp at this; exact this
    subst hx
    cases A with
    | none => exact clone_any L hinfo hzs hsz z23 none B 0 c [] w hr hn hbig h1 (fun b o sp e => by cases e)
    | some ad =>
      obtain ⟨i, hi, hz, hz1, hz2⟩ := info_parts hinfo
      refine (clone_zero L i z size bytes hi hz hz1 hz2 hzs hsz z23 ad c w).mono ?_
      rintro e w' ⟨v, rfl, ho, hb⟩
      obtain ⟨A', c', rfl⟩ := own_form ho
      exact ⟨A', c', rfl, ho, hb⟩
  · obtain ⟨b, o, rfl, _⟩ := hr.2 h0
    exact clone_any L hinfo hzs hsz z23 _ B n c xs w hr hn hbig h1 (fun b o sp e => by injection e with e; injection e with _ _ e; exact e.symm)
end
end Go.Proofs.YthbijemihaekiaaGreatDoor
