/- Proved: 'DedupeBackSaid': any set's bytes are decoded to it, and it goes on as it would have, for any puts and any further puts; no condition -/
import Derived.Test.YtcladmcbhnmhiaaRows
import Derived.Test.YtcladmcbhnmhiaaKitB
import Derived.ChangeMaps5
import Derived.Test.YtcladmcbhnmhiaaDeL
namespace Go.Proofs.Ytcladmcbhnmhiaa.dedupeBack
open Go.ChangeShapes Go.WideShapes Go.ChangeAt Go.RowKit Go.Joins
open Go.ChangeMaps (open_string)
set_option linter.unusedVariables false

theorem own : ownKnob Try.prog.godebug = none := by kernel_rfl
theorem laid : laidOutB Try.prog = true := by kernel_rfl
theorem reads : ∀ t ∈ Try.f7.params.toList, Try.prog.readableRec t = true ∧ t < Try.prog.types.size := by
  have h : (Try.f7.params.toList.all fun t => Try.prog.readableRec t && decide (t < Try.prog.types.size)) = true := by kernel_rfl
  intro t ht
  have := List.all_eq_true.1 h t ht
  simpa using this

set_option maxRecDepth 100000 in
theorem lifted (os : Os) (started : os.Started) (H : Type) (enc : TypeId × Value → H) :
    ReturnsInHanded {} Try.checked os 7 .any (Rows.dedupeBackSpec.pre6 enc Try.prog Try.f7 Rows.dedupeBackRow.domain false) (Rows.dedupeBackSpec.post enc Try.prog Try.f7 false true false false) := by
  refine returnsInHanded_of_change (C := Try.checked) own started (by kernel_rfl) Try.func7
    (ChangeSpec.witness6 (enc := enc) (C := Try.checked) false ⟨#[], #[.slice none 0 0, .slice none 0 0], []⟩ 8 (by kernel_rfl) (by kernel_rfl) (by kernel_rfl) (by kernel_rfl)) ?_
  intro W base args ds gs before hval0 hW hcnd _
  have hval : ∀ (j : Nat) t v, Try.f7.params[j]? = some t → args[j]? = some v → Value.okWide Try.prog W .any base t v := hval0
  have hW' := hW
  obtain ⟨p, q, hA0, hV, rfl, hfz, hnd⟩ := hW
  have hA : DataW.TrodAll enc Try.prog W 0 (fun _ => true) true Try.f7.params.toList args.toList ds p := hA0
  rw [Try.params7] at hA hval
  obtain ⟨v0, vs0, d0, ds0, p0, q0, hargs, rfl, rfl, h0, r0⟩ := trodAll_cons hA
  obtain ⟨v1, vs1, d1, ds1, p1, q1, rfl, rfl, rfl, h1, r1⟩ := trodAll_cons r0
  obtain ⟨rfl, rfl, rfl⟩ := trodAll_nil r1
  obtain rfl : args = #[v0, v1] := by cases args; simp_all
  obtain ⟨rfl, rfl⟩ := trodVars_none hV
  have hlt : ∀ x ∈ p0 ++ (p1 ++ []), x.block < W.heap.size := fun x hx => by simpa using hW'.lt x (by simpa using hx)
  obtain ⟨A0, c0, l0, rfl, HA0, HL0, HX0, HC0⟩ := (dec_ops).open_slice Try.underlying22 (hval 0 22 v0 rfl rfl) h0 (fun x hx => hlt x (by simp [hx]))
  have HN0 : (l0.length : Int) ≤ 9223372036854775807 := by simp only [maxLen] at HL0; omega
  obtain ⟨A1, c1, l1, rfl, HA1, HL1, HX1, HC1⟩ := (dec_ops).open_slice Try.underlying22 (hval 1 22 v1 rfl rfl) h1 (fun x hx => hlt x (by simp [hx]))
  have HN1 : (l1.length : Int) ≤ 9223372036854775807 := by simp only [maxLen] at HL1; omega
  clear hA0 hval0 hlt
  refine (back_walk A0 c0 l0 A1 c1 l1 W ⟨HA0, HX0⟩ HN0 ⟨HA1, HX1⟩ HN1).mono fun e W' ⟨he, hb⟩ => ?_
  subst he
  exact ⟨_, rfl, law_post rfl hW' (by kernel_rfl) Try.underlying4 laid reads rfl rfl rfl hb⟩

theorem over : Rows.dedupeBackRow.holds Try.pinned (OpenSpec.ofChange Rows.dedupeBackSpec) :=
  OpenClaim.holds_of_wide 7 Try.f7 rfl rfl rfl rfl rfl rfl rfl ⟨rfl, rfl, rfl, rfl, rfl⟩ rfl rfl rfl rfl rfl (by kernel_rfl) Try.func7 (by kernel_rfl)
    (of_decide_eq_true (by kernel_rfl)) (by unfold Func.isWrapper; first | (rw [if_pos (by decide +kernel)]; kernel_rfl) | (rw [if_neg (by decide +kernel)]; exact ⟨rfl, rfl⟩))
    (fun os started H enc _ => lifted os started H enc)

theorem proved : Rows.DedupeBackSaid := over
#print axioms proved
end Go.Proofs.Ytcladmcbhnmhiaa.dedupeBack
