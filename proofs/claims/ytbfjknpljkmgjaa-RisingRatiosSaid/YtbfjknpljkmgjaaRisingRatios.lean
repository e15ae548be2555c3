/- Proved: 'RisingRatiosSaid': for every rise the statement RisingRatios returns true, and its argument reads as before. No conditions. -/
import Derived.Test.YtbfjknpljkmgjaaRows
import Derived.Test.YtbfjknpljkmgjaaKitB
import Derived.ChangeMaps5
import Derived.Test.YtbfjknpljkmgjaaRisF
namespace Go.Proofs.Ytbfjknpljkmgjaa.risingRatios
open Go.ChangeShapes Go.WideShapes Go.ChangeAt Go.RowKit Go.Joins
open Go.ChangeMaps (open_string)
set_option linter.unusedVariables false

theorem own : ownKnob Try.prog.godebug = none := by kernel_rfl
theorem laid : laidOutB Try.prog = true := by kernel_rfl
theorem reads : ∀ t ∈ Try.f4.params.toList, Try.prog.readableRec t = true ∧ t < Try.prog.types.size := by
  have h : (Try.f4.params.toList.all fun t => Try.prog.readableRec t && decide (t < Try.prog.types.size)) = true := by kernel_rfl
  intro t ht
  have := List.all_eq_true.1 h t ht
  simpa using this

set_option maxRecDepth 100000 in
theorem lifted (os : Os) (started : os.Started) (H : Type) (enc : TypeId × Value → H) :
    ReturnsInHanded {} Try.checked os 4 .any (Rows.risingRatiosSpec.pre6 enc Try.prog Try.f4 Rows.risingRatiosRow.domain false) (Rows.risingRatiosSpec.post enc Try.prog Try.f4 false true false false) := by
  refine returnsInHanded_of_change (C := Try.checked) own started (by kernel_rfl) Try.func4
    (ChangeSpec.witness6 (enc := enc) (C := Try.checked) false ⟨#[], #[.agg #[.string ⟨#[]⟩, .int .i64 0, .int .i64 0]], []⟩ 8 (by kernel_rfl) (by kernel_rfl) (by kernel_rfl) (by kernel_rfl)) ?_
  intro W base args ds gs before hval0 hW hcnd _
  have hval : ∀ (j : Nat) t v, Try.f4.params[j]? = some t → args[j]? = some v → Value.okWide Try.prog W .any base t v := hval0
  have hW' := hW
  obtain ⟨p, q, hA0, hV, rfl, hfz, hnd⟩ := hW
  have hA : DataW.TrodAll enc Try.prog W 0 (fun _ => true) true Try.f4.params.toList args.toList ds p := hA0
  rw [Try.params4] at hA hval
  obtain ⟨v0, vs0, d0, ds0, p0, q0, hargs, rfl, rfl, h0, r0⟩ := trodAll_cons hA
  obtain ⟨rfl, rfl, rfl⟩ := trodAll_nil r0
  obtain rfl : args = #[v0] := by cases args; simp_all
  obtain ⟨rfl, rfl⟩ := trodVars_none hV
  have hlt : ∀ x ∈ p0 ++ [], x.block < W.heap.size := fun x hx => by simpa using hW'.lt x (by simpa using hx)
  obtain ⟨c0x, c0y, c0z, y0x, y0y, y0z, m0, rfl, rfl, rfl, hy0x, hy0y, hy0z⟩ := open_agg3 Try.underlying34 (by kernel_rfl) (by kernel_rfl) (hval 0 34 v0 rfl rfl) h0
  obtain ⟨s0a, e0a, rfl, w0a⟩ := DataW.trod_string Try.underlying9 hy0x
  obtain ⟨s0b, e0b, rfl, w0b⟩ := DataW.trod_int Try.underlying2 hy0y
  obtain ⟨s0c, e0c, rfl, w0c⟩ := DataW.trod_int Try.underlying2 hy0z
  simp at e0a e0b e0c
  subst e0a e0b e0c
  clear hA0 hval0 hlt
  refine (ratios_walk s0a s0b s0c (bounds_i64 w0c).2 W).mono fun e W' ⟨he, hb⟩ => ?_
  subst he
  exact ⟨_, rfl, law_post rfl hW' (by kernel_rfl) Try.underlying4 laid reads rfl rfl rfl hb⟩

theorem over : Rows.risingRatiosRow.holds Try.pinned (OpenSpec.ofChange Rows.risingRatiosSpec) :=
  OpenClaim.holds_of_wide 4 Try.f4 rfl rfl rfl rfl rfl rfl rfl ⟨rfl, rfl, rfl, rfl, rfl⟩ rfl rfl rfl rfl rfl (by kernel_rfl) Try.func4 (by kernel_rfl)
    (of_decide_eq_true (by kernel_rfl)) (by unfold Func.isWrapper; first | (rw [if_pos (by decide +kernel)]; kernel_rfl) | (rw [if_neg (by decide +kernel)]; exact ⟨rfl, rfl⟩))
    (fun os started H enc _ => lifted os started H enc)

theorem proved : Rows.RisingRatiosSaid := over
#print axioms proved
end Go.Proofs.Ytbfjknpljkmgjaa.risingRatios
