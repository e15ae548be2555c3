/- Proved: 'WindowFirstsSaid': for every width, adds, spec, end and n the statement WindowFirsts returns true, and its arguments read as before. No conditions. -/
import Derived.Test.YtcaglkefhbbnbaaRows
import Derived.Test.YtcaglkefhbbnbaaKitB
import Derived.Test.YtcaglkefhbbnbaaKitS
import Derived.ChangeMaps5
import Derived.Test.YtcaglkefhbbnbaaWtG
namespace Go.Proofs.Ytcaglkefhbbnbaa.windowFirsts
open Go.ChangeShapes Go.WideShapes Go.ChangeAt Go.RowKit Go.Joins
open Go.ChangeMaps (open_string)
set_option linter.unusedVariables false

theorem own : ownKnob Try.prog.godebug = none := by kernel_rfl
theorem laid : laidOutB Try.prog = true := by kernel_rfl
theorem cells_spec : Try.prog.cellsOf 23 = 2 := by kernel_rfl
theorem cells_add : Try.prog.cellsOf 41 = 3 := by kernel_rfl
theorem reads : ∀ t ∈ Try.f10.params.toList, Try.prog.readableRec t = true ∧ t < Try.prog.types.size := by
  have h : (Try.f10.params.toList.all fun t => Try.prog.readableRec t && decide (t < Try.prog.types.size)) = true := by kernel_rfl
  intro t ht
  have := List.all_eq_true.1 h t ht
  simpa using this

set_option maxRecDepth 100000 in
theorem lifted (os : Os) (started : os.Started) (H : Type) (enc : TypeId × Value → H) :
    ReturnsInHanded {} Try.checked os 10 .any (Rows.windowFirstsSpec.pre6 enc Try.prog Try.f10 Rows.windowFirstsRow.domain false) (Rows.windowFirstsSpec.post enc Try.prog Try.f10 false true false false) := by
  refine returnsInHanded_of_change (C := Try.checked) own started (by kernel_rfl) Try.func10
    (ChangeSpec.witness6 (enc := enc) (C := Try.checked) false ⟨#[], #[.int .i64 0, .slice none 0 0, .agg #[.int .i64 0, .int .i64 0], .int .i64 0, .int .i64 0], []⟩ 8 (by kernel_rfl) (by kernel_rfl) (by kernel_rfl) (by kernel_rfl)) ?_
  intro W base args ds gs before hval0 hW hcnd _
  have hval : ∀ (j : Nat) t v, Try.f10.params[j]? = some t → args[j]? = some v → Value.okWide Try.prog W .any base t v := hval0
  have hW' := hW
  obtain ⟨p, q, hA0, hV, rfl, hfz, hnd⟩ := hW
  have hA : DataW.TrodAll enc Try.prog W 0 (fun _ => true) true Try.f10.params.toList args.toList ds p := hA0
  rw [Try.params10] at hA hval
  obtain ⟨v0, vs0, d0, ds0, p0, q0, hargs, rfl, rfl, h0, r0⟩ := trodAll_cons hA
  obtain ⟨v1, vs1, d1, ds1, p1, q1, rfl, rfl, rfl, h1, r1⟩ := trodAll_cons r0
  obtain ⟨v2, vs2, d2, ds2, p2, q2, rfl, rfl, rfl, h2, r2⟩ := trodAll_cons r1
  obtain ⟨v3, vs3, d3, ds3, p3, q3, rfl, rfl, rfl, h3, r3⟩ := trodAll_cons r2
  obtain ⟨v4, vs4, d4, ds4, p4, q4, rfl, rfl, rfl, h4, r4⟩ := trodAll_cons r3
  obtain ⟨rfl, rfl, rfl⟩ := trodAll_nil r4
  obtain rfl : args = #[v0, v1, v2, v3, v4] := by cases args; simp_all
  obtain ⟨rfl, rfl⟩ := trodVars_none hV
  have hlt : ∀ x ∈ p0 ++ (p1 ++ (p2 ++ (p3 ++ (p4 ++ [])))), x.block < W.heap.size := fun x hx => by simpa using hW'.lt x (by simpa using hx)
  obtain ⟨a0, rfl, rfl, rfl, w0⟩ := open_int Try.underlying3 (hval 0 3 v0 rfl rfl) h0
  obtain ⟨A1, c1, l1, rfl, HA1, HL1⟩ := open_adds Try.underlying32 Try.underlying41 (by kernel_rfl) cells_add Try.underlying9 Try.underlying3 Try.underlying2 (hval 1 32 v1 rfl rfl) h1 (fun x hx => hlt x (by simp [hx]))
  have HN1 : (l1.length : Int) ≤ 9223372036854775807 := by simp only [maxLen] at HL1; omega
  obtain ⟨c2x, c2y, y2x, y2y, m2, rfl, rfl, rfl, hy2x, hy2y⟩ := open_agg2 Try.underlying23 (by kernel_rfl) cells_spec (hval 2 23 v2 rfl rfl) h2
  obtain ⟨s2a, e2a, rfl, w2a⟩ := DataW.trod_int Try.underlying3 hy2x
  obtain ⟨s2b, e2b, rfl, w2b⟩ := DataW.trod_int Try.underlying3 hy2y
  simp at e2a e2b
  subst e2a e2b
  obtain ⟨a3, rfl, rfl, rfl, w3⟩ := open_int Try.underlying3 (hval 3 3 v3 rfl rfl) h3
  obtain ⟨a4, rfl, rfl, rfl, w4⟩ := open_int Try.underlying3 (hval 4 3 v4 rfl rfl) h4
  clear hA0 hval0 hlt
  refine (wfirsts_walk a0 A1 c1 l1 s2a s2b a3 a4 W HA1 HN1 (bounds_i64 w4).2).mono fun e W' ⟨he, hb⟩ => ?_
  subst he
  exact ⟨_, rfl, law_post rfl hW' (by kernel_rfl) Try.underlying4 laid reads rfl rfl rfl hb⟩

theorem over : Rows.windowFirstsRow.holds Try.pinned (OpenSpec.ofChange Rows.windowFirstsSpec) :=
  OpenClaim.holds_of_wide 10 Try.f10 rfl rfl rfl rfl rfl rfl rfl ⟨rfl, rfl, rfl, rfl, rfl⟩ rfl rfl rfl rfl rfl (by kernel_rfl) Try.func10 (by kernel_rfl)
    (of_decide_eq_true (by kernel_rfl)) (by unfold Func.isWrapper; first | (rw [if_pos (by decide +kernel)]; kernel_rfl) | (rw [if_neg (by decide +kernel)]; exact ⟨rfl, rfl⟩))
    (fun os started H enc _ => lifted os started H enc)

theorem proved : Rows.WindowFirstsSaid := over
#print axioms proved
end Go.Proofs.Ytcaglkefhbbnbaa.windowFirsts
