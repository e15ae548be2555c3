/- Keys that are structs of two fields. Lemmas over any program. -/
import Derived.Test.YtaollcpoibgblaaDoorKitM
import Derived.DeepKeys4
namespace Go.Proofs.YtaollcpoibgblaaDoor
open Go.ChangeShapes Go.WideShapes Go.ChangeAt Go.RowKit
set_option linter.unusedVariables false
set_option linter.unusedSimpArgs false

theorem keyOf_struct2 {P : Program} {k : TypeId} {f0 f1 : Field} (hu : P.underlying k = some (.struct #[f0, f1])) (hkt : P.keyType k = true) (a b : Value) (hf : (Value.agg #[a, b]).formed P k = true) (hc : P.cellsOf k = 2) (hn : (#[f0, f1] : Array Field).all (·.name != "_") = true)
    (o0 : f0.offset = 0) (o1 : f1.offset = 1) (c0 : P.cellsOf f0.type = 1) (c1 : P.cellsOf f1.type = 1) {m : Nat} (hs : P.types.size = m + 1)
    {l0 l1 : List Lit} (h0 : P.keyLits (m + 1) f0.type [a] = some l0) (h1 : P.keyLits (m + 1) f1.type [b] = some l1) : ∃ l, keyOf P k (.agg #[a, b]) = some l := by
  unfold keyOf
  rw [hu, hs]
  simp only [hkt, hf, Bool.and_self, if_true]
  have hq : P.keyLits (m + 1 + 1) k (Value.agg #[a, b]).cells.toList = some (l0 ++ l1) := by
    have hcl : (Value.agg #[a, b]).cells.toList = [a, b] := rfl
    rw [hcl]
    unfold Program.keyLits
    rw [hu]
    simp only [hc, hn, List.length_cons, List.length_nil, and_self, if_true]
    simp [List.mapM_cons, o0, o1, c0, c1, h0, h1]
  rw [hq]
  exact ⟨_, rfl⟩
theorem keyLits_str {P : Program} {t : TypeId} (hu : P.underlying t = some .string) {s : ByteArray} (hs : s.size ≤ maxLen) (d : Nat) : P.keyLits (d + 1) t [.string s] = some [.string s.data.toList] := by
  unfold Program.keyLits
  rw [hu]
  simp [hs]
theorem keyLits_i64 {P : Program} {t : TypeId} (hu : P.underlying t = some (.int .i64)) {n : Int} (h : (Lit.int .i64 n).wf = true) (d : Nat) : P.keyLits (d + 1) t [.int .i64 n] = some [.int .i64 n] := by
  unfold Program.keyLits
  rw [hu]
  simp [h]
end Go.Proofs.YtaollcpoibgblaaDoor
