/- Baskets in memory: the key of two texts, a map that is emptied, the object. -/
import Derived.Test.YtaollcpoibgblaaDoorKitM
import Derived.Test.YtaollcpoibgblaaDoorKitKs
import Derived.Test.YtaollcpoibgblaaDoorKitK
import Derived.Test.YtaollcpoibgblaaDoorKitL
import Derived.Test.YtaollcpoibgblaaDoorTbP
namespace Go.Proofs.YtaollcpoibgblaaDoor
open Go.ChangeShapes Go.WideShapes Go.ChangeAt Go.RowKit
open Go.ChangeMaps (setBlock)
set_option linter.unusedVariables false
set_option linter.unusedSimpArgs false

theorem MapIs.clear {κ υ : Type} [DecidableEq κ] {P : Program} {kf : κ → Value} {vf : υ → Value} {Ok : κ → Prop} {w : World} {b : Nat} {l : List (κ × υ)} (h : MapIs w kf vf Ok b l) {t k e : TypeId} (ht : P.underlying t = some (.map k e)) :
    ∃ w', (∀ ty, (Builtin.clear_ #[t] ty #[.map (some b)]).run P w = .ok (.tuple #[]) w') ∧ MapIs w' kf vf Ok b [] ∧ Keeps (fun k => k = b) w w' ∧ w'.heap.size = w.heap.size := by
  have hlt := h.lt
  obtain ⟨es, clock, hb, _⟩ := h
  refine ⟨setBlock w b (.map #[] clock), ?_, ?_, Keeps.setBlock_ _ _ _, size_setBlock _⟩
  · intro ty
    simp [Builtin.clear_, run_underlying ht, MapKept.run_getObj_map hb, MapKept.run_setObj_map _ hb, Result.andThen, setBlock]
  · exact ⟨#[], clock, heap_setBlock_eq _ hlt, by simp, by simp, by simp, by simp, by simp⟩

/-! ### The key of two texts -/
abbrev TwoD := ByteArray × ByteArray
def twoKf (k : TwoD) : Value := .agg #[.string k.1, .string k.2]
def twoOk (k : TwoD) : Prop := k.1.size ≤ maxLen ∧ k.2.size ≤ maxLen
theorem two_law : WideMaps.KeyLaw Tryd.prog 72 := deep_law_laid (by kernel_rfl) (m := 2) (by omega) (of_decide_eq_true (by kernel_rfl)) (by kernel_rfl) (by kernel_rfl)
theorem types_posB : ∃ m, Tryd.prog.types.size = m + 1 := by
  have h : decide (0 < Tryd.prog.types.size) = true := by kernel_rfl
  have h2 := of_decide_eq_true h
  generalize Tryd.prog.types.size = s at *
  exact ⟨s - 1, by omega⟩
theorem twoKey : KeyFn Tryd.prog 72 twoKf twoOk := KeyFn.of_keyed (Maps.Keyed.of_law two_law) (fun {x y} h => by
    obtain ⟨a, b⟩ := x
    obtain ⟨c, d⟩ := y
    simp [twoKf] at h
    simp [h]) (fun x hx => by
    obtain ⟨m, hm⟩ := types_posB
    exact keyOf_struct2 Tryd.underlying72 (by kernel_rfl) _ _ (by kernel_rfl) (by kernel_rfl) (by kernel_rfl) (by kernel_rfl) (by kernel_rfl) (by kernel_rfl) (by kernel_rfl) hm (keyLits_str Tryd.underlying9 hx.1 m) (keyLits_str Tryd.underlying9 hx.2 m))

/-! ### The object -/
abbrev SgD := List (ByteArray × Int)
abbrev CtD := List (TwoD × Int)
/-- The counts: the struct at bb, the singles' map at sb, the counts' map at cb. -/
structure BkAt (w : World) (bb sb cb : Nat) (D1 : SgD) (D2 : CtD) (b : BkS) : Prop where
  blk : w.heap[bb]? = some (.cells #[.int .i64 b.all, .map (some sb), .map (some cb)] 65 (0, 0))
  m1 : MapIs w strKf intVf strOk sb D1
  m2 : MapIs w twoKf intVf twoOk cb D2
  ne : bb ≠ sb ∧ bb ≠ cb ∧ sb ≠ cb
  e1 : ∀ x, (mget D1 x).getD 0 = b.sg x
  e2 : ∀ x y, (mget D2 (x, y)).getD 0 = b.ct x y
def BkObj (w : World) (bb : Nat) (G : Nat → Prop) (b : BkS) : Prop := ∃ sb cb D1 D2, BkAt w bb sb cb D1 D2 b ∧ G = (fun k => k = bb ∨ k = sb ∨ k = cb)
theorem BkAt.lt {w : World} {bb sb cb : Nat} {D1 : SgD} {D2 : CtD} {b : BkS} (h : BkAt w bb sb cb D1 D2 b) : bb < w.heap.size ∧ sb < w.heap.size ∧ cb < w.heap.size := ⟨(Array.getElem?_eq_some_iff.1 h.blk).1, h.m1.lt, h.m2.lt⟩
theorem BkAt.keep {w w' : World} {F : Nat → Prop} {bb sb cb : Nat} {D1 : SgD} {D2 : CtD} {b : BkS} (h : BkAt w bb sb cb D1 D2 b) (hk : Keeps F w w') (h1 : ¬ F bb) (h2 : ¬ F sb) (h3 : ¬ F cb) : BkAt w' bb sb cb D1 D2 b :=
  ⟨(hk.block bb h.lt.1 h1).trans h.blk, h.m1.keep hk h2, h.m2.keep hk h3, h.ne, h.e1, h.e2⟩
theorem BkAt.below {w w' : World} {bb sb cb : Nat} {D1 : SgD} {D2 : CtD} {b : BkS} (h : BkAt w bb sb cb D1 D2 b) (hb : Below w.heap.size w w') : BkAt w' bb sb cb D1 D2 b :=
  h.keep (Keeps.ofBelow hb (fun _ => False)) (fun x => x) (fun x => x) (fun x => x)
theorem BkObj.own (bb : Nat) (b : BkS) : Own1 (fun w G => BkObj w bb G b) where
  keep := by
    rintro w w' F G ⟨sb, cb, D1, D2, h, rfl⟩ hk hd
    exact ⟨sb, cb, D1, D2, h.keep hk (hd _ (.inl rfl)) (hd _ (.inr (.inl rfl))) (hd _ (.inr (.inr rfl))), rfl⟩
  lt := by
    rintro w F ⟨sb, cb, D1, D2, h, rfl⟩ k (rfl | rfl | rfl)
    · exact h.lt.1
    · exact h.lt.2.1
    · exact h.lt.2.2
theorem BkAt.c0 {w : World} {bb sb cb : Nat} {D1 : SgD} {D2 : CtD} {b : BkS} (h : BkAt w bb sb cb D1 D2 b) : w.cell? ⟨bb, 0, none⟩ = some (.int .i64 b.all) := by rw [cell_of_row w bb _ _ _ _ h.blk]; rfl
theorem BkAt.c1 {w : World} {bb sb cb : Nat} {D1 : SgD} {D2 : CtD} {b : BkS} (h : BkAt w bb sb cb D1 D2 b) : w.cell? ⟨bb, 1, none⟩ = some (.map (some sb)) := by rw [cell_of_row w bb _ _ _ _ h.blk]; rfl
theorem BkAt.c2 {w : World} {bb sb cb : Nat} {D1 : SgD} {D2 : CtD} {b : BkS} (h : BkAt w bb sb cb D1 D2 b) : w.cell? ⟨bb, 2, none⟩ = some (.map (some cb)) := by rw [cell_of_row w bb _ _ _ _ h.blk]; rfl

theorem zeroB_int (w : World) : (zeroValue 3).run Tryd.prog w = .ok (.int .i64 0) w := by kernel_rfl
end Go.Proofs.YtaollcpoibgblaaDoor
