/- layer 18's example. -/
import Derived.Test.YtbmkejiijkbmlaaPrI
import Derived.Laws.StructEq
import Derived.ChangeKeysEq
namespace Go.Proofs.Ytbmkejiijkbmlaa
open Go.ChangeShapes Go.WideShapes Go.ChangeAt Go.RowKit Go.Shelf Go.Lib Go.Sort Go.Proofs
set_option linter.unusedVariables false
set_option linter.unusedSimpArgs false

theorem eql_ratioK (a b c d : Int) (w : World) : (binOp .eql 28 (.agg #[.int .i64 a, .int .i64 b]) (.agg #[.int .i64 c, .int .i64 d])).run Try.prog w = .ok (.bool (a == c && b == d)) w := by
  have hS : Try.prog.underlying 28 = some (.struct (Try.prog.fieldsOf 28)) := by kernel_rfl
  have hp : Try.prog.stoodInHeld 28 = false := by kernel_rfl
  have p0 := fun (v : Value) (xs : Array Value) (h : xs[0]? = some v) => run_part_plain (P := Try.prog) (w := w) (e := 2) (by kernel_rfl) h
  have p1 := fun (v : Value) (xs : Array Value) (h : xs[1]? = some v) => run_part_plain (P := Try.prog) (w := w) (e := 2) (by kernel_rfl) h
  have i := fun (d : Nat) (a b : Int) => run_equalIn_int (P := Try.prog) w d 2 .i64 .i64 a b Try.underlying2
  rw [run_eql_struct, run_equalIn_agg w 9999 _ _ _ hS hp]
  simp only [Program.fieldsOf, Try.underlying28, Op.eqFields]
  cases h1 : a == c <;> cases h2 : b == d <;> simp [Op.eqFields, p0, p1, i, h1, h2, Result.andThen]

def sA : ByteArray := ⟨#[97]⟩
def sB : ByteArray := ⟨#[98]⟩
def sC : ByteArray := ⟨#[99]⟩
def L0 : List (List ByteArray) := [[sA, sB], [sA, sB, sC], [sC]]
theorem l0_ab : likeNum L0 sA sB = 4 ∧ likeDen L0 sA sB = 4 := by decide
theorem l0_ca : likeNum L0 sC sA = 1 ∧ likeDen L0 sC sA = 4 := by decide
theorem l0_two {k : ByteArray} : 0 < pairF L0 sA k ↔ k ∈ [sB, sC] := by
  by_cases h1 : k = sB
  · subst h1; decide
  by_cases h2 : k = sC
  · subst h2; decide
  by_cases h3 : k = sA
  · subst h3; decide
  · have : cnt2 L0 sA k = 0 := by simp [cnt2, L0, h1, h2, h3]
    have hp : pairF L0 sA k = 0 := by unfold pairF; split <;> omega
    rw [hp]
    simp [h1, h2]
theorem l0_near {ms : List NearV} (h : NearTop L0 sA 1 ms) : ms.length = 2 := by
  obtain ⟨ks, hk, hp, hs⟩ := h
  have hnd : ks.Nodup := hk.1.imp (fun {x y} h e => by subst e; rw [sLt_irrefl] at h; cases h)
  have h2 : ks.Perm [sB, sC] := (List.perm_ext_iff_of_nodup hnd (by decide)).2 (fun k => by rw [hk.2, l0_two])
  have hl := h2.length_eq
  rw [← hp.length_eq]
  unfold nearL
  rw [List.length_map, List.filter_eq_self.2 (fun k hk' => ?_), hl]
  · rfl
  · have := (hk.2 k).1 hk'
    unfold pairF at this
    split at this
    · omega
    · exact decide_eq_true (by omega)

theorem reads_block {w : World} {b : Nat} {t : TypeId} {fr : Nat × Nat} {cs : Array Value} {n size : Nat} {xs : List Value} (h : w.heap[b]? = some (.cells cs t fr)) (hx : cs.toList = xs) (hl : xs.length = n * size) : Reads w w.heap.size size (some ⟨b, 0, none⟩) n xs :=
  ⟨hl, fun _ => ⟨b, 0, rfl, (Array.getElem?_eq_some_iff.1 h).1, fun j u hu => by
    rw [Nat.zero_add, cell_of_row w b j cs t fr h]
    rw [← hx] at hu
    simpa using hu⟩⟩

def livesW (w : World) : World :=
  (((w.alloc (.cells #[.string sA, .string sB] 9)).alloc (.cells #[.string sA, .string sB, .string sC] 9)).alloc (.cells #[.string sC] 9)).alloc
    (.cells #[.string ⟨#[]⟩, .int .i64 0, .int .i64 0, .slice (some ⟨w.heap.size, 0, none⟩) 2 2, .string ⟨#[]⟩, .int .i64 0, .int .i64 0, .slice (some ⟨w.heap.size + 1, 0, none⟩) 3 3, .string ⟨#[]⟩, .int .i64 0, .int .i64 0, .slice (some ⟨w.heap.size + 1 + 1, 0, none⟩) 1 1] 34)
def livesS (w : World) : List SessD := [⟨⟨#[]⟩, 0, 0, some ⟨w.heap.size, 0, none⟩, 2, [sA, sB]⟩, ⟨⟨#[]⟩, 0, 0, some ⟨w.heap.size + 1, 0, none⟩, 3, [sA, sB, sC]⟩, ⟨⟨#[]⟩, 0, 0, some ⟨w.heap.size + 1 + 1, 0, none⟩, 1, [sC]⟩]
theorem livesW_below (w : World) : Below w.heap.size w (livesW w) := by
  unfold livesW
  exact ((((Below.refl _ w).alloc (Nat.le_refl _) _).alloc (by simp) _).alloc (by simp; omega) _).alloc (by simp; omega) _
theorem lives_small : ∀ s ∈ [sA, sB, sC], s.size ≤ maxLen := by
  intro s hs
  simp at hs
  rcases hs with rfl | rfl | rfl <;> decide
theorem livesW_at (w : World) : SessAt (livesW w) (livesW w).heap.size (some ⟨w.heap.size + 1 + 1 + 1, 0, none⟩) (livesS w) := by
  have z : (livesW w).heap.size = w.heap.size + 1 + 1 + 1 + 1 := by unfold livesW; simp
  have b3 : (livesW w).heap[w.heap.size + 1 + 1 + 1]? = some (.cells #[.string ⟨#[]⟩, .int .i64 0, .int .i64 0, .slice (some ⟨w.heap.size, 0, none⟩) 2 2, .string ⟨#[]⟩, .int .i64 0, .int .i64 0, .slice (some ⟨w.heap.size + 1, 0, none⟩) 3 3, .string ⟨#[]⟩, .int .i64 0, .int .i64 0, .slice (some ⟨w.heap.size + 1 + 1, 0, none⟩) 1 1] 34 (0, 0)) := by
    have := heap_alloc_new (((w.alloc (.cells #[.string sA, .string sB] 9)).alloc (.cells #[.string sA, .string sB, .string sC] 9)).alloc (.cells #[.string sC] 9)) (.cells #[.string ⟨#[]⟩, .int .i64 0, .int .i64 0, .slice (some ⟨w.heap.size, 0, none⟩) 2 2, .string ⟨#[]⟩, .int .i64 0, .int .i64 0, .slice (some ⟨w.heap.size + 1, 0, none⟩) 3 3, .string ⟨#[]⟩, .int .i64 0, .int .i64 0, .slice (some ⟨w.heap.size + 1 + 1, 0, none⟩) 1 1] 34)
    simpa [livesW] using this
  have b2 : (livesW w).heap[w.heap.size + 1 + 1]? = some (.cells #[.string sC] 9 (0, 0)) := by
    have := heap_alloc_new ((w.alloc (.cells #[.string sA, .string sB] 9)).alloc (.cells #[.string sA, .string sB, .string sC] 9)) (.cells #[.string sC] 9)
    unfold livesW
    refine (Below.heap_alloc _ _ _ (by simp)).trans ?_
    simpa using this
  have b1 : (livesW w).heap[w.heap.size + 1]? = some (.cells #[.string sA, .string sB, .string sC] 9 (0, 0)) := by
    have := heap_alloc_new (w.alloc (.cells #[.string sA, .string sB] 9)) (.cells #[.string sA, .string sB, .string sC] 9)
    unfold livesW
    refine (Below.heap_alloc _ _ _ (by simp <;> omega)).trans ((Below.heap_alloc _ _ _ (by simp)).trans ?_)
    simpa using this
  have b0 : (livesW w).heap[w.heap.size]? = some (.cells #[.string sA, .string sB] 9 (0, 0)) := by
    unfold livesW
    exact (Below.heap_alloc _ _ _ (by simp <;> omega)).trans ((Below.heap_alloc _ _ _ (by simp <;> omega)).trans ((Below.heap_alloc _ _ _ (by simp)).trans (heap_alloc_new w _)))
  refine ⟨reads_block b3 rfl rfl, ?_⟩
  intro s hs
  simp only [livesS, List.mem_cons, List.not_mem_nil, or_false] at hs
  rcases hs with rfl | rfl | rfl
  · exact ⟨⟨reads_block b0 rfl rfl, fun s hs => lives_small s (by simp at hs ⊢; rcases hs with rfl | rfl <;> simp)⟩, by unfold maxLen; simp⟩
  · exact ⟨⟨reads_block b1 rfl rfl, lives_small⟩, by unfold maxLen; simp⟩
  · exact ⟨⟨reads_block b2 rfl rfl, fun s hs => lives_small s (by simp at hs ⊢; simp [hs])⟩, by unfold maxLen; simp⟩

set_option maxHeartbeats 2000000 in
theorem lives18_any (w : World) : Calls Try.prog 8 #[] w fun e w' => e = .returned (.bool true) ∧ Below w.heap.size w w' := by
  have E := fun a b c d w => eql_ratioK a b c d w
  have q0 := pof_any (some ⟨w.heap.size + 1 + 1 + 1, 0, none⟩) 3 (livesW w).heap.size (livesS w) (livesW w) (livesW_at w) (Nat.le_refl _) (by simp [livesS]) (by intro s hs; simp only [livesS, List.mem_cons, List.not_mem_nil, or_false] at hs; rcases hs with rfl | rfl | rfl <;> simp)
  have hit : itemsOf (livesS w) = L0 := rfl
  rw [hit] at q0
  have hb0 := livesW_below w
  have Q0 := Lib.hid q0
  clear q0 hit
  go_enter Try.func8, Try.ntmps8
  go_wp2_with fail
  refine Calls.mono (show Calls Try.prog 10 #[.slice (some ⟨w.heap.size + 1 + 1 + 1, 0, none⟩) 3 3] (livesW w) _ from Q0.out) ?_
  rintro e w1 ⟨pb, F, rfl, hO, hF, hb1⟩
  have hb1' : Below w.heap.size w w1 := hb0.trans (hb1.mono hb0.size)
  have h1 := like_any pb F L0 sA sB w1 hO.rd (by decide) (by decide) (by decide)
  rw [l0_ab.1, l0_ab.2] at h1
  have h2 := fun W (hb : Below w1.heap.size w1 W) => like_any pb F L0 sC sA W ((PRd.own pb L0).below hO.rd hb) (by decide) (by decide) (by decide)
  rw [l0_ca.1, l0_ca.2] at h2
  have h3 := fun W (hb : Below w1.heap.size w1 W) => ktop_any pb F L0 sA 5 1 W ((PRd.own pb L0).below hO.rd hb) (by decide) (by decide) (by decide) (by decide)
  have H1 := Lib.hid h1
  have H2 := Lib.hid h2
  have H3 := Lib.hid h3
  clear h1 h2 h3 hO hF Q0
  go_wp2_with fail
  refine Calls.mono H1.out ?_
  rintro e w2 ⟨rfl, hb2⟩
  go_wp2_with fail
  refine Calls.mono (H2.out _ hb2) ?_
  rintro e w3 ⟨rfl, hb3⟩
  have hb13 := hb2.trans (hb3.mono hb2.size)
  go_wp2_with fail
  refine Calls.mono (H3.out _ hb13) ?_
  rintro e w4 ⟨A, c, ms, rfl, hm, ho, hb4⟩
  have hl := l0_near hm
  have ht : topN 5 ms.length = 2 := by rw [hl]; decide
  rw [ht]
  have hb14 := hb1'.trans ((hb13.trans (hb4.mono hb13.size)).mono hb1'.size)
  clear hm ho hl
  go_wp2
  go_ret
  exact ⟨rfl, hb14⟩
end Go.Proofs.Ytbmkejiijkbmlaa
