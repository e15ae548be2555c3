/- Contracts of pairs.New, own (of a table that nobody shares), Single, Count. -/
import Derived.Test.YtbmkejiijkbmlaaPrEo
namespace Go.Proofs.Ytbmkejiijkbmlaa
open Go.ChangeShapes Go.WideShapes Go.ChangeAt Go.RowKit Go.Lib Go.Proofs
set_option linter.unusedVariables false
set_option linter.unusedSimpArgs false

set_option maxHeartbeats 1000000 in
theorem newTable_any (w : World) : Calls Try.prog 35 #[] w fun e w' => ∃ tb F, e = .returned (.pointer (some ⟨tb, 0, none⟩)) ∧ TabObj w' tb F (cnt1 []) (pairF []) ∧ (∀ k, F k → w.heap.size ≤ k) ∧ Below w.heap.size w w' := by
  have hmm := @run_makeMap Try.prog
  rw [cnt1_nil, pairF_nil]
  go_enter Try.func35, Try.ntmps35
  go_wp2
  go_ret
  refine ⟨_, _, rfl, ⟨w.heap.size, w.heap.size + 1, [], [], fun _ => [], ⟨?_, ?_, ?_, by simp, by omega, by simp, by simp⟩, TabInv.empty, rfl⟩, ?_, (((Below.refl _ _).alloc (by simp) _).alloc (by simp) _).alloc (by simp; omega) _⟩
  · have := heap_alloc_new ((w.alloc (.map #[] 0)).alloc (.map #[] 0)) (.cells #[.map (some w.heap.size), .map (some (w.heap.size + 1))] 62)
    simpa using this
  · exact ((MapIs.made w _ _ _).alloc _).alloc _
  · have := (MapIs.made (w.alloc (.map #[] 0)) strKf mapVf strOk).alloc (.cells #[.map (some w.heap.size), .map (some (w.heap.size + 1))] 62)
    simpa using this
  · rintro k (rfl | rfl | rfl | ⟨p, hp, _⟩)
    · omega
    · omega
    · omega
    · simp at hp

theorem pairsNew_any (w : World) : Calls Try.prog 21 #[] w fun e w' => ∃ pb F, e = .returned (.pointer (some ⟨pb, 0, none⟩)) ∧ PairO w' pb F [] ∧ (∀ k, F k → w.heap.size ≤ k) ∧ Below w.heap.size w w' := by
  have H := fun W => newTable_any W
  go_enter Try.func21, Try.ntmps21
  go_wp2_with fail
  refine (H _).mono ?_
  rintro e w1 ⟨tb, G, rfl, ht, hG, hb⟩
  have HT := Lib.hid ht
  have HG := Lib.hid hG
  clear ht hG
  go_wp2
  go_ret
  have hz := hb.size
  have hlt := (TabObj.own tb (cnt1 []) (pairF [])).lt HT.out
  refine ⟨w1.heap.size, _, rfl, ⟨tb, G, ?_, ?_, ?_, rfl⟩, ?_, hb.alloc hz _⟩
  · have := heap_alloc_new w1 (.cells #[.pointer (some ⟨tb, 0, none⟩), .bool false] 64)
    exact this
  · exact (TabObj.own tb (cnt1 []) (pairF [])).keep HT.out ((Keeps.refl (fun _ => False) _).alloc _) (fun _ _ h => h)
  · intro h
    have := hlt _ h
    omega
  · rintro k (rfl | hk)
    · exact hz
    · exact HG.out k hk

theorem own_any (pb tb : Nat) (w : World) (h : PAt w pb tb false) : Calls Try.prog 22 #[.pointer (some ⟨pb, 0, none⟩)] w fun e w' => e = .returned (.pointer (some ⟨tb, 0, none⟩)) ∧ w' = w := by
  obtain ⟨c1, c2⟩ := h.cells
  go_enter Try.func22, Try.ntmps22
  go_wp2
  go_ret
  exact ⟨rfl, rfl⟩

theorem single_get (pb : Nat) (F : Nat → Prop) (L : List (List ByteArray)) (a : ByteArray) (w : World) (h : PRd w pb F L) (hok : a.size ≤ maxLen) : Calls Try.prog 18 #[.pointer (some ⟨pb, 0, none⟩), .string a] w fun e w' => e = .returned (.int .i64 (cnt1 L a)) ∧ w' = w := by
  obtain ⟨tb, sh, G, hp, ⟨sb, cb, S, C, R, hD, hI, rfl⟩, rfl⟩ := h
  obtain ⟨c1, c2⟩ := hp.cells
  obtain ⟨d1, d2⟩ := hD.cells
  have hlo := look_ones hD.ones hok
  rw [hI.one] at hlo
  clear hp hD hI
  go_enter Try.func18, Try.ntmps18
  go_wp2
  go_ret
  exact ⟨rfl, rfl⟩

theorem count_get (pb : Nat) (F : Nat → Prop) (L : List (List ByteArray)) (a b : ByteArray) (w : World) (h : PRd w pb F L) (hoka : a.size ≤ maxLen) (hokb : b.size ≤ maxLen) : Calls Try.prog 19 #[.pointer (some ⟨pb, 0, none⟩), .string a, .string b] w fun e w' => e = .returned (.int .i64 (cnt2 L a b)) ∧ w' = w := by
  by_cases hab : a = b
  · subst hab
    have H := single_get pb F L a w h hoka
    have hb : (a.toList == a.toList) = true := by simp
    rw [cnt2_self]
    go_enter Try.func19, Try.ntmps19
    go_wp2_with fail
    refine H.mono ?_
    rintro e w1 ⟨rfl, rfl⟩
    go_wp2
    go_ret
    exact ⟨rfl, rfl⟩
  · have hb : (a.toList == b.toList) = false := by rw [str_beq]; simp [hab]
    have e0 : pairF L a b = cnt2 L a b := by unfold pairF; rw [if_neg hab]
    obtain ⟨tb, sh, G, hp, ⟨sb, cb, S, C, R, hD, hI, rfl⟩, rfl⟩ := h
    obtain ⟨c1, c2⟩ := hp.cells
    obtain ⟨d1, d2⟩ := hD.cells
    have hlo := look_twos hD.twos hoka
    have e2 := hI.two a b
    rw [e0] at e2
    unfold pairN at e2
    cases hr : mget C a with
    | none =>
      rw [hr] at hlo e2
      simp only [Option.bind_none, Option.getD_none] at e2
      have hn : ∀ W : World, (Instr.lookup 59 (.map none) (.string b) false).run Try.prog W = .ok (.int .i64 0) W := fun W => by
        have := Maps.look_nil (P := Try.prog) (w := W) false (Maps.string_keyed Try.underlying9) Try.underlying59 (zero_int W) (WideMaps.keyOf_string_mk Try.underlying9 hokb)
        simpa using this
      rw [← e2]
      clear hp hD hI hab e0 e2
      go_enter Try.func19, Try.ntmps19
      go_wp2
      go_ret
      exact ⟨rfl, rfl⟩
    | some r =>
      rw [hr] at hlo e2
      simp only [Option.bind_some] at e2
      have hli := look_ones (hD.rows _ (mget_some_mem hr)) hokb
      simp only [e2] at hli
      clear hp hD hI hab e0 e2
      go_enter Try.func19, Try.ntmps19
      go_wp2
      go_ret
      exact ⟨rfl, rfl⟩
end Go.Proofs.Ytbmkejiijkbmlaa
