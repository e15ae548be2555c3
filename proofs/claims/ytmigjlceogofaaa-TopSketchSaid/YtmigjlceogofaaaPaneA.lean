/- Contracts of pane.New, Width, of: over any numbers. -/
import Derived.Test.YtmigjlceogofaaaPaneP
import Derived.Test.YtmigjlceogofaaaKitC
import Derived.Test.YtmigjlceogofaaaKitL
import Derived.Test.YtmigjlceogofaaaProg
import Derived.DeepKeys4
import Derived.MapViews
namespace Go.Proofs.Ytmigjlceogofaaa
open Go.ChangeShapes Go.WideShapes Go.ChangeAt Go.RowKit
set_option linter.unusedVariables false
set_option linter.unusedSimpArgs false

theorem keyOf_pair {P : Program} {k : TypeId} {f0 f1 : Field} (hk : P.underlying k = some (.struct #[f0, f1])) (hkt : P.keyType k = true) (hc : P.cellsOf k = 2)
    (o0 : f0.offset = 0) (o1 : f1.offset = 1) (n0 : (f0.name != "_") = true) (n1 : (f1.name != "_") = true) (u0 : P.underlying f0.type = some .string) (u1 : P.underlying f1.type = some (.int .i64)) (c0 : P.cellsOf f0.type = 1) (c1 : P.cellsOf f1.type = 1) (hsz : 0 < P.types.size)
    {s : ByteArray} {n : Int} (hs : s.size ≤ maxLen) (hn : -9223372036854775808 ≤ n ∧ n ≤ 9223372036854775807) : ∃ l, keyOf P k (.agg #[.string s, .int .i64 n]) = some l := by
  obtain ⟨d, hd⟩ : ∃ d, P.types.size = d + 1 := ⟨P.types.size - 1, by omega⟩
  have hw := WalkArith.wf_i64 hn
  simp [keyOf, hk, hkt, Value.formed, hc, Value.cells, Program.keyLits, hd, o0, o1, n0, n1, u0, u1, c0, c1, hs, hw]

def cellKf (c : ByteArray × Int) : Value := .agg #[.string c.1, .int .i64 c.2]
def cellOk (c : ByteArray × Int) : Prop := c.1.size ≤ maxLen ∧ (-9223372036854775808 ≤ c.2 ∧ c.2 ≤ 9223372036854775807)
def rowVf (r : RowV) : Value := .slice r.A r.ns.length r.c

theorem laidOut : laidOutB Try.prog = true := by kernel_rfl
theorem cell_keyed : Maps.Keyed Try.prog 148 :=
  Maps.Keyed.of_law (deep_law_laid laidOut (m := 3) (by omega) (of_decide_eq_true (by kernel_rfl)) (by kernel_rfl) (by kernel_rfl))
theorem cellKey : KeyFn Try.prog 148 cellKf cellOk :=
  KeyFn.of_keyed cell_keyed (fun {x y} h => by
      obtain ⟨a, n⟩ := x
      obtain ⟨b, m⟩ := y
      simp [cellKf] at h
      rw [h.1, h.2])
    (fun x hx => keyOf_pair Try.underlying148 (by kernel_rfl) (by kernel_rfl) rfl rfl (by decide) (by decide) Try.underlying9 Try.underlying3 (by kernel_rfl) (by kernel_rfl) (of_decide_eq_true (by kernel_rfl)) hx.1 hx.2)
theorem zero_row (w : World) : (zeroValue 87).run Try.prog w = .ok (.slice none 0 0) w := by kernel_rfl
theorem pint_info : (Try.prog.info? 3).map (fun i => (i.zero, i.size, i.bytes)) = some (some (.int .i64 0), 1, 8) := by kernel_rfl

/-- Panes in memory: the struct at pb, its two maps, the rows that these lead to. -/
structure PanesAt (w : World) (pb bs br : Nat) (wd ad : Int) (S : SumsL) (R : RowsL) : Prop where
  blk : w.heap[pb]? = some (.cells #[.int .i64 wd, .int .i64 ad, .map (some bs), .map (some br)] 145 (0, 0))
  sums : MapIs w cellKf intVf cellOk bs S
  rows : MapIs w strKf rowVf strOk br R
  ne : bs ≠ br
  own : ∀ p ∈ R, w.ownsRow 0 3 1 (rowVf p.2) p.2.ns.length (p.2.ns.map (Value.int .i64))
  apart : ∀ p ∈ R, ∀ q ∈ R, p.1 ≠ q.1 → ∀ k, (rowVf p.2).ownBlock = some k → (rowVf q.2).ownBlock ≠ some k

def paneFoot (pb bs br : Nat) (R : RowsL) (k : Nat) : Prop := k = pb ∨ k = bs ∨ k = br ∨ ∃ p ∈ R, (rowVf p.2).ownBlock = some k

/-- Panes to which just these were added; F: the blocks that they have. -/
def PaneObj (w : World) (pb : Nat) (F : Nat → Prop) (wd : Int) (hist : List AddD) : Prop :=
  ∃ bs br S R, PanesAt w pb bs br wd hist.length S R ∧ PaneInv wd S R hist ∧ F = paneFoot pb bs br R

theorem PanesAt.keep {w w' : World} {pb bs br : Nat} {wd ad : Int} {S : SumsL} {R : RowsL} {G : Nat → Prop} (h : PanesAt w pb bs br wd ad S R) (hk : Keeps G w w') (hG : ∀ k, paneFoot pb bs br R k → ¬ G k) : PanesAt w' pb bs br wd ad S R where
  blk := (hk.block pb (Array.getElem?_eq_some_iff.1 h.blk).1 (hG pb (.inl rfl))).trans h.blk
  sums := h.sums.keep hk (hG bs (.inr (.inl rfl)))
  rows := h.rows.keep hk (hG br (.inr (.inr (.inl rfl))))
  ne := h.ne
  own := fun p hp => hk.own (h.own p hp) (fun k hk' => hG k (.inr (.inr (.inr ⟨p, hp, hk'⟩))))
  apart := h.apart

theorem PanesAt.foot_lt {w : World} {pb bs br : Nat} {wd ad : Int} {S : SumsL} {R : RowsL} (h : PanesAt w pb bs br wd ad S R) : ∀ k, paneFoot pb bs br R k → k < w.heap.size := by
  rintro k (rfl | rfl | rfl | ⟨p, hp, hk⟩)
  · exact (Array.getElem?_eq_some_iff.1 h.blk).1
  · exact h.sums.lt
  · exact h.rows.lt
  · exact ((h.own p hp).lt k hk).2

theorem PaneObj.keep {w w' : World} {pb : Nat} {F G : Nat → Prop} {wd : Int} {hist : List AddD} (h : PaneObj w pb F wd hist) (hk : Keeps G w w') (hG : ∀ k, F k → ¬ G k) : PaneObj w' pb F wd hist := by
  obtain ⟨bs, br, S, R, h1, h2, rfl⟩ := h
  exact ⟨bs, br, S, R, h1.keep hk hG, h2, rfl⟩
theorem PaneObj.lt {w : World} {pb : Nat} {F : Nat → Prop} {wd : Int} {hist : List AddD} (h : PaneObj w pb F wd hist) : ∀ k, F k → k < w.heap.size := by
  obtain ⟨bs, br, S, R, h1, h2, rfl⟩ := h
  exact h1.foot_lt
theorem PaneObj.below {w w' : World} {pb : Nat} {F : Nat → Prop} {wd : Int} {hist : List AddD} (h : PaneObj w pb F wd hist) (hb : Below w.heap.size w w') : PaneObj w' pb F wd hist :=
  h.keep (Keeps.ofBelow hb (fun _ => False)) (fun _ _ h => h)
theorem PaneObj.wide {w : World} {pb : Nat} {F : Nat → Prop} {wd : Int} {hist : List AddD} (h : PaneObj w pb F wd hist) : 1 ≤ wd ∧ wd ≤ 1099511627776 := by
  obtain ⟨bs, br, S, R, h1, h2, rfl⟩ := h
  exact h2.wide
theorem PaneObj.cells {w : World} {pb : Nat} {F : Nat → Prop} {wd : Int} {hist : List AddD} (h : PaneObj w pb F wd hist) : w.cell? ⟨pb, 0, none⟩ = some (.int .i64 wd) := by
  obtain ⟨bs, br, S, R, h1, h2, rfl⟩ := h
  rw [cell_of_row w pb 0 _ _ _ h1.blk]; rfl

def widthOf (n : Int) : Int := min (max n 1) 1099511627776

set_option maxHeartbeats 400000 in
theorem pnew_any (n : Int) (w : World) :
    Calls Try.prog 33 #[.int .i64 n] w fun e w' => ∃ pb F, e = .returned (.pointer (some ⟨pb, 0, none⟩)) ∧ PaneObj w' pb F (widthOf n) [] ∧ (∀ k, F k → w.heap.size ≤ k) ∧ Below w.heap.size w w' := by
  have hmm := @run_makeMap Try.prog
  go_enter Try.func33, Try.ntmps33
  go_wp2
  go_ret
  refine ⟨_, _, rfl, ⟨w.heap.size, w.heap.size + 1, [], [], ⟨?_, ?_, ?_, by omega, by simp, by simp⟩, PaneInv.start _ (by unfold widthOf; omega), rfl⟩, ?_, (((Below.refl _ _).alloc (by simp) _).alloc (by simp) _).alloc (by simp; omega) _⟩
  · have := heap_alloc_new ((w.alloc (.map #[] 0)).alloc (.map #[] 0)) (.cells #[.int .i64 (widthOf n), .int .i64 0, .map (some w.heap.size), .map (some (w.heap.size + 1))] 145)
    simpa [widthOf] using this
  · exact ((MapIs.made w _ _ _).alloc _).alloc _
  · have := (MapIs.made (w.alloc (.map #[] 0)) strKf rowVf strOk).alloc (.cells #[.int .i64 (widthOf n), .int .i64 0, .map (some w.heap.size), .map (some (w.heap.size + 1))] 145)
    simpa [widthOf] using this
  · rintro k (rfl | rfl | rfl | ⟨p, hp, _⟩)
    · omega
    · omega
    · omega
    · simp at hp

theorem pwidth_any (pb : Nat) (wd : Int) (w : World) (hc : w.cell? ⟨pb, 0, none⟩ = some (.int .i64 wd)) :
    Calls Try.prog 72 #[.pointer (some ⟨pb, 0, none⟩)] w fun e w' => e = .returned (.int .i64 wd) ∧ w = w' := by
  go_enter Try.func72, Try.ntmps72
  go_wp2
  go_ret
  exact ⟨rfl, rfl⟩

theorem floor_parts (a wd : Int) (hw : 1 ≤ wd) : (0 ≤ a.tmod wd ∧ a.tdiv wd = a / wd) ∨ (a.tmod wd < 0 ∧ a.tdiv wd - 1 = a / wd) := by
  have h := Int.mul_tdiv_add_tmod a wd
  have hlt : a.tmod wd < wd := Int.tmod_lt_of_pos a (by omega)
  by_cases hp : 0 ≤ a.tmod wd
  · left
    refine ⟨hp, ?_⟩
    exact ((Int.ediv_emod_unique (a := a) (b := wd) (r := a.tmod wd) (q := a.tdiv wd) (by omega)).2 ⟨by omega, hp, hlt⟩).1.symm
  · right
    have hgt : -wd < a.tmod wd := by
      have h1 : (-a).tmod wd < wd := Int.tmod_lt_of_pos _ (by omega)
      rw [Int.neg_tmod] at h1
      omega
    refine ⟨by omega, ?_⟩
    have e : wd * (a.tdiv wd - 1) = wd * a.tdiv wd - wd := by rw [Int.mul_sub, Int.mul_one]
    exact ((Int.ediv_emod_unique (a := a) (b := wd) (r := a.tmod wd + wd) (q := a.tdiv wd - 1) (by omega)).2 ⟨by omega, by omega, by omega⟩).1.symm
theorem floor_pos (a wd : Int) (hw : 1 ≤ wd) (h : ¬ a.tmod wd < 0) : a.tdiv wd = a / wd := by
  rcases floor_parts a wd hw with h1 | h1
  · exact h1.2
  · omega
theorem floor_neg (a wd : Int) (hw : 1 ≤ wd) (h : a.tmod wd < 0) : a.tdiv wd - 1 = a / wd := by
  rcases floor_parts a wd hw with h1 | h1
  · omega
  · exact h1.2
theorem floor_bd (a wd M : Int) (hw : 1 ≤ wd) (hM : 0 ≤ M) (ha : -M ≤ a) (ha2 : a ≤ M) : -M ≤ a / wd ∧ a / wd ≤ M := by
  by_cases h : 0 ≤ a
  · have h1 := Int.ediv_nonneg h (by omega : 0 ≤ wd)
    have h2 := Int.ediv_le_self wd h
    omega
  · have h1 : a ≤ a / wd := (Int.le_ediv_iff_mul_le (by omega)).2 (by
      have := Int.mul_le_mul_of_nonpos_left (a := a) (b := wd) (c := 1) (by omega) hw
      omega)
    have h2 : a / wd < 0 := Int.ediv_neg_of_neg_of_pos (by omega) (by omega)
    omega

set_option maxHeartbeats 400000 in
theorem pof_any (pb : Nat) (wd a : Int) (w : World) (hc : w.cell? ⟨pb, 0, none⟩ = some (.int .i64 wd)) (hw : 1 ≤ wd) (hw2 : wd ≤ 1099511627776) (ha : -4611686018427387904 ≤ a) (ha2 : a ≤ 4611686018427387904) :
    Calls Try.prog 71 #[.pointer (some ⟨pb, 0, none⟩), .int .i64 a] w fun e w' => e = .returned (.int .i64 (a / wd)) ∧ w = w' := by
  have hz : ¬ wd = 0 := by omega
  have hbd := floor_bd a wd 4611686018427387904 hw (by omega) ha ha2
  by_cases hm : a.tmod wd < 0
  · have e := floor_neg a wd hw hm
    go_enter Try.func71, Try.ntmps71
    go_wp2
    go_ret
    exact ⟨rfl, rfl⟩
  · have e := floor_pos a wd hw hm
    go_enter Try.func71, Try.ntmps71
    go_wp2
    go_ret
    exact ⟨rfl, rfl⟩
end Go.Proofs.Ytmigjlceogofaaa
