/- A counter in memory; what an addition does to it, in plain words; insertion anywhere. -/
import Derived.Test.YtmigjlceogofaaaDsB
import Derived.Test.YtmigjlceogofaaaSch
import Derived.Test.YtmigjlceogofaaaKitO
import Derived.Test.YtmigjlceogofaaaKitX
namespace Go.Proofs.Ytmigjlceogofaaa
open Go.ChangeShapes Go.WideShapes Go.ChangeAt Go.RowKit
set_option linter.unusedVariables false
set_option linter.unusedSimpArgs false

/-! ### Plain words -/
def Ris : List Int → Prop
  | [] => True
  | [_] => True
  | x :: y :: l => x < y ∧ Ris (y :: l)
def placeD (R : List Int) (h : Int) : Nat := (R.takeWhile (fun x => decide (x < h))).length
structure CtS where
  k : Int
  R : List Int
  more : Bool
def isIn (s : CtS) (h : Int) : Bool := decide (h ∈ s.R)
def insD (R : List Int) (i : Nat) (h : Int) : List Int := R.take i ++ h :: R.drop i
/-- What an addition leaves. -/
def addS (s : CtS) (h : Int) : CtS :=
  if h ∈ s.R then s
  else if (s.R.length : Int) = s.k then
    (if (placeD s.R h : Int) = s.k then { s with more := true } else { s with more := true, R := insD (s.R.take (s.R.length - 1)) (placeD s.R h) h })
  else { s with R := insD s.R (placeD s.R h) h }
def ctB (s : CtS) (h : Int) : Bool := !(isIn s h) && !(decide ((s.R.length : Int) = s.k) && decide ((placeD s.R h : Int) = s.k))

theorem placeD_le (R : List Int) (h : Int) : placeD R h ≤ R.length := by
  unfold placeD
  induction R with
  | nil => simp
  | cons x R ih =>
    rw [List.takeWhile_cons]
    split
    · simp only [List.length_cons]; omega
    · simp
abbrev Rising (R : List Int) : Prop := R.Pairwise (· < ·)
theorem placeD_iff {R : List Int} (hR : Rising R) (h : Int) : ∀ t (ht : t < R.length), R[t] < h ↔ t < placeD R h := by
  induction R with
  | nil => intro t ht; simp at ht
  | cons x R ih =>
    have hp := List.pairwise_cons.1 hR
    intro t ht
    unfold placeD
    rw [List.takeWhile_cons]
    by_cases hx : x < h
    · simp only [hx, decide_true, if_true, List.length_cons]
      cases t with
      | zero => simp [hx]
      | succ t =>
        have := ih hp.2 t (by simpa using ht)
        unfold placeD at this
        simp only [List.getElem_cons_succ]
        rw [this]
        omega
    · simp only [hx, decide_false, if_false, List.length_nil]
      have : ¬ (x :: R)[t] < h := by
        cases t with
        | zero => simpa using hx
        | succ t =>
          simp only [List.getElem_cons_succ]
          have ht2 : t < R.length := by simpa using ht
          have := hp.1 (R[t]'ht2) (List.getElem_mem _)
          omega
      simp [this]
/-- A hash is there exactly if it stands at its place. -/
theorem mem_place {R : List Int} (hR : Rising R) (h : Int) : h ∈ R ↔ ∃ hp : placeD R h < R.length, R[placeD R h] = h := by
  constructor
  · intro hm
    obtain ⟨t, ht, e⟩ := List.getElem_of_mem hm
    have h1 := placeD_iff hR h t ht
    have h2 : ¬ t < placeD R h := fun q => by have := h1.2 q; omega
    have h3 : placeD R h < R.length := by omega
    have h4 := placeD_iff hR h _ h3
    refine ⟨h3, ?_⟩
    rcases Nat.lt_or_ge (placeD R h) t with q | q
    · have := (List.pairwise_iff_getElem.1 hR) _ _ h3 ht q
      have := h4.1 (by omega)
      omega
    · have : placeD R h = t := by omega
      simp only [this]; exact e
  · rintro ⟨hp, e⟩
    rw [← e]
    exact List.getElem_mem _

/-! ### Memory -/
/-- A counter in memory: its box, its row. -/
structure CtAt (w : World) (cb : Nat) (A : Option Addr) (c : Nat) (s : CtS) : Prop where
  blk : w.heap[cb]? = some (.cells #[.int .i64 s.k, .slice A s.R.length c, .bool s.more] 129 (0, 0))
  row : w.ownsRow 0 95 1 (.slice A s.R.length c) s.R.length (ursCells s.R)
  ne : ∀ g, A = some g → g.block ≠ cb
  ris : Rising s.R
  le : (s.R.length : Int) ≤ s.k
  k0 : 1 ≤ s.k ∧ s.k ≤ 4096
  bd : ∀ x ∈ s.R, 0 ≤ x ∧ x ≤ 18446744073709551615
def ctFoot (cb : Nat) (A : Option Addr) (k : Nat) : Prop := k = cb ∨ ∃ g, A = some g ∧ g.block = k
def CtO (cb : Nat) (s : CtS) (w : World) (F : Nat → Prop) : Prop := ∃ A c, CtAt w cb A c s ∧ F = ctFoot cb A
section
variable {w w' : World} {cb : Nat} {A : Option Addr} {c : Nat} {s : CtS}
theorem CtAt.shape (h : CtAt w cb A c s) : (A = none ∧ s.R = [] ∧ c = 0) ∨ ∃ g, A = some ⟨g, 0, none⟩ ∧ g < w.heap.size := by
  rcases h.row.2 with ⟨h1, h2⟩ | ⟨g, cap, cur, h1, h2, -⟩
  · injection h1 with e1 e2 e3
    exact .inl ⟨e1, List.eq_nil_of_length_eq_zero h2, e3⟩
  · injection h1 with e1
    subst e1
    exact .inr ⟨g, rfl, (h.row.lt g rfl).2⟩
theorem CtAt.foot_lt (h : CtAt w cb A c s) : ∀ k, ctFoot cb A k → k < w.heap.size := by
  rintro k (rfl | ⟨g, e, rfl⟩)
  · exact (Array.getElem?_eq_some_iff.1 h.blk).1
  · rcases h.shape with ⟨h1, -⟩ | ⟨g2, h1, h2⟩
    · rw [h1] at e; cases e
    · rw [h1] at e; injection e with e; subst e; exact h2
theorem CtAt.keep {G : Nat → Prop} (h : CtAt w cb A c s) (hk : Keeps G w w') (hG : ∀ k, ctFoot cb A k → ¬ G k) : CtAt w' cb A c s where
  blk := (hk.block cb (Array.getElem?_eq_some_iff.1 h.blk).1 (hG cb (.inl rfl))).trans h.blk
  row := hk.own h.row (fun k e => by
    rcases h.shape with ⟨h1, -⟩ | ⟨g2, h1, h2⟩
    · subst h1; cases e
    · subst h1; injection e with e; subst e; exact hG _ (.inr ⟨_, rfl, rfl⟩))
  ne := h.ne
  ris := h.ris
  le := h.le
  k0 := h.k0
  bd := h.bd
theorem CtO.own (cb : Nat) (s : CtS) : Own1 (CtO cb s) where
  keep := fun h hk hG => by
    obtain ⟨A, c, h1, rfl⟩ := h
    exact ⟨A, c, h1.keep hk hG, rfl⟩
  lt := fun h => by
    obtain ⟨A, c, h1, rfl⟩ := h
    exact h1.foot_lt
theorem CtAt.cells (h : CtAt w cb A c s) : w.cell? ⟨cb, 0, none⟩ = some (.int .i64 s.k) ∧ w.cell? ⟨cb, 1, none⟩ = some (.slice A s.R.length c) ∧ w.cell? ⟨cb, 2, none⟩ = some (.bool s.more) ∧ ∀ j, w.frozen? ⟨cb, j, none⟩ = false := by
  have hb := h.blk
  refine ⟨?_, ?_, ?_, fun j => ?_⟩
  · rw [cell_of_row w cb _ _ _ _ hb]; rfl
  · rw [cell_of_row w cb _ _ _ _ hb]; rfl
  · rw [cell_of_row w cb _ _ _ _ hb]; rfl
  · exact frozen_block hb j
end

theorem insD_any (base : Nat) (A : Option Addr) (c i : Nat) (R : List Int) (x : Int) (vb vc : Nat) (tA : TypeId) (w : World) (hown : w.ownsRow base 95 1 (.slice A R.length c) R.length (ursCells R))
    (hblk : w.heap[vb]? = some (.cells (urCells x).toArray tA (0, 0))) (hne : ∀ g, A = some g → vb ≠ g.block) (hi : i ≤ R.length) (hl : R.length < 1000000) (hbase : base ≤ w.heap.size) :
    Calls Try.prog 99 #[.slice A R.length c, .int .i64 i, .slice (some ⟨vb, 0, none⟩) 1 vc] w (URowNew w base (Value.slice A R.length c).ownBlock (insD R i x)) := by
  unfold insD
  rcases Nat.lt_or_ge i R.length with q | q
  · rcases hown.2 with ⟨h1, h2⟩ | ⟨g, cap, cur, h1, h2, -⟩
    · omega
    injection h1 with e1
    subst e1
    rcases Nat.lt_or_ge c (R.length + 1) with q2 | q2
    · exact uinsGrow_any base g c i R x vb vc tA w hown hblk q q2 hl hbase
    · exact uinsRoom_any base g c i R x vb vc 0 tA w hown hblk (hne _ rfl) q q2 hl
  · have hkl : i = R.length := by omega
    have e : R.take i ++ x :: R.drop i = R ++ [x] := by rw [List.take_of_length_le q, List.drop_of_length_le q]
    rw [e, hkl]
    exact uinsEnd_any base A c R x vb vc w hown (cells_block hblk 0 (fun j u hu => by simpa using hu)) (Array.getElem?_eq_some_iff.1 hblk).1 hbase hl
end Go.Proofs.Ytmigjlceogofaaa
