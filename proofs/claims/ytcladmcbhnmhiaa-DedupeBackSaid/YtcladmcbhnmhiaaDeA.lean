/- The reference's Ranges plainly; contracts of its number and Next. -/
import Derived.Test.YtcladmcbhnmhiaaDdN
import Derived.Test.YtcladmcbhnmhiaaKitC
namespace Go.Proofs.Ytcladmcbhnmhiaa
open Go.ChangeShapes Go.WideShapes Go.ChangeAt Go.RowKit Go.Shelf Go.Lib Go.Sort Go.Proofs
set_option linter.unusedVariables false
set_option linter.unusedSimpArgs false

/-- One number more, behind all others. -/
def rstep (R : List Rg) (n : Int) : List Rg :=
  match R.getLast? with
  | some r => if r.2 = n then R.dropLast ++ [(r.1, n + 1)] else R ++ [(n, n + 1)]
  | none => [(n, n + 1)]
def rangesL (l : List Int) : List Rg := l.foldl rstep []
structure ROk (R : List Rg) (done : List Int) : Prop where
  ok : RowOk 0 R
  mem : ∀ n, memR R n ↔ n ∈ done
  cnt : cntR R = done.length
  len : R.length ≤ done.length
theorem memR_one' (r : Rg) (n : Int) : memR [r] n ↔ r.1 ≤ n ∧ n < r.2 := by rw [memR_cons]; simp [memR_nil]
theorem ROk.step {R : List Rg} {done : List Int} {n : Int} (h : ROk R done) (h1 : 1 ≤ n) (hn : ∀ m ∈ done, m < n) : ROk (rstep R n) (done ++ [n]) := by
  rcases rev_cases (A := R) with rfl | ⟨A, r, rfl⟩
  · have hd : done = [] := by
      cases done with
      | nil => rfl
      | cons d ds => exact absurd ((h.mem d).2 (by simp)) (memR_nil _)
    subst hd
    refine ⟨⟨by show (0 : Int) < n; omega, by show n < n + 1; omega, trivial⟩, fun m => ?_, ?_, by simp [rstep]⟩
    · show memR [(n, n + 1)] m ↔ _
      rw [memR_one']
      simp
      omega
    · show cntR [(n, n + 1)] = _
      rw [cntR_one]
      simp
      omega
  · have hA := RowOk.append.1 h.ok
    obtain ⟨a1, a2, -⟩ := hA.2
    have hl : r.2 - 1 < n := hn _ ((h.mem _).1 ((memR_append _ _ _).2 (.inr ((memR_one' _ _).2 ⟨by omega, by omega⟩))))
    have hc := h.cnt
    have hlen := h.len
    rw [cntR_append, cntR_one] at hc
    have e : rstep (A ++ [r]) n = if r.2 = n then A ++ [(r.1, n + 1)] else A ++ [r] ++ [(n, n + 1)] := by
      unfold rstep
      simp
    rw [e]
    by_cases q : r.2 = n
    · rw [if_pos q]
      refine ⟨RowOk.append.2 ⟨hA.1, a1, by show r.1 < n + 1; omega, trivial⟩, fun m => ?_, ?_, by simp at hlen ⊢; omega⟩
      · rw [List.mem_append, ← h.mem m, memR_append, memR_append, memR_one', memR_one']
        simp only [List.mem_singleton]
        constructor
        · rintro (z | ⟨z1, z2⟩)
          · exact .inl (.inl z)
          · by_cases z3 : m = n
            · exact .inr z3
            · exact .inl (.inr ⟨z1, by omega⟩)
        · rintro ((z | ⟨z1, z2⟩) | rfl)
          · exact .inl z
          · exact .inr ⟨z1, by omega⟩
          · exact .inr ⟨by omega, by omega⟩
      · rw [cntR_append, cntR_one]
        simp
        omega
    · rw [if_neg q]
      refine ⟨RowOk.append.2 ⟨h.ok, by rw [lastTo_snoc]; show r.2 < n; omega, by show n < n + 1; omega, trivial⟩, fun m => ?_, ?_, by simp at hlen ⊢; omega⟩
      · rw [List.mem_append, ← h.mem m, memR_append, memR_one']
        simp only [List.mem_singleton]
        constructor
        · rintro (z | ⟨z1, z2⟩)
          · exact .inl z
          · exact .inr (by omega)
        · rintro (z | rfl)
          · exact .inl z
          · exact .inr ⟨by omega, by omega⟩
      · rw [cntR_append, cntR_append, cntR_one, cntR_one]
        simp
        omega
theorem rangesL_snoc (l : List Int) (n : Int) : rangesL (l ++ [n]) = rstep (rangesL l) n := by unfold rangesL; rw [List.foldl_append]; rfl
theorem rangesL_ok {l : List Int} (hu : l.Pairwise (· < ·)) (h1 : ∀ n ∈ l, 1 ≤ n) : ROk (rangesL l) l := by
  induction l using snoc_ind with
  | nil => exact ⟨trivial, fun n => by simp [rangesL, memR_nil], rfl, Nat.le_refl _⟩
  | snoc l n ih =>
    rw [List.pairwise_append] at hu
    rw [rangesL_snoc]
    exact (ih hu.1 (fun m hm => h1 m (by simp [hm]))).step (h1 n (by simp)) (fun m hm => hu.2.2 m hm n (by simp))
/-- The reference's ranges are the set's. -/
theorem RefOk.ranges {X : RefX} {F : RowsF} (h : RefOk X F) (hF : ∀ k, RowOk 0 (F k)) {s : ByteArray × List Int} (hs : s ∈ X) : rangesL s.2 = F s.1 ∧ cntR (F s.1) = s.2.length ∧ (∀ n ∈ s.2, 1 ≤ n) := by
  have hmem : ∀ n, n ∈ s.2 ↔ memR (F s.1) n := fun n => by
    rw [← h.mem]
    constructor
    · intro hn; exact ⟨s, hs, rfl, hn⟩
    · rintro ⟨t, ht, e, hn⟩
      obtain ⟨i, hi, rfl⟩ := List.getElem_of_mem hs
      obtain ⟨j, hj, rfl⟩ := List.getElem_of_mem ht
      have hp := List.pairwise_iff_getElem.1 h.names
      rcases Nat.lt_trichotomy i j with q | q | q
      · have := hp i j hi hj q
        rw [e, sLt_irrefl] at this
        cases this
      · subst q; exact hn
      · have := hp j i hj hi q
        rw [e, sLt_irrefl] at this
        cases this
  have h1 : ∀ n ∈ s.2, 1 ≤ n := fun n hn => by
    have := (hF s.1).memR_gt ((hmem n).1 hn)
    omega
  have hr := rangesL_ok (h.ups s hs).1 h1
  have e : rangesL s.2 = F s.1 := hr.ok.unique (hF s.1) (fun n => by rw [hr.mem, hmem])
  exact ⟨e, by rw [← e]; exact hr.cnt, h1⟩
theorem RefOk.keys {X : RefX} {F : RowsF} (h : RefOk X F) (hF : ∀ k, RowOk 0 (F k)) : KeysF F (X.map (·.1)) := by
  refine ⟨by rw [List.pairwise_map]; exact h.names, fun k => ?_⟩
  constructor
  · intro hk
    obtain ⟨s, hs, rfl⟩ := List.mem_map.1 hk
    have h2 := (h.ups s hs).2
    cases hq : s.2 with
    | nil => exact absurd hq h2
    | cons n ns =>
      intro e
      have := (h.mem s.1 n).1 ⟨s, hs, rfl, by rw [hq]; simp⟩
      rw [e] at this
      exact memR_nil _ this
  · intro hne
    have hok := hF k
    cases hq : F k with
    | nil => exact absurd hq hne
    | cons r R =>
      rw [hq] at hok
      obtain ⟨s, hs, e, -⟩ := (h.mem k r.1).2 (by rw [hq]; exact (memR_cons _ _ _).2 (.inl ⟨Int.le_refl _, hok.2.1⟩))
      exact List.mem_map.2 ⟨s, hs, e⟩

def ByNew (w : World) (s : ByteArray) (e : Ending) (w' : World) : Prop := e = .returned (.string s) ∧ Below w.heap.size w w'
/-- The bytes of a block of one's own as a text. -/
theorem conv_one (W : World) (u : UInt8) (v : Value) (hv : v = .int .u8 (u.toNat : Int)) {b : Nat} {fr : Nat × Nat} (h : W.heap[b]? = some (.cells #[v] 5 fr)) : (convert 52 9 (.slice (some ⟨b, 0, none⟩) 1 1)).run Try.prog W = .ok (.string ⟨#[u]⟩) W := by
  refine run_convert_bytes_back (P := Try.prog) W 52 9 5 ⟨b, 0, none⟩ 1 [u] Try.underlying52 Try.underlying5 Try.underlying9 (fun j hj => ?_)
  have hj0 : j = 0 := by simpa using hj
  subst hj0
  have hadd : (⟨b, 0, none⟩ : Addr).add 0 = ⟨b, 0, none⟩ := by unfold Addr.add; simp
  rw [hadd]
  simp only [World.cell?, h]
  simp [hv]
end Go.Proofs.Ytcladmcbhnmhiaa
