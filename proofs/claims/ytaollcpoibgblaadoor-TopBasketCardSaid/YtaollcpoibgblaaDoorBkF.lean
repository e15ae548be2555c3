/- What basket.Of counts of one person's row, plainly; bounds. -/
import Derived.Test.YtaollcpoibgblaaDoorBkD
namespace Go.Proofs.YtaollcpoibgblaaDoor
set_option linter.unusedVariables false
set_option linter.unusedSimpArgs false

/-- Behind the cut, if there is one. -/
noncomputable def midR (gap : Int) (z : RwS) (a : Int) : RwS := if cutR gap z.last a then ⟨z.last, fun _ => none, z.b.plus (oneK z.since)⟩ else z
theorem stepR_mid (gap : Int) (z : RwS) (e : Int × ByteArray) : stepR gap z e = ⟨some e.1, putS (midR gap z e.1).since e.2 e.1, (midR gap z e.1).b⟩ := by
  unfold stepR midR
  split <;> rfl
def pairE (e : EvV) : Int × ByteArray := (e.at_, e.item)
noncomputable def zAt (gap : Int) (b : BkS) (ms : List EvV) (k : Nat) : RwS := ((ms.take k).map pairE).foldl (stepR gap) (beginR b)
theorem zAt_zero (gap : Int) (b : BkS) (ms : List EvV) : zAt gap b ms 0 = beginR b := rfl
theorem zAt_succ (gap : Int) (b : BkS) {ms : List EvV} {k : Nat} (h : k < ms.length) : zAt gap b ms (k + 1) = stepR gap (zAt gap b ms k) (pairE ms[k]) := by
  unfold zAt
  rw [List.take_succ_eq_append_getElem h, List.map_append, List.foldl_append]
  rfl
theorem zAt_last (gap : Int) (b : BkS) {ms : List EvV} {k : Nat} (h : k < ms.length) : (zAt gap b ms (k + 1)).last = some ms[k].at_ := by
  rw [zAt_succ gap b h, stepR_mid]
  rfl
theorem zAt_ok (gap : Int) {b : BkS} {n : Int} (h : BkOk b n) (ms : List EvV) (k : Nat) : BkOk (zAt gap b ms k).b (n + k) := by
  have := BkOk.fold (gap := gap) (z := beginR b) h ((ms.take k).map pairE)
  refine this.mono ?_
  rw [List.length_map, List.length_take]
  omega
theorem zAt_end (gap : Int) (b : BkS) (ms : List EvV) : (zAt gap b ms ms.length).b.plus (oneK (zAt gap b ms ms.length).since) = rowR gap b (ms.map pairE) := by
  unfold rowR zAt
  rw [List.take_length]
  rfl
theorem row_end {gap : Int} (hg : 0 ≤ gap) {E ms : List EvV} {p : ByteArray} (hp : ms.Perm (rowsE E p)) (hs : ms.Pairwise (fun x y => x.at_ ≤ y.at_)) (hne : rowsE E p ≠ []) (ks : List ByteArray) :
    (zAt gap (sumP gap (buysOf E) ks) ms ms.length).b.plus (oneK (zAt gap (sumP gap (buysOf E) ks) ms ms.length).since) = sumP gap (buysOf E) (p :: ks) := by
  rw [zAt_end, rowR_plus, sumP_snoc]
  congr 1
  have hb : rowB (buysOf E) p = (rowsE E p).map pairE := rowB_buys E p
  unfold ofP
  rw [if_neg (by rw [hb]; simpa using hne), hb]
  refine rowR_rise hg _ ?_ ?_ (isortR_rise _)
  · exact (hp.map pairE).trans (isortR_perm _).symm
  · rw [List.pairwise_map]
    exact hs
theorem sumP_bd (gap : Int) {L : List Buy} {n : Nat} (h : ∀ p, (rowB L p).length ≤ n) (ks : List ByteArray) : BkOk (sumP gap L ks) ((n + 1 : Int) * ks.length) := by
  induction ks with
  | nil => exact BkOk.zero.mono (by simp)
  | cons k ks ih =>
    have := (ofP_ok gap L k).plus ih
    refine this.mono ?_
    have h2 := h k
    rw [List.length_cons, Int.natCast_add, Int.mul_add]
    omega
theorem sumP_bd60 (gap : Int) {E : List EvV} (h : E.length ≤ 60) {ks : List ByteArray} (hk : ks.length ≤ 60) : BkOk (sumP gap (buysOf E) ks) 3660 := by
  have := sumP_bd gap (L := buysOf E) (n := 60) (fun p => by
    rw [rowB_buys, List.length_map]
    have := rowsE_len E p
    omega) ks
  exact this.mono (by omega)

/-- Since when what is there. -/
theorem sF_nil : sF [] = fun _ => none := rfl
theorem sF_put (S : SgD) (x : ByteArray) (a : Int) : putS (sF S) x a = sF (if (mget S x).isSome then S else mput S x a) := by
  funext y
  rw [putS_at]
  unfold sF
  cases h : mget S x with
  | none =>
    simp only [Option.isSome_none, Bool.false_eq_true, if_false, mget_mput, Option.getD_none]
  | some c =>
    simp only [Option.isSome_some, if_true, Option.getD_some]
    by_cases e : y = x
    · subst e; rw [if_pos rfl, h]
    · rw [if_neg e]
end Go.Proofs.YtaollcpoibgblaaDoor
