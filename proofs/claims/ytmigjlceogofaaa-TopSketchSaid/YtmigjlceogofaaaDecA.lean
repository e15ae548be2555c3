/- Contracts of decay.New and decay.Weight; counters in memory. -/
import Derived.Test.YtmigjlceogofaaaDecP
import Derived.Test.YtmigjlceogofaaaKitR
import Derived.Test.YtmigjlceogofaaaKitL
import Derived.Test.YtmigjlceogofaaaProg
import Derived.MapViews
namespace Go.Proofs.Ytmigjlceogofaaa
open Go.ChangeShapes Go.WideShapes Go.ChangeAt Go.RowKit
set_option linter.unusedVariables false
set_option linter.unusedSimpArgs false

def mapVf (b : Nat) : Value := .map (some b)
theorem zero_map (w : World) : (zeroValue 86).run Try.prog w = .ok (.map none) w := by kernel_rfl

/-- A counter in memory: the struct at cb, its map, the maps that this leads to. -/
structure DecAt (w : World) (cb bs : Nat) (hf cnt : Int) (S : KeysL) (R : Nat → RowL) : Prop where
  blk : w.heap[cb]? = some (.cells #[.int .i64 hf, .int .i64 cnt, .map (some bs)] 80 (0, 0))
  sums : MapIs w strKf mapVf strOk bs S
  rows : ∀ p ∈ S, MapIs w intVf intVf intOk p.2 (R p.2)
  ne : ∀ p ∈ S, p.2 ≠ bs
  apart : (S.map (·.2)).Nodup

def decFoot (cb bs : Nat) (S : KeysL) (k : Nat) : Prop := k = cb ∨ k = bs ∨ ∃ p ∈ S, p.2 = k

def DecObj (w : World) (cb : Nat) (F : Nat → Prop) (hf cnt : Int) (hist : List AddD) : Prop :=
  ∃ bs S R, DecAt w cb bs hf cnt S R ∧ DecInv S R hist cnt ∧ F = decFoot cb bs S ∧ 1 ≤ hf ∧ hf ≤ 1099511627776

theorem DecAt.keep {w w' : World} {cb bs : Nat} {hf cnt : Int} {S : KeysL} {R : Nat → RowL} {G : Nat → Prop} (h : DecAt w cb bs hf cnt S R) (hk : Keeps G w w') (hG : ∀ k, decFoot cb bs S k → ¬ G k) : DecAt w' cb bs hf cnt S R where
  blk := (hk.block cb (Array.getElem?_eq_some_iff.1 h.blk).1 (hG cb (.inl rfl))).trans h.blk
  sums := h.sums.keep hk (hG bs (.inr (.inl rfl)))
  rows := fun p hp => (h.rows p hp).keep hk (hG _ (.inr (.inr ⟨p, hp, rfl⟩)))
  ne := h.ne
  apart := h.apart
theorem DecAt.foot_lt {w : World} {cb bs : Nat} {hf cnt : Int} {S : KeysL} {R : Nat → RowL} (h : DecAt w cb bs hf cnt S R) : ∀ k, decFoot cb bs S k → k < w.heap.size := by
  rintro k (rfl | rfl | ⟨p, hp, rfl⟩)
  · exact (Array.getElem?_eq_some_iff.1 h.blk).1
  · exact h.sums.lt
  · exact (h.rows p hp).lt
theorem DecAt.cb_ne {w : World} {cb bs : Nat} {hf cnt : Int} {S : KeysL} {R : Nat → RowL} (h : DecAt w cb bs hf cnt S R) : cb ≠ bs ∧ ∀ p ∈ S, p.2 ≠ cb := by
  have hb := h.blk
  constructor
  · rintro rfl
    obtain ⟨es, c, h1, _⟩ := h.sums
    rw [hb] at h1; cases h1
  · rintro p hp e
    obtain ⟨es, c, h1, _⟩ := h.rows p hp
    rw [e, hb] at h1; cases h1
theorem DecObj.keep {w w' : World} {cb : Nat} {F G : Nat → Prop} {hf cnt : Int} {hist : List AddD} (h : DecObj w cb F hf cnt hist) (hk : Keeps G w w') (hG : ∀ k, F k → ¬ G k) : DecObj w' cb F hf cnt hist := by
  obtain ⟨bs, S, R, h1, h2, rfl, h3⟩ := h
  exact ⟨bs, S, R, h1.keep hk hG, h2, rfl, h3⟩
theorem DecObj.lt {w : World} {cb : Nat} {F : Nat → Prop} {hf cnt : Int} {hist : List AddD} (h : DecObj w cb F hf cnt hist) : ∀ k, F k → k < w.heap.size := by
  obtain ⟨bs, S, R, h1, h2, rfl, _⟩ := h
  exact h1.foot_lt
theorem DecObj.below {w w' : World} {cb : Nat} {F : Nat → Prop} {hf cnt : Int} {hist : List AddD} (h : DecObj w cb F hf cnt hist) (hb : Below w.heap.size w w') : DecObj w' cb F hf cnt hist :=
  h.keep (Keeps.ofBelow hb (fun _ => False)) (fun _ _ h => h)
theorem cell_of_dec {w : World} {cb bs : Nat} {hf cnt : Int} {S : KeysL} {R : Nat → RowL} (h : DecAt w cb bs hf cnt S R) :
    w.cell? ⟨cb, 0, none⟩ = some (.int .i64 hf) ∧ w.cell? ⟨cb, 1, none⟩ = some (.int .i64 cnt) ∧ w.cell? ⟨cb, 2, none⟩ = some (.map (some bs)) := by
  refine ⟨?_, ?_, ?_⟩ <;> (rw [cell_of_row w cb _ _ _ _ h.blk]; rfl)

def halfOf (n : Int) : Int := min (max n 1) 1099511627776

set_option maxHeartbeats 400000 in
theorem dnew_any (n : Int) (w : World) :
    Calls Try.prog 9 #[.int .i64 n] w fun e w' => ∃ cb F, e = .returned (.pointer (some ⟨cb, 0, none⟩)) ∧ DecObj w' cb F (halfOf n) 0 [] ∧ (∀ k, F k → w.heap.size ≤ k) ∧ Below w.heap.size w w' := by
  have hmm := @run_makeMap Try.prog
  go_enter Try.func9, Try.ntmps9
  go_wp2
  go_ret
  refine ⟨_, _, rfl, ⟨w.heap.size, [], fun _ => [], ⟨?_, ?_, by simp, by simp, by simp⟩, DecInv.start _, rfl, by unfold halfOf; omega, by unfold halfOf; omega⟩, ?_, ((Below.refl _ _).alloc (by simp) _).alloc (by simp) _⟩
  · have := heap_alloc_new (w.alloc (.map #[] 0)) (.cells #[.int .i64 (halfOf n), .int .i64 0, .map (some w.heap.size)] 80)
    simpa [halfOf] using this
  · exact (MapIs.made w _ _ _).alloc _
  · rintro k (rfl | rfl | ⟨p, hp, _⟩)
    · omega
    · omega
    · simp at hp

def wtV (age half : Int) : Int := if age < 0 then 0 else if 20 < age / max half 1 then 0 else 1048576 / 2 ^ (age / max half 1).toNat

set_option maxHeartbeats 400000 in
theorem dweight_any (age half : Int) (w : World) (hage : age ≤ 9223372036854775807) :
    Calls Try.prog 39 #[.int .i64 age, .int .i64 half] w fun e w' => e = .returned (.int .i64 (wtV age half)) ∧ w = w' := by
  by_cases h1 : age < 0
  · go_enter Try.func39, Try.ntmps39
    go_wp2
    go_ret
    exact ⟨by simp [wtV, h1], rfl⟩
  · have hm : 1 ≤ max half 1 := by omega
    have hm0 : ¬ max half 1 = 0 := by omega
    have hq : age / max half 1 ≤ age := Int.ediv_le_self _ (by omega)
    have hq0 : 0 ≤ age / max half 1 := Int.ediv_nonneg (by omega) (by omega)
    have ht : age.tdiv (max half 1) = age / max half 1 := Int.tdiv_eq_ediv_of_nonneg (by omega)
    have hw : wrap64 (age.tdiv (max half 1)) = age / max half 1 := by
      rw [ht]
      generalize age / max half 1 = q at *
      unfold wrap64; omega
    have hv : wtV age half = if 20 < age / max half 1 then 0 else 1048576 / 2 ^ (age / max half 1).toNat := by unfold wtV; rw [if_neg h1]
    rw [hv]
    generalize hqe : age / max half 1 = q at *
    clear hv ht
    by_cases h2 : 20 < q
    · rw [if_pos h2]
      go_enter Try.func39, Try.ntmps39
      go_wp2
      go_ret
      exact ⟨rfl, rfl⟩
    · rw [if_neg h2]
      have hsh := shift_shr .i64 .i64 1048576 q hq0 (by show q ≤ 64; omega)
      go_enter Try.func39, Try.ntmps39
      go_wp2
      go_ret
      exact ⟨rfl, rfl⟩
end Go.Proofs.Ytmigjlceogofaaa
