/- A cache in memory; contracts of cache.New, use, Len. -/
import Derived.Test.YtmigjlceogofaaaKitD
import Derived.Test.YtmigjlceogofaaaKitO
import Derived.Test.YtmigjlceogofaaaKitZ
import Derived.Test.YtmigjlceogofaaaKitK
import Derived.Test.YtmigjlceogofaaaProg
import Derived.MapViews
import Derived.Lib.MinMax
namespace Go.Proofs.Ytmigjlceogofaaa
open Go.ChangeShapes Go.WideShapes Go.ChangeAt Go.RowKit
set_option linter.unusedVariables false
set_option linter.unusedSimpArgs false

def ptrVf (b : Nat) : Value := .pointer (some ⟨b, 0, none⟩)

/-- What an entry holds: a value, its deps (and where they lie), when it was used. -/
structure EntV where
  val : ByteArray
  deps : List ByteArray
  used : Int
  A : Option Addr
  c : Nat
def EntV.row (e : EntV) : Array Value := #[.string e.val, .slice e.A e.deps.length e.c, .int .u64 e.used]
def EntV.at_ (e : EntV) (k : Nat) : Prop := ∃ o sp, e.A = some ⟨k, o, sp⟩

abbrev EntL := List (ByteArray × Nat)
/-- A cache in memory: the struct at cb, its map, the entries that this leads to, their deps. -/
structure CacAt (w : World) (cb bs : Nat) (sz us : Int) (S : EntL) (E : Nat → EntV) : Prop where
  blk : w.heap[cb]? = some (.cells #[.int .i64 sz, .int .u64 us, .map (some bs)] 97 (0, 0))
  ents : MapIs w strKf ptrVf strOk bs S
  rows : ∀ p ∈ S, w.heap[p.2]? = some (.cells (E p.2).row 115 (0, 0))
  deps : ∀ p ∈ S, StrsAt w w.heap.size (E p.2).A (E p.2).deps
  ne : ∀ p ∈ S, p.2 ≠ cb
  apart : (S.map (·.2)).Nodup
  dne : ∀ p ∈ S, ∀ k, (E p.2).at_ k → k < w.heap.size ∧ k ≠ cb ∧ k ≠ bs ∧ ∀ q ∈ S, k ≠ q.2
  vals : ∀ p ∈ S, (E p.2).val.size ≤ maxLen

/-- What is written. -/
def cacW (cb bs : Nat) (S : EntL) (k : Nat) : Prop := k = cb ∨ k = bs ∨ ∃ p ∈ S, p.2 = k
/-- All that it stands on. -/
def cacFoot (cb bs : Nat) (S : EntL) (E : Nat → EntV) (k : Nat) : Prop := cacW cb bs S k ∨ ∃ p ∈ S, (E p.2).at_ k

theorem CacAt.lt {w : World} {cb bs : Nat} {sz us : Int} {S : EntL} {E : Nat → EntV} (h : CacAt w cb bs sz us S E) : ∀ k, cacFoot cb bs S E k → k < w.heap.size := by
  rintro k ((rfl | rfl | ⟨p, hp, rfl⟩) | ⟨p, hp, hk⟩)
  · exact (Array.getElem?_eq_some_iff.1 h.blk).1
  · exact h.ents.lt
  · exact (Array.getElem?_eq_some_iff.1 (h.rows p hp)).1
  · exact (h.dne p hp k hk).1
theorem CacAt.keep {w w' : World} {cb bs : Nat} {sz us : Int} {S : EntL} {E : Nat → EntV} {G : Nat → Prop} (h : CacAt w cb bs sz us S E) (hk : Keeps G w w') (hG : ∀ k, cacFoot cb bs S E k → ¬ G k) : CacAt w' cb bs sz us S E where
  blk := (hk.block cb (h.lt cb (.inl (.inl rfl))) (hG cb (.inl (.inl rfl)))).trans h.blk
  ents := h.ents.keep hk (hG bs (.inl (.inr (.inl rfl))))
  rows := fun p hp => (hk.block _ (h.lt _ (.inl (.inr (.inr ⟨p, hp, rfl⟩)))) (hG _ (.inl (.inr (.inr ⟨p, hp, rfl⟩))))).trans (h.rows p hp)
  deps := fun p hp => ((h.deps p hp).keep hk (Nat.le_refl _) (fun b o sp e => hG b (.inr ⟨p, hp, o, sp, e⟩))).more hk.size
  ne := h.ne
  apart := h.apart
  dne := fun p hp k hkk => ⟨Nat.lt_of_lt_of_le (h.dne p hp k hkk).1 hk.size, (h.dne p hp k hkk).2⟩
  vals := h.vals
theorem CacAt.cb_ne {w : World} {cb bs : Nat} {sz us : Int} {S : EntL} {E : Nat → EntV} (h : CacAt w cb bs sz us S E) : cb ≠ bs ∧ ∀ p ∈ S, p.2 ≠ bs := by
  obtain ⟨es, c, h1, _⟩ := h.ents
  constructor
  · rintro rfl
    rw [h.blk] at h1; cases h1
  · rintro p hp e
    have := h.rows p hp
    rw [e, h1] at this; cases this
theorem cell_of_cac {w : World} {cb bs : Nat} {sz us : Int} {S : EntL} {E : Nat → EntV} (h : CacAt w cb bs sz us S E) :
    w.cell? ⟨cb, 0, none⟩ = some (.int .i64 sz) ∧ w.cell? ⟨cb, 1, none⟩ = some (.int .u64 us) ∧ w.cell? ⟨cb, 2, none⟩ = some (.map (some bs)) := by
  refine ⟨?_, ?_, ?_⟩ <;> (rw [cell_of_row w cb _ _ _ _ h.blk]; rfl)
theorem cell_of_ent {w : World} {cb bs : Nat} {sz us : Int} {S : EntL} {E : Nat → EntV} (h : CacAt w cb bs sz us S E) {p : ByteArray × Nat} (hp : p ∈ S) :
    w.cell? ⟨p.2, 0, none⟩ = some (.string (E p.2).val) ∧ w.cell? ⟨p.2, 1, none⟩ = some (.slice (E p.2).A (E p.2).deps.length (E p.2).c) ∧ w.cell? ⟨p.2, 2, none⟩ = some (.int .u64 (E p.2).used) := by
  refine ⟨?_, ?_, ?_⟩ <;> (rw [cell_of_row w p.2 _ _ _ _ (h.rows p hp)]; rfl)

def sizeOf' (n : Int) : Int := min (max n 0) 4096

set_option maxHeartbeats 400000 in
theorem cnew_any (n : Int) (w : World) :
    Calls Try.prog 15 #[.int .i64 n] w fun e w' => ∃ cb, e = .returned (.pointer (some ⟨cb, 0, none⟩)) ∧ CacAt w' cb w.heap.size (sizeOf' n) 0 [] (fun _ => ⟨ByteArray.empty, [], 0, none, 0⟩) ∧ w.heap.size ≤ cb ∧ Below w.heap.size w w' := by
  have hmm := @run_makeMap Try.prog
  go_enter Try.func15, Try.ntmps15
  go_wp2
  go_ret
  refine ⟨_, rfl, ⟨?_, ?_, by simp, by simp, by simp, by simp, by simp, by simp⟩, ?_, ((Below.refl _ _).alloc (by simp) _).alloc (by simp) _⟩
  · have := heap_alloc_new (w.alloc (.map #[] 0)) (.cells #[.int .i64 (sizeOf' n), .int .u64 0, .map (some w.heap.size)] 97)
    simpa [sizeOf'] using this
  · exact (MapIs.made w _ _ _).alloc _
  · omega

set_option maxHeartbeats 400000 in
theorem clen_any {w : World} {cb bs : Nat} {sz us : Int} {S : EntL} {E : Nat → EntV} (h : CacAt w cb bs sz us S E) :
    Calls Try.prog 20 #[.pointer (some ⟨cb, 0, none⟩)] w fun e w' => e = .returned (.int .i64 S.length) ∧ w = w' := by
  obtain ⟨c0, c1, c2⟩ := cell_of_cac h
  have hlen := h.ents.len (P := Try.prog) (t := 94) Try.underlying94 (ty := 3)
  go_enter Try.func20, Try.ntmps20
  go_wp2
  go_ret
  exact ⟨rfl, rfl⟩
end Go.Proofs.Ytmigjlceogofaaa
