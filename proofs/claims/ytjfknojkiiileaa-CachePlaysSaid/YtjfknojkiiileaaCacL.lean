/- The walk of CacheRow. -/
import Derived.Test.YtjfknojkiiileaaCacK
import Derived.Test.YtjfknojkiiileaaKitN
namespace Go.Proofs.Ytjfknojkiiileaa
open Go.ChangeShapes Go.WideShapes Go.ChangeAt Go.RowKit
set_option linter.unusedVariables false
set_option linter.unusedSimpArgs false

def CDeedOk2 (w : World) (d : CDeed) : Prop := CDeedOk w d ∧ (d.deps.adr = none → d.deps.cap = 0)
section
variable {H : Type} {enc : TypeId × Value → H} {w : World}
theorem dec_cdeed2 : Dec enc Try.prog w 29 cdeedCells (CDeedOk2 w) := by
  refine (dec_struct4 Try.underlying29 (by kernel_rfl) rfl (by kernel_rfl) (by kernel_rfl) (by kernel_rfl) (dec_int Try.underlying5) (dec_string Try.underlying9) (dec_string Try.underlying9)
    (dec_slice (k := 1) Try.underlying27 (by omega) (by kernel_rfl) (fun _ => rfl) (dec_string Try.underlying9))).map
    (fun a => ⟨a.1, a.2.1, a.2.2.1, a.2.2.2⟩) (fun a => rfl) ?_
  rintro ⟨k, s, v, d⟩ ⟨h1, h2, h3, h4, h5, h6, h7⟩
  refine ⟨⟨bounds_u8 h1, h2, h3, ⟨?_, h6⟩, h5⟩, h7⟩
  rw [flat_one] at h4
  exact h4
theorem dec_cdeeds2 : Dec enc Try.prog w 22 (slCells (α := CDeed)) (SlEx w 4 cdeedCells (CDeedOk2 w)) :=
  dec_slice Try.underlying22 (by omega) (by kernel_rfl) (fun _ => rfl) dec_cdeed2
end

/-- What stands in memory ahead of deed k. -/
structure RwAt (w : World) (cb : Nat) (sz : Int) (k : Int) (V : CView) (us : Int) (aA : Option Addr) (ac : Nat) (all : List ByteArray) (F : Nat → Prop) (wr : World) : Prop where
  cac : CacO cb sz us V wr F
  base : ∀ k, F k → w.heap.size ≤ k
  inv : VInv us V
  row : wr.ownsRow w.heap.size 9 1 (.slice aA all.length ac) all.length (all.map Value.string)
  rap : ∀ j, (Value.slice aA all.length ac).ownBlock = some j → ¬ F j
  asz : ∀ s ∈ all, s.size ≤ maxLen
  us0 : 0 ≤ us
  us1 : us ≤ k
  vl : (V.length : Int) ≤ k
  vs : (V.length : Int) ≤ sz
  al : (all.length : Int) ≤ 10 * k
  vd : ∀ p ∈ V, (p.2.deps.length : Int) ≤ 10
  below : Below w.heap.size w wr

section
variable {w : World} {cb : Nat} {sz : Int} {k : Int} {V : CView} {us : Int} {aA : Option Addr} {ac : Nat} {all : List ByteArray} {F : Nat → Prop} {wr : World}
theorem RwAt.grow (h : RwAt w cb sz k V us aA ac all F wr) {w' : World} (hb : Below wr.heap.size wr w') : RwAt w cb sz k V us aA ac all F w' :=
  { h with
    cac := (CacO.own cb sz us V).below h.cac hb
    row := (Keeps.ofBelow hb (fun _ => False)).own h.row (fun _ _ e => e)
    below := h.below.trans (hb.mono h.below.size) }
theorem RwAt.more (h : RwAt w cb sz k V us aA ac all F wr) : RwAt w cb sz (k + 1) V us aA ac all F wr :=
  { h with us1 := by have := h.us1; omega, vl := by have := h.vl; omega, al := by have := h.al; omega }
theorem RwAt.turn (h : RwAt w cb sz k V us aA ac all F wr) {w' : World} {F' : Nat → Prop} {V' : CView} {us' : Int} (hu : Upd F wr F' w') (hc : CacO cb sz us' V' w' F') (hi : VInv us' V') (hus : us ≤ us' ∧ us' ≤ us + 1) (hvl : V'.length ≤ V.length + 1) (hvs : (V'.length : Int) ≤ sz) (hvd : ∀ p ∈ V', (p.2.deps.length : Int) ≤ 10) :
    RwAt w cb sz (k + 1) V' us' aA ac all F' w' where
  cac := hc
  base := hu.base h.below.size h.base
  inv := hi
  row := hu.keeps.own h.row h.rap
  rap := fun j hj hf => by
    rcases hu.foot j hf with h1 | h1
    · exact h.rap j hj h1
    · have := (h.row.lt j hj).2; omega
  asz := h.asz
  us0 := by have := h.us0; omega
  us1 := by have := h.us1; omega
  vl := by have := h.vl; omega
  vs := hvs
  al := by have := h.al; omega
  vd := hvd
  below := hu.belowB h.below (Nat.le_refl _) h.base
theorem RwAt.put (h : RwAt w cb sz k V us aA ac all F wr) {w' : World} {F' : Nat → Prop} {V' : CView} {key val : ByteArray} {ds : List ByteArray} (hC : COut sz (mput V key ⟨val, ds, us + 1⟩) V') (hc : CacO cb sz (us + 1) V' w' F') (hu : Upd F wr F' w') (hds : (ds.length : Int) ≤ 10) :
    RwAt w cb sz (k + 1) V' (us + 1) aA ac all F' w' := by
  have hml := mput_len V key (⟨val, ds, us + 1⟩ : PEnt)
  refine h.turn hu hc (h.inv.put rfl hC) ⟨by omega, by omega⟩ (Nat.le_trans hC.len hml) (hC.size (nodup_mput h.inv.nd _ _) (by have := h.vs; omega)) (fun p hp => ?_)
  rcases mem_mput.1 (hC.sub' p hp) with ⟨h1, _⟩ | rfl
  · exact h.vd p h1
  · exact hds
theorem RwAt.use (h : RwAt w cb sz k V us aA ac all F wr) {w' : World} {F' : Nat → Prop} {key : ByteArray} (hc : CacO cb sz (us + 1) (useV V key (us + 1)) w' F') (hu : Upd F wr F' w') : RwAt w cb sz (k + 1) (useV V key (us + 1)) (us + 1) aA ac all F' w' := by
  have hl : (useV V key (us + 1)).length = V.length := by simp [useV]
  refine h.turn hu hc (h.inv.use key) ⟨by omega, by omega⟩ (by omega) (by have := h.vs; omega) (fun p hp => ?_)
  obtain ⟨p0, hp0, _, _, e, _⟩ := mem_useV hp
  rw [e]
  exact h.vd p0 hp0
/-- More deps. -/
theorem RwAt.app (h : RwAt w cb sz (k + 1) V us aA ac all F wr) (hal : (all.length : Int) ≤ 10 * k) {A' : Option Addr} {c' : Nat} {w' : World} {ds : List ByteArray} (hdl : (ds.length : Int) ≤ 10) (hds : ∀ s ∈ ds, s.size ≤ maxLen) {m : Nat} (hm : all.length + ds.length = m)
    (ho : w'.ownsRow w.heap.size 9 1 (.slice A' m c') m (all.map Value.string ++ ds.map Value.string)) (hg : wr.grownBy w' (Value.slice aA all.length ac).ownBlock) (hb : Below w.heap.size wr w') (hloc : (Value.slice A' m c').ownBlock = (Value.slice aA all.length ac).ownBlock ∨ (Value.slice A' m c').ownBlock = some wr.heap.size) :
    RwAt w cb sz (k + 1) V us A' c' (all ++ ds) F w' := by
  have hlen : (all ++ ds).length = m := by simp [hm]
  refine { h with
    cac := (CacO.own cb sz us V).keep h.cac (Keeps.ofGrown hg) (fun j hf e => h.rap j e.symm hf)
    row := ?_
    rap := ?_
    asz := fun s hs => (List.mem_append.1 hs).elim (h.asz s) (hds s)
    al := ?_
    below := h.below.trans hb }
  · rw [hlen, List.map_append]; exact ho
  · rw [hlen]; exact own_moves (fun k hf => (CacO.own cb sz us V).lt h.cac k hf) h.rap hloc
  · rw [hlen]; omega
end

/-- The loop's relation. -/
def RwRel (w : World) (cb : Nat) (sz : Int) (l : List CDeed) (rest : Nat) (aa ii : Value) (wr : World) : Prop :=
  ∃ (k : Nat) (V : CView) (us : Int) (aA : Option Addr) (ac : Nat) (all : List ByteArray) (F : Nat → Prop), aa = .slice aA all.length ac ∧ ii = .int .i64 k ∧ k + rest = l.length ∧ RwAt w cb sz k V us aA ac all F wr
end Go.Proofs.Ytjfknojkiiileaa
