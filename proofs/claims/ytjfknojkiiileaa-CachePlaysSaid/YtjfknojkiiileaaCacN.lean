/- The walk of CachePlays. -/
import Derived.Test.YtjfknojkiiileaaCacO
import Derived.Test.YtjfknojkiiileaaCacM
import Derived.Test.YtjfknojkiiileaaTxts
namespace Go.Proofs.Ytjfknojkiiileaa
open Go.ChangeShapes Go.WideShapes Go.ChangeAt Go.RowKit
set_option linter.unusedVariables false
set_option linter.unusedSimpArgs false

/-- What stands in memory ahead of deed k. -/
structure CpAt (w : World) (cb : Nat) (sz : Int) (k : Int) (V : CView) (us : Int) (mA : Option Addr) (mc : Nat) (m : List REnt) (F : Nat → Prop) (wr : World) : Prop where
  cac : CacO cb sz us V wr F
  base : ∀ k, F k → w.heap.size ≤ k
  inv : VInv us V
  sim : Sim V m
  ents : EntsAt wr mA mc m
  map_ : ∀ b o sp, mA = some ⟨b, o, sp⟩ → ¬ F b
  mlt : ∀ b o sp, mA = some ⟨b, o, sp⟩ → b < wr.heap.size
  mdep : ∀ e ∈ m, StrsAt w w.heap.size e.deps.adr e.deps.l ∧ (e.deps.l.length : Int) ≤ 10
  us0 : 0 ≤ us
  us1 : us ≤ k
  vl : (V.length : Int) ≤ k
  vs : (V.length : Int) ≤ sz
  vd : ∀ p ∈ V, (p.2.deps.length : Int) ≤ 10
  below : Below w.heap.size w wr

/-- The cache's part, ahead of the reference's turn. -/
structure CpMid (w : World) (cb : Nat) (sz : Int) (k : Int) (V : CView) (us : Int) (mA : Option Addr) (mc : Nat) (m : List REnt) (F : Nat → Prop) (wr : World) : Prop where
  cac : CacO cb sz us V wr F
  base : ∀ k, F k → w.heap.size ≤ k
  inv : VInv us V
  ents : EntsAt wr mA mc m
  map_ : ∀ b o sp, mA = some ⟨b, o, sp⟩ → ¬ F b
  mlt : ∀ b o sp, mA = some ⟨b, o, sp⟩ → b < wr.heap.size
  us0 : 0 ≤ us
  us1 : us ≤ k
  vl : (V.length : Int) ≤ k
  vs : (V.length : Int) ≤ sz
  vd : ∀ p ∈ V, (p.2.deps.length : Int) ≤ 10
  below : Below w.heap.size w wr

section
variable {w : World} {cb : Nat} {sz : Int} {k : Int} {V : CView} {us : Int} {mA : Option Addr} {mc : Nat} {m : List REnt} {F : Nat → Prop} {wr : World}
theorem CpAt.mid (h : CpAt w cb sz k V us mA mc m F wr) : CpMid w cb sz k V us mA mc m F wr := { h with }
theorem CpMid.grow (h : CpMid w cb sz k V us mA mc m F wr) {w' : World} (hb : Below wr.heap.size wr w') : CpMid w cb sz k V us mA mc m F w' :=
  { h with
    cac := (CacO.own cb sz us V).below h.cac hb
    ents := h.ents.below hb
    mlt := fun b o sp e => Nat.lt_of_lt_of_le (h.mlt b o sp e) hb.size
    below := h.below.trans (hb.mono h.below.size) }
theorem CpMid.more (h : CpMid w cb sz k V us mA mc m F wr) : CpMid w cb sz (k + 1) V us mA mc m F wr :=
  { h with us1 := by have := h.us1; omega, vl := by have := h.vl; omega }
theorem CpMid.turn (h : CpMid w cb sz k V us mA mc m F wr) {w' : World} {F' : Nat → Prop} {V' : CView} {us' : Int} (hu : Upd F wr F' w') (hc : CacO cb sz us' V' w' F') (hi : VInv us' V') (hus : us ≤ us' ∧ us' ≤ us + 1) (hvl : V'.length ≤ V.length + 1) (hvs : (V'.length : Int) ≤ sz) (hvd : ∀ p ∈ V', (p.2.deps.length : Int) ≤ 10) :
    CpMid w cb sz (k + 1) V' us' mA mc m F' w' where
  cac := hc
  base := hu.base h.below.size h.base
  inv := hi
  ents := ⟨(hu.keeps.reads h.ents.1 (Nat.le_refl _) h.map_).more hu.keeps.size, h.ents.2⟩
  map_ := fun b o sp e hf => by
    rcases hu.foot b hf with h1 | h1
    · exact h.map_ b o sp e h1
    · have := h.mlt b o sp e; omega
  mlt := fun b o sp e => Nat.lt_of_lt_of_le (h.mlt b o sp e) hu.keeps.size
  us0 := by have := h.us0; omega
  us1 := by have := h.us1; omega
  vl := by have := h.vl; omega
  vs := hvs
  vd := hvd
  below := hu.belowB h.below (Nat.le_refl _) h.base
theorem CpMid.put (h : CpMid w cb sz k V us mA mc m F wr) {w' : World} {F' : Nat → Prop} {V' : CView} {key val : ByteArray} {ds : List ByteArray} (hC : COut sz (mput V key ⟨val, ds, us + 1⟩) V') (hc : CacO cb sz (us + 1) V' w' F') (hu : Upd F wr F' w') (hds : (ds.length : Int) ≤ 10) :
    CpMid w cb sz (k + 1) V' (us + 1) mA mc m F' w' := by
  have hml := mput_len V key (⟨val, ds, us + 1⟩ : PEnt)
  refine h.turn hu hc (h.inv.put rfl hC) ⟨by omega, by omega⟩ (Nat.le_trans hC.len hml) (hC.size (nodup_mput h.inv.nd _ _) (by have := h.vs; omega)) (fun p hp => ?_)
  rcases mem_mput.1 (hC.sub' p hp) with ⟨h1, _⟩ | rfl
  · exact h.vd p h1
  · exact hds
theorem CpMid.use (h : CpMid w cb sz k V us mA mc m F wr) {w' : World} {F' : Nat → Prop} {key : ByteArray} (hc : CacO cb sz (us + 1) (useV V key (us + 1)) w' F') (hu : Upd F wr F' w') : CpMid w cb sz (k + 1) (useV V key (us + 1)) (us + 1) mA mc m F' w' := by
  have hl : (useV V key (us + 1)).length = V.length := by simp [useV]
  refine h.turn hu hc (h.inv.use key) ⟨by omega, by omega⟩ (by omega) (by have := h.vs; omega) (fun p hp => ?_)
  obtain ⟨p0, hp0, _, _, e, _⟩ := mem_useV hp
  rw [e]
  exact h.vd p0 hp0
theorem CpMid.touch (h : CpMid w cb sz k V us mA mc m F wr) {w' : World} {F' : Nat → Prop} {ds : List ByteArray} (hc : CacO cb sz us (touchV V ds) w' F') (hu : Upd F wr F' w') : CpMid w cb sz (k + 1) (touchV V ds) us mA mc m F' w' := by
  have hl : (touchV V ds).length ≤ V.length := List.length_filter_le _ _
  exact h.turn hu hc (h.inv.filter _) ⟨by omega, by omega⟩ (by omega) (by have := h.vs; omega) (fun p hp => h.vd p (List.mem_filter.1 hp).1)
/-- The reference's new row. -/
theorem CpMid.row (h : CpMid w cb sz k V us mA mc m F wr) {w' : World} {A' : Option Addr} {c' : Nat} {m' : List REnt} (hE : EntsAt w' A' c' m') (hn : ∀ b o sp, A' = some ⟨b, o, sp⟩ → wr.heap.size ≤ b ∧ b < w'.heap.size) (hb : Below wr.heap.size wr w') (hs : Sim V m') (hd : ∀ e ∈ m', StrsAt w w.heap.size e.deps.adr e.deps.l ∧ (e.deps.l.length : Int) ≤ 10) :
    CpAt w cb sz k V us A' c' m' F w' :=
  have hg := h.grow hb
  { hg with
    sim := hs
    ents := hE
    map_ := fun b o sp e hf => by
      have h1 := (hn b o sp e).1
      have h2 := (CacO.own cb sz us V).lt h.cac b hf
      omega
    mlt := fun b o sp e => (hn b o sp e).2
    mdep := hd }
theorem CpMid.row2 (h : CpMid w cb sz k V us mA mc m F wr) {w' : World} {A' : Option Addr} {c' : Nat} {m' : List REnt} (hE : EntsAt w' A' c' m') (hn : ∀ b o sp, A' = some ⟨b, o, sp⟩ → wr.heap.size ≤ b ∧ b < w'.heap.size) (hb : Below wr.heap.size wr w') : CpMid w cb sz k V us A' c' m' F w' :=
  have hg := h.grow hb
  { hg with
    ents := hE
    map_ := fun b o sp e hf => by
      have h1 := (hn b o sp e).1
      have h2 := (CacO.own cb sz us V).lt h.cac b hf
      omega
    mlt := fun b o sp e => (hn b o sp e).2 }
theorem CpMid.full (h : CpMid w cb sz k V us mA mc m F wr) (hs : Sim V m) (hd : ∀ e ∈ m, StrsAt w w.heap.size e.deps.adr e.deps.l ∧ (e.deps.l.length : Int) ≤ 10) : CpAt w cb sz k V us mA mc m F wr := { h with sim := hs, mdep := hd }
theorem CpMid.cell (h : CpMid w cb sz k V us mA mc m F wr) {wd w' : World} {F' : Nat → Prop} (hu : Upd F wd F' w') (hz : wr.heap.size < wd.heap.size) {j : Nat} {v : Value} (hv : wd.cell? ⟨wr.heap.size, j, none⟩ = some v) : w'.cell? ⟨wr.heap.size, j, none⟩ = some v :=
  (hu.keeps.cell (p := ⟨wr.heap.size, j, none⟩) hz (fun hF => Nat.lt_irrefl _ ((CacO.own cb sz us V).lt h.cac _ hF))).trans hv
end

/-- The loop's relation. -/
def CpRel (w : World) (cb : Nat) (sz : Int) (l : List CDeed) (rest : Nat) (mm ii : Value) (wr : World) : Prop :=
  ∃ (k : Nat) (V : CView) (us : Int) (mA : Option Addr) (mc : Nat) (m : List REnt) (F : Nat → Prop), mm = .slice mA m.length mc ∧ ii = .int .i64 k ∧ k + rest = l.length ∧ CpAt w cb sz k V us mA mc m F wr
end Go.Proofs.Ytjfknojkiiileaa
