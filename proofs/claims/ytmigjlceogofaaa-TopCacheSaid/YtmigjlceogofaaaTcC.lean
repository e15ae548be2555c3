/- What stands in memory while TopCache goes through its keys. -/
import Derived.Test.YtmigjlceogofaaaTcB
namespace Go.Proofs.Ytmigjlceogofaaa
open Go.ChangeShapes Go.WideShapes Go.ChangeAt Go.RowKit
set_option linter.unusedVariables false
set_option linter.unusedSimpArgs false

/-- The four names. -/
def nm4 (j : Nat) : ByteArray := if j = 0 then ⟨#[97]⟩ else if j = 1 then ⟨#[98]⟩ else if j = 2 then ⟨#[99]⟩ else ⟨#[100]⟩
theorem nm4_ok (j : Nat) : strOk (nm4 j) := by
  unfold nm4 strOk
  split
  · decide
  · split
    · decide
    · split <;> decide
structure TcMem (w0 wr : World) (cb wb hb nb : Nat) (sz us : Int) (V : CView) (F : Nat → Prop) (Wt Hg : SMap) : Prop where
  cac : CacO cb sz us V wr F
  wt : MapIs wr strKf strKf strOk wb Wt
  hg : MapIs wr strKf strKf strOk hb Hg
  nms : ∀ j, j < 4 → wr.cell? ⟨nb, j, none⟩ = some (.string (nm4 j))
  nlt : nb < wr.heap.size
  fw : ¬ F wb
  fh : ¬ F hb
  fn : ¬ F nb
  wh : wb ≠ hb
  wn : wb ≠ nb
  hn : hb ≠ nb
  base : ∀ k, F k → w0.heap.size ≤ k
  bw : w0.heap.size ≤ wb
  bh : w0.heap.size ≤ hb
  below : Below w0.heap.size w0 wr
section
variable {w0 wr w' : World} {cb wb hb nb : Nat} {sz us us' : Int} {V V' : CView} {F F' : Nat → Prop} {Wt Hg Wt' Hg' : SMap}
theorem TcMem.grow (p : TcMem w0 wr cb wb hb nb sz us V F Wt Hg) (h : Below wr.heap.size wr w') : TcMem w0 w' cb wb hb nb sz us V F Wt Hg :=
  { p with
    cac := (CacO.own _ _ _ _).below p.cac h
    wt := p.wt.below h p.wt.lt
    hg := p.hg.below h p.hg.lt
    nms := fun j hj => (h.cell (p := ⟨nb, j, none⟩) p.nlt).trans (p.nms j hj)
    nlt := Nat.lt_of_lt_of_le p.nlt h.size
    below := p.below.trans (h.mono p.below.size) }
theorem TcMem.cache (p : TcMem w0 wr cb wb hb nb sz us V F Wt Hg) (ho : CacO cb sz us' V' w' F') (hu : Upd F wr F' w') : TcMem w0 w' cb wb hb nb sz us' V' F' Wt Hg :=
  { p with
    cac := ho
    wt := p.wt.keep hu.keeps p.fw
    hg := p.hg.keep hu.keeps p.fh
    nms := fun j hj => (hu.keeps.cell (p := ⟨nb, j, none⟩) p.nlt p.fn).trans (p.nms j hj)
    nlt := Nat.lt_of_lt_of_le p.nlt hu.keeps.size
    fw := fun hq => (hu.foot _ hq).elim p.fw (fun h => by have := p.wt.lt; omega)
    fh := fun hq => (hu.foot _ hq).elim p.fh (fun h => by have := p.hg.lt; omega)
    fn := fun hq => (hu.foot _ hq).elim p.fn (fun h => by have := p.nlt; omega)
    base := hu.base p.below.size p.base
    below := hu.belowB p.below (Nat.le_refl _) p.base }
theorem TcMem.setW (p : TcMem w0 wr cb wb hb nb sz us V F Wt Hg) (hk : Keeps (fun k => k = wb) wr w') (hm : MapIs w' strKf strKf strOk wb Wt') : TcMem w0 w' cb wb hb nb sz us V F Wt' Hg :=
  { p with
    cac := (CacO.own _ _ _ _).keep p.cac hk (fun k hf e => p.fw (by have e' : k = wb := e; rw [← e']; exact hf))
    wt := hm
    hg := p.hg.keep hk (Ne.symm p.wh)
    nms := fun j hj => (hk.cell (p := ⟨nb, j, none⟩) p.nlt (Ne.symm p.wn)).trans (p.nms j hj)
    nlt := Nat.lt_of_lt_of_le p.nlt hk.size
    below := p.below.trans (hk.toBelow p.below.size (fun k e => by have e' : k = wb := e; rw [e']; exact p.bw)) }
theorem TcMem.setH (p : TcMem w0 wr cb wb hb nb sz us V F Wt Hg) (hk : Keeps (fun k => k = hb) wr w') (hm : MapIs w' strKf strKf strOk hb Hg') : TcMem w0 w' cb wb hb nb sz us V F Wt Hg' :=
  { p with
    cac := (CacO.own _ _ _ _).keep p.cac hk (fun k hf e => p.fh (by have e' : k = hb := e; rw [← e']; exact hf))
    wt := p.wt.keep hk p.wh
    hg := hm
    nms := fun j hj => (hk.cell (p := ⟨nb, j, none⟩) p.nlt (Ne.symm p.hn)).trans (p.nms j hj)
    nlt := Nat.lt_of_lt_of_le p.nlt hk.size
    below := p.below.trans (hk.toBelow p.below.size (fun k e => by have e' : k = hb := e; rw [e']; exact p.bh)) }
/-- The beginning: the cache, two maps and the row of names. -/
theorem TcMem.start {w2 : World} (h0 : w0.heap.size ≤ w2.heap.size) (hb0 : Below w0.heap.size w0 w2) (ho : CacO cb sz us V w2 F) (hF : ∀ k, F k → w0.heap.size ≤ k) (t : TypeId) :
    TcMem w0 (((w2.alloc (.map #[] 0)).alloc (.map #[] 0)).alloc (.cells #[.string ⟨#[97]⟩, .string ⟨#[98]⟩, .string ⟨#[99]⟩, .string ⟨#[100]⟩] t)) cb w2.heap.size (w2.heap.size + 1) (w2.heap.size + 2) sz us V F [] [] := by
  have hal : Below w2.heap.size w2 (((w2.alloc (.map #[] 0)).alloc (.map #[] 0)).alloc (.cells #[.string ⟨#[97]⟩, .string ⟨#[98]⟩, .string ⟨#[99]⟩, .string ⟨#[100]⟩] t)) := (((Below.refl _ _).alloc (Nat.le_refl _) _).alloc (by simp) _).alloc (by simp; omega) _
  have hlt := (CacO.own _ _ _ _).lt ho
  refine { cac := (CacO.own _ _ _ _).below ho hal, wt := ((MapIs.made w2 _ _ _).alloc _).alloc _, hg := ?_, nms := ?_, nlt := by simp, fw := fun h => by have := hlt _ h; omega, fh := fun h => by have := hlt _ h; omega, fn := fun h => by have := hlt _ h; omega, wh := by omega, wn := by omega, hn := by omega, base := hF, bw := h0, bh := by omega, below := hb0.trans (hal.mono h0) }
  · have := (MapIs.made (w2.alloc (.map #[] 0)) strKf strKf strOk).alloc (.cells #[.string ⟨#[97]⟩, .string ⟨#[98]⟩, .string ⟨#[99]⟩, .string ⟨#[100]⟩] t)
    simpa using this
  · intro j hj
    have hblk : (((w2.alloc (.map #[] 0)).alloc (.map #[] 0)).alloc (.cells #[.string ⟨#[97]⟩, .string ⟨#[98]⟩, .string ⟨#[99]⟩, .string ⟨#[100]⟩] t)).heap[w2.heap.size + 2]? = some (.cells #[.string ⟨#[97]⟩, .string ⟨#[98]⟩, .string ⟨#[99]⟩, .string ⟨#[100]⟩] t (0, 0)) := by
      have := heap_alloc_new ((w2.alloc (.map #[] 0)).alloc (.map #[] 0)) (.cells #[.string ⟨#[97]⟩, .string ⟨#[98]⟩, .string ⟨#[99]⟩, .string ⟨#[100]⟩] t)
      simpa using this
    rw [cell_of_row _ _ _ _ _ _ hblk]
    have : j = 0 ∨ j = 1 ∨ j = 2 ∨ j = 3 := by omega
    rcases this with rfl | rfl | rfl | rfl <;> rfl
end
end Go.Proofs.Ytmigjlceogofaaa
