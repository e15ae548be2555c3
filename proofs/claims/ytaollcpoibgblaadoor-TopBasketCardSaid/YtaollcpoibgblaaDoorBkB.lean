/- What (*Baskets).add does, plainly, round by round; what its stores do. -/
import Derived.Test.YtaollcpoibgblaaDoorBkA
import Derived.Test.YtaollcpoibgblaaDoorKitEn
import Derived.Test.YtaollcpoibgblaaDoorKitD
namespace Go.Proofs.YtaollcpoibgblaaDoor
open Go.ChangeShapes Go.WideShapes Go.ChangeAt Go.RowKit
set_option linter.unusedVariables false
set_option linter.unusedSimpArgs false

def incS (b : BkS) (x : ByteArray) : BkS := ⟨b.all, fun z => if z = x then b.sg z + 1 else b.sg z, b.ct⟩
def incC (b : BkS) (x y : ByteArray) : BkS := ⟨b.all, b.sg, fun z u => if z = x ∧ u = y then b.ct z u + 1 else b.ct z u⟩
def sF (S : SgD) : SinceF := fun x => mget S x
open Classical in
/-- Behind the rounds of all but those that are left. -/
noncomputable def outB (b : BkS) (S left : SgD) : BkS :=
  ⟨b.all + 1, fun x => b.sg x + (if (mget S x).isSome = true ∧ mget left x = none then 1 else 0), fun x y => b.ct x y + (if mget left x = none then twoK (sF S) x y else 0)⟩
open Classical in
noncomputable def inB (b : BkS) (S left : SgD) (x : ByteArray) (lf : SgD) : BkS :=
  ⟨b.all + 1, (outB b S (mdel left x)).sg, fun z y => b.ct z y + (if z = x then (if mget lf y = none then twoK (sF S) x y else 0) else if mget left z = none then twoK (sF S) z y else 0)⟩
theorem outB_all (b : BkS) (S : SgD) : outB b S S = ⟨b.all + 1, b.sg, b.ct⟩ := by
  unfold outB
  simp only [BkS.mk.injEq, true_and]
  constructor
  · funext x
    cases mget S x <;> simp
  · funext x y
    cases h : mget S x <;> simp [twoK, sF, h]
theorem outB_nil (b : BkS) (S : SgD) : outB b S [] = b.plus (oneK (sF S)) := by
  unfold outB oneK BkS.plus hasK
  simp only [BkS.mk.injEq, true_and]
  have hn : ∀ x, mget ([] : SgD) x = none := fun _ => rfl
  constructor
  · funext x
    simp only [hn, sF, and_true]
    by_cases h : (mget S x).isSome = true <;> simp [h]
  · funext x y
    simp [hn]
theorem inB_start (b : BkS) (S left : SgD) {x : ByteArray} {a : Int} (hm : mget left x = some a) (hS : mget S x = some a) : inB b S left x S = incS (outB b S left) x := by
  unfold inB outB incS
  simp only [BkS.mk.injEq, true_and]
  constructor
  · funext z
    simp only [mget_mdel]
    by_cases e : z = x
    · subst e; simp [hm, hS]
    · simp [e]
  · funext z y
    by_cases e : z = x
    · subst e
      simp only [if_true, hm]
      cases h : mget S y <;> simp [twoK, sF, h, hS]
    · simp [e]
theorem inB_end (b : BkS) (S left : SgD) (x : ByteArray) : inB b S left x [] = outB b S (mdel left x) := by
  unfold inB outB
  simp only [BkS.mk.injEq, true_and]
  have hn : ∀ x, mget ([] : SgD) x = none := fun _ => rfl
  funext z y
  simp only [mget_mdel, hn]
  by_cases e : z = x
  · subst e; simp
  · simp [e]
theorem inB_step (b : BkS) (S left : SgD) {x y : ByteArray} {a c : Int} (lf : SgD) (hx : mget S x = some a) (hm : mget lf y = some c) (hy : mget S y = some c) :
    inB b S left x (mdel lf y) = if a < c then incC (inB b S left x lf) x y else inB b S left x lf := by
  have e2 : twoK (sF S) x y = if a < c then 1 else 0 := by simp [twoK, sF, hx, hy]
  by_cases hac : a < c
  · rw [if_pos hac]
    unfold inB incC
    simp only [BkS.mk.injEq, true_and]
    funext z u
    simp only [mget_mdel]
    by_cases e : z = x
    · subst e
      by_cases e3 : u = y
      · subst e3
        simp [hm, e2, hac]
      · simp [e3]
    · simp [e]
  · rw [if_neg hac]
    unfold inB
    simp only [BkS.mk.injEq, true_and]
    funext z u
    simp only [mget_mdel]
    by_cases e : z = x
    · subst e
      by_cases e3 : u = y
      · subst e3
        simp [hm, e2, hac]
      · simp [e3]
    · simp [e]
theorem inB_bd {b : BkS} {n : Int} (h : BkOk b n) (S left lf : SgD) (x z y : ByteArray) : 0 ≤ (inB b S left x lf).ct z y ∧ (inB b S left x lf).ct z y ≤ n + 1 ∧ 0 ≤ (outB b S left).sg z ∧ (outB b S left).sg z ≤ n + 1 := by
  have h1 := h.a0; have h2 := h.s0 z; have h3 := h.c0 z y
  have h4 := twoK_bd (sF S) x y; have h5 := hasK_bd (sF S) x
  have h6 := twoK_bd (sF S) z y; have h7 := hasK_bd (sF S) z
  refine ⟨?_, ?_, ?_, ?_⟩
  · simp only [inB]; split <;> split <;> omega
  · simp only [inB]; split <;> split <;> omega
  · simp only [outB]; split <;> omega
  · simp only [outB]; split <;> omega

/-! ### Stores -/
section
variable {w : World} {bb sb cb : Nat} {D1 : SgD} {D2 : CtD} {b : BkS}
theorem BkAt.bump (h : BkAt w bb sb cb D1 D2 b) (v : Int) : BkAt (w.setCell ⟨bb, 0, none⟩ (.int .i64 v)) bb sb cb D1 D2 ⟨v, b.sg, b.ct⟩ := by
  have hk : Keeps (fun k => k = bb) w (w.setCell ⟨bb, 0, none⟩ (.int .i64 v)) := (Keeps.refl (fun k => k = bb) w).setCell (p := ⟨bb, 0, none⟩) (.inr rfl) _
  refine ⟨?_, h.m1.keep hk (fun e => h.ne.1 e.symm), h.m2.keep hk (fun e => h.ne.2.1 e.symm), h.ne, h.e1, h.e2⟩
  have hb := h.blk
  simp [World.setCell, Array.getElem?_modify, hb]
theorem BkAt.frozen (h : BkAt w bb sb cb D1 D2 b) (i : Nat) : w.frozen? ⟨bb, i, none⟩ = false := by simp [World.frozen?, h.blk]
theorem BkAt.look1 (h : BkAt w bb sb cb D1 D2 b) {x : ByteArray} (hx : strOk x) : (Instr.lookup 62 (.map (some sb)) (.string x) false).run Tryd.prog w = .ok (.int .i64 (b.sg x)) w := by
  have := h.m1.look strKey Tryd.underlying62 zeroB_int hx
  rw [← h.e1]
  cases hm : mget D1 x <;> rw [hm] at this <;> exact this
theorem BkAt.look2 (h : BkAt w bb sb cb D1 D2 b) {x y : ByteArray} (hx : twoOk (x, y)) : (Instr.lookup 63 (.map (some cb)) (twoKf (x, y)) false).run Tryd.prog w = .ok (.int .i64 (b.ct x y)) w := by
  have := h.m2.look twoKey Tryd.underlying63 zeroB_int hx
  rw [← h.e2]
  cases hm : mget D2 (x, y) <;> rw [hm] at this <;> exact this
theorem BkAt.putS (h : BkAt w bb sb cb D1 D2 b) {x : ByteArray} (hx : strOk x) : ∃ w', (Instr.mapUpdate 62 (.map (some sb)) (.string x) (.int .i64 (b.sg x + 1))).run Tryd.prog w = .ok () w' ∧ BkAt w' bb sb cb (mput D1 x (b.sg x + 1)) D2 (incS b x) ∧ Keeps (fun k => k = sb) w w' ∧ w'.heap.size = w.heap.size := by
  obtain ⟨w', hrun, hm, hk, hz⟩ := h.m1.put strKey Tryd.underlying62 hx (b.sg x + 1)
  refine ⟨w', hrun, ⟨(hk.block bb h.lt.1 h.ne.1).trans h.blk, hm, h.m2.keep hk (fun e => h.ne.2.2 e.symm), h.ne, ?_, h.e2⟩, hk, hz⟩
  intro z
  rw [mget_mput]
  simp only [incS]
  by_cases e : z = x
  · rw [if_pos e, if_pos e, e]; rfl
  · rw [if_neg e, if_neg e]; exact h.e1 z
theorem BkAt.putC (h : BkAt w bb sb cb D1 D2 b) {x y : ByteArray} (hx : twoOk (x, y)) :
    ∃ w1 w2 u clock, (Instr.mapEntry 63 (.map (some cb)) (twoKf (x, y))).run Tryd.prog w = .ok (.tuple #[u, .int .i64 (clock : Nat)]) w1 ∧ (Instr.entryStore 63 (.map (some cb)) (.int .i64 (clock : Nat)) (.int .i64 (b.ct x y + 1))).run Tryd.prog w1 = .ok () w2 ∧
      BkAt w2 bb sb cb D1 (mput D2 (x, y) (b.ct x y + 1)) (incC b x y) ∧ Keeps (fun k => k = cb) w w2 ∧ w2.heap.size = w.heap.size ∧
      w1.cell? ⟨bb, 2, none⟩ = some (.map (some cb)) ∧ (Instr.lookup 63 (.map (some cb)) (twoKf (x, y)) false).run Tryd.prog w1 = .ok (.int .i64 (b.ct x y)) w1 := by
  obtain ⟨w1, w2, u, clock, r1, r2, hm, hk, hz, hk1, hz1, l1, hm1, hl1⟩ := h.m2.entryAny twoKey Tryd.underlying63 hx (b.ct x y + 1) zeroB_int 0 rfl
  have hc2 : w1.cell? ⟨bb, 2, none⟩ = some (.map (some cb)) := (hk1.cell (p := ⟨bb, 2, none⟩) h.lt.1 h.ne.2.1).trans (by rw [cell_of_row w bb _ _ _ _ h.blk]; rfl)
  have hlk := hm1.look twoKey Tryd.underlying63 zeroB_int hx
  rw [hl1, if_pos rfl, h.e2] at hlk
  refine ⟨w1, w2, u, clock, r1, r2, ⟨(hk.block bb h.lt.1 h.ne.2.1).trans h.blk, h.m1.keep hk h.ne.2.2, hm, h.ne, h.e1, ?_⟩, hk, hz, hc2, hlk⟩
  intro z v
  rw [mget_mput]
  simp only [incC]
  by_cases e : (z, v) = (x, y)
  · obtain ⟨rfl, rfl⟩ := Prod.mk.inj e
    simp
  · rw [if_neg e, if_neg (fun h => e (by rw [h.1, h.2]))]
    exact h.e2 z v
end
end Go.Proofs.YtaollcpoibgblaaDoor
