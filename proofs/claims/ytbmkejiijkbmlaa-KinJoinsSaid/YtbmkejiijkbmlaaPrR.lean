/- Plain: tables added to one another, entry by entry; contract of own for a table that is shared. -/
import Derived.Test.YtbmkejiijkbmlaaPrEo
import Derived.Test.YtbmkejiijkbmlaaPrQ
namespace Go.Proofs.Ytbmkejiijkbmlaa
open Go.ChangeShapes Go.WideShapes Go.ChangeAt Go.RowKit Go.Shelf Go.Lib Go.Sort Go.Proofs
set_option linter.unusedVariables false
set_option linter.unusedSimpArgs false

def addS (f f' : ByteArray → Int) (left : CntL) : ByteArray → Int := fun a => f' a + f a - (mget left a).getD 0
def addR (g g' : ByteArray → ByteArray → Int) (left : RowsL) : ByteArray → ByteArray → Int := fun a b => if mget left a = none then g' a b + g a b else g' a b
def addI (g g' : ByteArray → ByteArray → Int) (left : RowsL) (k : ByteArray) (lr : CntL) : ByteArray → ByteArray → Int := fun a b => if a = k then g' a b + g a b - (mget lr b).getD 0 else addR g g' left a b

section
variable {κ υ : Type} [DecidableEq κ]
theorem mget_mdel (l : List (κ × υ)) (k x : κ) : mget (mdel l k) x = if x = k then none else mget l x := by
  induction l with
  | nil => simp [mdel, mget]
  | cons p l ih =>
    obtain ⟨a, b⟩ := p
    unfold mdel at ih ⊢
    rw [List.filter_cons]
    by_cases e : a = k
    · subst e
      by_cases e2 : x = a
      · subst e2
        simp at ih
        simp [mget]
        exact ih
      · have e3 : ¬ a = x := fun h => e2 h.symm
        simp [mget, e2, e3] at ih ⊢
        exact ih
    · by_cases e2 : a = x
      · subst e2
        simp [mget, e]
      · have e3 : ¬ x = a := fun h => e2 h.symm
        simp [mget, e, e2, e3] at ih ⊢
        exact ih
end
theorem addS_del (f f' : ByteArray → Int) {left : CntL} (hn : (left.map (·.1)).Nodup) {k : ByteArray} {n : Int} (h : (k, n) ∈ left) : setF (addS f f' left) k n = addS f f' (mdel left k) := by
  funext a
  unfold setF addS
  rw [mget_mdel]
  by_cases e : a = k
  · subst e
    rw [mget_of_mem hn h]
    simp
  · simp [e]
theorem addS_at (f f' : ByteArray → Int) {left : CntL} (hn : (left.map (·.1)).Nodup) {k : ByteArray} {n : Int} (h : (k, n) ∈ left) : addS f f' left k + n = f' k + f k := by
  unfold addS
  rw [mget_of_mem hn h]
  simp
theorem addS_nil (f f' : ByteArray → Int) : addS f f' [] = fun a => f' a + f a := by funext a; simp [addS, mget]
theorem addS_all {S : CntL} {C : RowsL} {R : Nat → CntL} {f : ByteArray → Int} {g : ByteArray → ByteArray → Int} (hI : TabInv S C R f g) (f' : ByteArray → Int) : addS f f' S = f' := by
  funext a
  unfold addS
  rw [hI.one]
  omega
theorem addR_nil (g g' : ByteArray → ByteArray → Int) : addR g g' [] = fun a b => g' a b + g a b := by funext a b; simp [addR, mget]
theorem addR_all {S : CntL} {C : RowsL} {R : Nat → CntL} {f : ByteArray → Int} {g : ByteArray → ByteArray → Int} (hI : TabInv S C R f g) (g' : ByteArray → ByteArray → Int) : addR g g' C = g' := by
  funext a b
  unfold addR
  have h := hI.two a b
  unfold pairN at h
  cases hm : mget C a with
  | none => rw [hm] at h; simp at h; simp [← h]
  | some r => simp
theorem addI_start {S : CntL} {C : RowsL} {R : Nat → CntL} {f : ByteArray → Int} {g : ByteArray → ByteArray → Int} (hI : TabInv S C R f g) (hC : (C.map (·.1)).Nodup) (g' : ByteArray → ByteArray → Int) {left : RowsL} (hl : (left.map (·.1)).Nodup) (hs : ∀ p ∈ left, p ∈ C) {k : ByteArray} {b : Nat} (h : (k, b) ∈ left) :
    addI g g' (mdel left k) k (R b) = addR g g' left := by
  funext x y
  unfold addI addR
  rw [mget_mdel]
  by_cases e : x = k
  · subst e
    have e2 := hI.two x y
    unfold pairN at e2
    rw [mget_of_mem hC (hs _ h)] at e2
    simp only [Option.bind_some] at e2
    rw [mget_of_mem hl h]
    simp [e2]
  · simp [e]
theorem addI_nil (g g' : ByteArray → ByteArray → Int) (left : RowsL) (k : ByteArray) : addI g g' (mdel left k) k [] = addR g g' (mdel left k) := by
  funext x y
  unfold addI addR
  rw [mget_mdel]
  by_cases e : x = k <;> simp [e, mget]
theorem addI_del (g g' : ByteArray → ByteArray → Int) (left : RowsL) (k : ByteArray) {lr : CntL} (hn : (lr.map (·.1)).Nodup) {x : ByteArray} {n : Int} (h : (x, n) ∈ lr) : setG (addI g g' left k lr) k x n = addI g g' left k (mdel lr x) := by
  funext a b
  unfold setG addI
  rw [mget_mdel]
  by_cases e : a = k
  · subst e
    by_cases e2 : b = x
    · subst e2
      rw [mget_of_mem hn h]
      simp
    · simp [e2]
  · simp [e]
theorem addI_at (g g' : ByteArray → ByteArray → Int) (left : RowsL) (k : ByteArray) {lr : CntL} (hn : (lr.map (·.1)).Nodup) {x : ByteArray} {n : Int} (h : (x, n) ∈ lr) : addI g g' left k lr k x + n = g' k x + g k x := by
  unfold addI
  rw [mget_of_mem hn h]
  simp

/-- What both tables hold from their entries that are left. -/
structure MgOne (w0 W : World) (r tt sb : Nat) (F0 : Nat → Prop) (f f' : ByteArray → Int) (g' : ByteArray → ByteArray → Int) (S left : CntL) (F' : Nat → Prop) : Prop where
  rg : RangeAt W strKf intVf r (some sb) left
  sub : ∀ p ∈ left, p ∈ S
  to_ : TabObj W tt F' (addS f f' left) g'
  upd : Upd F0 w0 F' W
  nr : ¬ F' r
theorem MgOne.step {w0 W W6 W7 : World} {r tt sb : Nat} {F0 F' F2 : Nat → Prop} {f f' : ByteArray → Int} {g' : ByteArray → ByteArray → Int} {S left : CntL} {k : ByteArray} {n : Int} (h : MgOne w0 W r tt sb F0 f f' g' S left F') (hmem : (k, n) ∈ left)
    (hrg6 : RangeAt W6 strKf intVf r (some sb) (mdel left k)) (hk6 : Keeps (fun j => j = r) W W6) (hr : w0.heap.size ≤ r) (hsb : sb < w0.heap.size) (hnf : ¬ F0 sb)
    (h7 : TabObj W7 tt F2 (setF (addS f f' left) k n) g') (hu7 : Upd F' W6 F2 W7) : MgOne w0 W7 r tt sb F0 f f' g' S (mdel left k) F2 := by
  have hz6 := hk6.size
  have hrl := h.rg.lt
  have hnsb : ¬ F' sb := fun hf => by
    rcases h.upd.foot _ hf with h1 | h1
    · exact hnf h1
    · omega
  rw [addS_del f f' h.rg.nodup hmem] at h7
  refine ⟨hrg6.keep hu7.keeps h.nr (fun b e => by injection e with e; subst e; exact hnsb), fun p hp => h.sub p (List.mem_filter.1 hp).1, h7, ?_, ?_⟩
  · have h6 : Upd F0 w0 F' W6 := ⟨h.upd.keeps.trans hk6 (fun q hq e => by omega), h.upd.foot⟩
    exact h6.trans hu7
  · intro hf
    rcases hu7.foot _ hf with h1 | h1
    · exact h.nr h1
    · omega
theorem MgOne.to6 {w0 W W6 : World} {r tt sb : Nat} {F0 F' : Nat → Prop} {f f' : ByteArray → Int} {g' : ByteArray → ByteArray → Int} {S left : CntL} (h : MgOne w0 W r tt sb F0 f f' g' S left F') (hk6 : Keeps (fun j => j = r) W W6) : TabObj W6 tt F' (addS f f' left) g' :=
  (TabObj.own _ _ _).keep h.to_ hk6 (fun k hk e => h.nr (by rw [← e]; exact hk))

structure MgTwo (w0 W : World) (r tt cb : Nat) (F0 : Nat → Prop) (f2 : ByteArray → Int) (g g' : ByteArray → ByteArray → Int) (C left : RowsL) (F' : Nat → Prop) : Prop where
  rg : RangeAt W strKf mapVf r (some cb) left
  sub : ∀ p ∈ left, p ∈ C
  to_ : TabObj W tt F' f2 (addR g g' left)
  upd : Upd F0 w0 F' W
  nr : ¬ F' r
structure MgIn (w0 W : World) (r r2 tt cb b : Nat) (F0 : Nat → Prop) (f2 : ByteArray → Int) (g g' : ByteArray → ByteArray → Int) (C left : RowsL) (k : ByteArray) (Rb lr : CntL) (F' : Nat → Prop) : Prop where
  rg : RangeAt W strKf mapVf r (some cb) left
  rg2 : RangeAt W strKf intVf r2 (some b) lr
  sub : ∀ p ∈ left, p ∈ C
  sub2 : ∀ p ∈ lr, p ∈ Rb
  to_ : TabObj W tt F' f2 (addI g g' left k lr)
  upd : Upd F0 w0 F' W
  nr : ¬ F' r
  nr2 : ¬ F' r2
  rr : r ≠ r2
theorem MgTwo.into {w0 W W6 W8 : World} {r tt cb b : Nat} {F0 F' : Nat → Prop} {f f2 : ByteArray → Int} {g g' : ByteArray → ByteArray → Int} {S : CntL} {C left : RowsL} {R : Nat → CntL} {k : ByteArray} (h : MgTwo w0 W r tt cb F0 f2 g g' C left F') (hI : TabInv S C R f g) (hC : (C.map (·.1)).Nodup) (hmem : (k, b) ∈ left)
    (hrg6 : RangeAt W6 strKf mapVf r (some cb) (mdel left k)) (hk6 : Keeps (fun j => j = r) W W6) (hr : w0.heap.size ≤ r)
    (hrg8 : RangeAt W8 strKf intVf W6.heap.size (some b) (R b)) (hb8 : Below W6.heap.size W6 W8) : MgIn w0 W8 r W6.heap.size tt cb b F0 f2 g g' C (mdel left k) k (R b) (R b) F' := by
  have hz6 := hk6.size
  have hrl := h.rg.lt
  have h6 : TabObj W6 tt F' f2 (addR g g' left) := (TabObj.own _ _ _).keep h.to_ hk6 (fun q hq e => h.nr (by rw [← e]; exact hq))
  have hlt6 := (TabObj.own _ _ _).lt h6
  refine ⟨hrg6.keep (Keeps.ofBelow hb8 (fun _ => False)) (fun e => e) (fun _ _ e => e), hrg8, fun p hp => h.sub p (List.mem_filter.1 hp).1, fun _ h => h, ?_, ?_, h.nr, fun hf => ?_, by omega⟩
  · rw [addI_start hI hC g' h.rg.nodup h.sub hmem]
    exact (TabObj.own _ _ _).below h6 hb8
  · have h6' : Upd F0 w0 F' W6 := ⟨h.upd.keeps.trans hk6 (fun q hq e => by omega), h.upd.foot⟩
    exact ⟨h6'.keeps.trans (Keeps.ofBelow hb8 (fun _ => False)) (fun _ _ e => e.elim), h.upd.foot⟩
  · have := hlt6 _ hf; omega
theorem MgIn.step {w0 W W6 W7 : World} {r r2 tt cb b : Nat} {F0 F' F2 : Nat → Prop} {f2 : ByteArray → Int} {g g' : ByteArray → ByteArray → Int} {C left : RowsL} {k : ByteArray} {Rb lr : CntL} {x : ByteArray} {n : Int} (h : MgIn w0 W r r2 tt cb b F0 f2 g g' C left k Rb lr F') (hmem : (x, n) ∈ lr)
    (hrg6 : RangeAt W6 strKf intVf r2 (some b) (mdel lr x)) (hk6 : Keeps (fun j => j = r2) W W6) (hr2 : w0.heap.size ≤ r2) (hcb : cb < w0.heap.size) (hncb : ¬ F0 cb) (hb : b < w0.heap.size) (hnb : ¬ F0 b)
    (h7 : TabObj W7 tt F2 f2 (setG (addI g g' left k lr) k x n)) (hu7 : Upd F' W6 F2 W7) : MgIn w0 W7 r r2 tt cb b F0 f2 g g' C left k Rb (mdel lr x) F2 := by
  have hz6 := hk6.size
  have hrl := h.rg.lt
  have hrl2 := h.rg2.lt
  have hno : ∀ q, q < w0.heap.size → ¬ F0 q → ¬ F' q := fun q hq hn hf => by
    rcases h.upd.foot _ hf with h1 | h1
    · exact hn h1
    · omega
  rw [addI_del g g' left k h.rg2.nodup hmem] at h7
  have hrg1 : RangeAt W6 strKf mapVf r (some cb) left := h.rg.keep hk6 h.rr (fun q e => by injection e with e; subst e; omega)
  refine ⟨hrg1.keep hu7.keeps h.nr (fun q e => by injection e with e; subst e; exact hno _ hcb hncb), hrg6.keep hu7.keeps h.nr2 (fun q e => by injection e with e; subst e; exact hno _ hb hnb), h.sub, fun p hp => h.sub2 p (List.mem_filter.1 hp).1, h7, ?_, ?_, ?_, h.rr⟩
  · have h6 : Upd F0 w0 F' W6 := ⟨h.upd.keeps.trans hk6 (fun q hq e => by omega), h.upd.foot⟩
    exact h6.trans hu7
  · intro hf
    rcases hu7.foot _ hf with h1 | h1
    · exact h.nr h1
    · omega
  · intro hf
    rcases hu7.foot _ hf with h1 | h1
    · exact h.nr2 h1
    · omega
theorem MgIn.to6 {w0 W W6 : World} {r r2 tt cb b : Nat} {F0 F' : Nat → Prop} {f2 : ByteArray → Int} {g g' : ByteArray → ByteArray → Int} {C left : RowsL} {k : ByteArray} {Rb lr : CntL} (h : MgIn w0 W r r2 tt cb b F0 f2 g g' C left k Rb lr F') (hk6 : Keeps (fun j => j = r2) W W6) : TabObj W6 tt F' f2 (addI g g' left k lr) :=
  (TabObj.own _ _ _).keep h.to_ hk6 (fun q hq e => h.nr2 (by rw [← e]; exact hq))
theorem MgIn.out {w0 W : World} {r r2 tt cb b : Nat} {F0 F' : Nat → Prop} {f2 : ByteArray → Int} {g g' : ByteArray → ByteArray → Int} {C left : RowsL} {k : ByteArray} {Rb : CntL} (h : MgIn w0 W r r2 tt cb b F0 f2 g g' C (mdel left k) k Rb [] F') : MgTwo w0 W r tt cb F0 f2 g g' C (mdel left k) F' :=
  ⟨h.rg, h.sub, by have := h.to_; rw [addI_nil] at this; exact this, h.upd, h.nr⟩

theorem cnt1_app (L M : List (List ByteArray)) : cnt1 (L ++ M) = fun a => cnt1 L a + cnt1 M a := by
  funext a
  unfold cnt1
  rw [List.countP_append]
  simp
theorem cnt2_app (L M : List (List ByteArray)) (a b : ByteArray) : cnt2 (L ++ M) a b = cnt2 L a b + cnt2 M a b := by
  unfold cnt2
  rw [List.countP_append]
  simp
theorem pairF_app (L M : List (List ByteArray)) : pairF (L ++ M) = fun a b => pairF L a b + pairF M a b := by
  funext a b
  unfold pairF
  split
  · simp
  · exact cnt2_app L M a b
theorem cnt2_le_one (L : List (List ByteArray)) (a b : ByteArray) : cnt2 L a b ≤ cnt1 L a := by
  unfold cnt2 cnt1
  have := List.countP_mono_left (l := L) (p := fun s => decide (a ∈ s ∧ b ∈ s)) (q := fun s => decide (a ∈ s)) (fun s _ h => by simp at h ⊢; exact h.1)
  omega
theorem none_of_one {L : List (List ByteArray)} (h : ∀ a, cnt1 L a = 0) : cnt1 L = (fun _ => 0) ∧ pairF L = fun _ _ => 0 := by
  refine ⟨funext h, ?_⟩
  funext a b
  have h1 := cnt2_le_one L a b
  have h2 := cnt2_le L a b
  have h3 := h a
  unfold pairF
  split
  · rfl
  · omega

theorem PAt.set {w : World} {pb tb : Nat} {sh : Bool} (h : PAt w pb tb sh) (tt : Nat) (sh' : Bool) : PAt ((w.setCell ⟨pb, 0, none⟩ (.pointer (some ⟨tt, 0, none⟩))).setCell ⟨pb, 1, none⟩ (.bool sh')) pb tt sh' := by
  unfold PAt at *
  simp [World.setCell, Array.getElem?_modify, h]
theorem PAt.set1 {w : World} {pb tb : Nat} {sh : Bool} (h : PAt w pb tb sh) (sh' : Bool) : PAt (w.setCell ⟨pb, 1, none⟩ (.bool sh')) pb tb sh' := by
  unfold PAt at *
  simp [World.setCell, Array.getElem?_modify, h]
theorem PAt.set_keeps (w : World) (pb : Nat) (v u : Value) : Keeps (fun k => k = pb) w ((w.setCell ⟨pb, 0, none⟩ v).setCell ⟨pb, 1, none⟩ u) :=
  ((Keeps.refl (fun k => k = pb) w).setCell (p := ⟨pb, 0, none⟩) (.inr rfl) _).setCell (p := ⟨pb, 1, none⟩) (.inr rfl) _
theorem PAt.free {w : World} {pb tb : Nat} {sh : Bool} (h : PAt w pb tb sh) (i : Nat) : w.frozen? ⟨pb, i, none⟩ = false := by
  unfold PAt at h
  simp [World.frozen?, h]

def OwnNew (w : World) (pb : Nat) (G : Nat → Prop) (f : ByteArray → Int) (g : ByteArray → ByteArray → Int) (e : Ending) (w' : World) : Prop :=
  ∃ tt G', e = .returned (.pointer (some ⟨tt, 0, none⟩)) ∧ PAt w' pb tt false ∧ TabObj w' tt G' f g ∧ ¬ G' pb ∧ (∀ k, G' k → w.heap.size ≤ k) ∧ Keeps (fun k => k = pb) w w'

set_option maxRecDepth 20000 in
set_option maxHeartbeats 2000000 in
theorem own_shared (pb tb : Nat) (G : Nat → Prop) (f : ByteArray → Int) (g : ByteArray → ByteArray → Int) (w : World) (h : PAt w pb tb true) (ht : TabObj w tb G f g) :
    Calls Try.prog 22 #[.pointer (some ⟨pb, 0, none⟩)] w (OwnNew w pb G f g) := by
  obtain ⟨c1, c2⟩ := h.cells
  have hpl := h.lt
  have Q := Lib.hid (tcopy_any tb G f g w ht)
  have HP := Lib.hid h
  clear h ht
  go_enter Try.func22, Try.ntmps22
  go_wp2_with fail
  refine Q.out.mono ?_
  rintro e w2 ⟨tt, G', rfl, hT, hF, hb⟩
  have hpl2 : pb < w2.heap.size := Nat.lt_of_lt_of_le hpl hb.size
  have hblk : w2.heap[pb]? = some (.cells #[.pointer (some ⟨tb, 0, none⟩), .bool true] 64 (0, 0)) := (hb.block pb hpl).trans HP.out
  have HT := Lib.hid hT
  have HF := Lib.hid hF
  have HB := Lib.hid hb
  clear hT hF hb Q
  have hz1 : w2.frozen? ⟨pb, 0, none⟩ = false := by simp [World.frozen?, hblk]
  have hz2 : w2.frozen? ⟨pb, 1, none⟩ = false := by simp [World.frozen?, hblk]
  have s0 : w2.cell? ⟨pb, 0, none⟩ = some (.pointer (some ⟨tb, 0, none⟩)) := by simp [World.cell?, hblk]
  have s1 : w2.cell? ⟨pb, 1, none⟩ = some (.bool true) := by simp [World.cell?, hblk]
  go_wp2
  go_ret
  have hnew : ¬ G' pb := fun h => by have := HF.out _ h; omega
  have hk := PAt.set_keeps w2 pb (.pointer (some ⟨tt, 0, none⟩)) (.bool false)
  refine ⟨tt, G', rfl, PAt.set (tb := tb) (sh := true) hblk tt false, (TabObj.own _ _ _).keep HT.out hk (fun k hk' e => hnew (e ▸ hk')), hnew, HF.out, (Keeps.ofBelow HB.out _).trans hk (fun _ _ e => e)⟩
end Go.Proofs.Ytbmkejiijkbmlaa
