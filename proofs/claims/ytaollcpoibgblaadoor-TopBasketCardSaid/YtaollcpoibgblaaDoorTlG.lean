/- What tale.Parse tells, plainly; its contract. -/
import Derived.Test.YtaollcpoibgblaaDoorTlF
import Derived.Test.YtaollcpoibgblaaDoorTlC
import Derived.Test.YtaollcpoibgblaaDoorKitL
import Derived.Test.YtaollcpoibgblaaDoorKitK
namespace Go.Proofs.YtaollcpoibgblaaDoor
open Go.ChangeShapes Go.WideShapes Go.ChangeAt Go.RowKit
set_option linter.unusedVariables false
set_option linter.unusedSimpArgs false

/-- A step. -/
structure StV where
  what : Int
  ev : EvV
  person : ByteArray
  now : Int
  keep : Int
  of_ : Int
def stCells (s : StV) : List Value := .int .i64 s.what :: (evCells s.ev ++ [.string s.person, .int .i64 s.now, .int .i64 s.keep, .int .i64 s.of_])
def stsCells (L : List StV) : List Value := L.flatMap stCells
def toldOf (L : List StV) : List EvV := (L.filter (fun s => decide (s.what = 0))).map (·.ev)
def cntS (E : List EvV) (s : ByteArray) : Int := ((E.filter (fun e => decide (e.src = s))).length : Int)
def EvOk (e : EvV) : Prop := ShapeE e ∧ (e.src = nm 115 0 ∨ e.src = nm 115 1) ∧ 0 ≤ e.at_ ∧ e.at_ ≤ 100000
def EvsOk (E : List EvV) : Prop := ∀ pre e post, E = pre ++ e :: post → EvOk e ∧ e.num = 1 + cntS pre e.src
theorem cntS_le (E : List EvV) (s : ByteArray) : 0 ≤ cntS E s ∧ cntS E s ≤ E.length := by
  unfold cntS
  have := List.length_filter_le (fun e : EvV => decide (e.src = s)) E
  omega
theorem cntS_snoc (E : List EvV) (e : EvV) (s : ByteArray) : cntS (E ++ [e]) s = cntS E s + (if e.src = s then 1 else 0) := by
  unfold cntS
  rw [List.filter_append, List.length_append]
  by_cases h : e.src = s <;> simp [h]
theorem EvsOk.nil : EvsOk [] := by intro pre e post h; simp at h
theorem EvsOk.snoc {E : List EvV} {e : EvV} (h : EvsOk E) (he : EvOk e) (hn : e.num = 1 + cntS E e.src) : EvsOk (E ++ [e]) := by
  intro pre x post hx
  rcases List.eq_nil_or_concat post with rfl | ⟨q, y, rfl⟩
  · have := List.append_inj' hx rfl
    obtain ⟨rfl, h2⟩ := this
    injection h2 with h2
    subst h2
    exact ⟨he, hn⟩
  · have hx2 : E ++ [e] = (pre ++ x :: q) ++ [y] := by rw [hx]; simp
    obtain ⟨h1, h2⟩ := List.append_inj' hx2 rfl
    exact h pre x q h1
theorem toldOf_snoc (L : List StV) (s : StV) : toldOf (L ++ [s]) = toldOf L ++ (if s.what = 0 then [s.ev] else []) := by
  unfold toldOf
  rw [List.filter_append, List.map_append]
  by_cases h : s.what = 0 <;> simp [h]
theorem toldOf_len (L : List StV) : (toldOf L).length ≤ L.length := by
  unfold toldOf
  rw [List.length_map]
  exact List.length_filter_le _ _
theorem EvsOk.num {E : List EvV} (h : EvsOk E) {pre post : List EvV} {e : EvV} (he : E = pre ++ e :: post) : 1 ≤ e.num ∧ e.num ≤ E.length := by
  obtain ⟨h1, h2⟩ := h pre e post he
  have := cntS_le pre e.src
  rw [he, List.length_append, List.length_cons]
  omega
/-- No two have one number of one source. -/
theorem EvsOk.apart {E : List EvV} (h : EvsOk E) {pre post : List EvV} {e : EvV} (he : E = pre ++ e :: post) : ∀ x ∈ pre, ¬ (x.src = e.src ∧ x.num = e.num) := by
  rintro x hx ⟨h1, h2⟩
  obtain ⟨p, q, hp⟩ := List.append_of_mem hx
  have e1 := (h pre e post he).2
  have e2 := (h p x (q ++ e :: post) (by rw [he, hp]; simp)).2
  rw [← h2, e2, h1, hp] at e1
  have e3 : cntS (p ++ x :: q) e.src = cntS p e.src + 1 + cntS q e.src := by
    have : p ++ x :: q = (p ++ [x]) ++ q := by simp
    rw [this]
    unfold cntS
    simp [List.filter_append, h1]
    omega
  have := (cntS_le q e.src).1
  omega
theorem stCells_len (s : StV) : (stCells s).length = 13 := rfl
theorem stsCells_len (L : List StV) : (stsCells L).length = L.length * 13 := by
  unfold stsCells
  induction L with
  | nil => rfl
  | cons s L ih => rw [List.flatMap_cons, List.length_append, ih, stCells_len, List.length_cons]; omega
theorem stsCells_snoc (L : List StV) (s : StV) : stsCells (L ++ [s]) = stsCells L ++ stCells s := by unfold stsCells; rw [List.flatMap_append]; simp

def Fst1 (W : World) (bb fb rb : Nat) (sl : Value) (rest : Nat) (i : Value) (wr : World) : Prop :=
  ∃ (k : Nat) (l : List Int), i = .int .i64 k ∧ k + rest = 8 ∧ Hid (l.length = 8) ∧ Hid (wr.heap[fb]? = some (.cells (l.map (Value.int .i64)).toArray 76 (0, 0))) ∧ Hid (wr.heap[bb]? = some (.cells #[sl] 22 (0, 0))) ∧
    Hid (∃ z : List Value, wr.heap[rb]? = some (.cells z.toArray 55 (0, 0)) ∧ z.length = 24) ∧ Hid (Below W.heap.size W wr)

def Fst2 (W0 : World) (xb : Nat) (rest : Nat) (i : Value) (wx : World) : Prop :=
  ∃ (j : Nat) (l : List Int), i = .int .i64 j ∧ j + rest = 5 ∧ Hid (l.length = 5) ∧ Hid (∀ n ∈ l, 0 ≤ n ∧ n ≤ 255) ∧ Hid (wx.heap[xb]? = some (.cells (l.map (Value.int .i64)).toArray 78 (0, 0))) ∧ Hid (Below W0.heap.size W0 wx) ∧ Hid (W0.heap.size + 1 ≤ wx.heap.size)
/-- The tale's struct as it grows. -/
def tlCells (sc : List Value) (A : Option Addr) (n c : Nat) (en : Int) : List Value := sc ++ [.slice A n c, .int .i64 en]
theorem tl_at {sc : List Value} (h : sc.length = 22) (A : Option Addr) (n c : Nat) (en : Int) : (tlCells sc A n c en)[22]? = some (.slice A n c) ∧ (tlCells sc A n c en)[23]? = some (.int .i64 en) ∧ (tlCells sc A n c en).length = 24 := by
  unfold tlCells
  refine ⟨?_, ?_, by simp [h]⟩
  · rw [List.getElem?_append_right (by omega), h]; rfl
  · rw [List.getElem?_append_right (by omega), h]; rfl
theorem tl_set22 {sc : List Value} (h : sc.length = 22) (A B : Option Addr) (n c m d : Nat) (en : Int) : (tlCells sc A n c en).set 22 (.slice B m d) = tlCells sc B m d en := by
  unfold tlCells
  rw [List.set_append_right _ _ (by omega), h]; rfl
theorem tl_set23 {sc : List Value} (h : sc.length = 22) (A : Option Addr) (n c : Nat) (en e2 : Int) : (tlCells sc A n c en).set 23 (.int .i64 e2) = tlCells sc A n c e2 := by
  unfold tlCells
  rw [List.set_append_right _ _ (by omega), h]; rfl
structure PBase (W : World) (bb rb tb mb Bs : Nat) (sl : Value) (k : Nat) (L : List StV) (sc : List Value) (A : Option Addr) (c : Nat) (en : Int) (D : List (ByteArray × Int)) (wr : World) : Prop where
  len : L.length = k
  tl : wr.heap[tb]? = some (.cells (tlCells sc A k c en).toArray 55 (0, 0))
  scs : sc.length = 22 ∧ ∀ u ∈ sc, u.oneCell' = true
  own : wr.ownsRow Bs 59 13 (.slice A k c) k (stsCells L)
  mp : MapIs wr strKf intVf strOk mb D
  bx : wr.heap[bb]? = some (.cells #[sl] 22 (0, 0))
  rx : ∃ z : List Value, wr.heap[rb]? = some (.cells z.toArray 55 (0, 0)) ∧ z.length = 24
  bel : Below W.heap.size W wr
  sz : Bs ≤ wr.heap.size
  lt : tb < Bs ∧ mb < Bs ∧ bb < Bs ∧ rb < Bs ∧ tb ≠ bb ∧ tb ≠ rb ∧ mb ≠ tb ∧ mb ≠ bb ∧ mb ≠ rb ∧ W.heap.size ≤ tb ∧ W.heap.size ≤ mb ∧ W.heap.size ≤ bb ∧ W.heap.size ≤ rb ∧ W.heap.size ≤ Bs
/-- How many were told of each source; all are right. -/
def CntOk (D : List (ByteArray × Int)) (L : List StV) : Prop := EvsOk (toldOf L) ∧ ∀ s, (mget D s).getD 0 = cntS (toldOf L) s
def PL (W : World) (n bb rb tb mb Bs : Nat) (sl : Value) (rest : Nat) (i : Value) (wr : World) : Prop :=
  ∃ (k m : Nat) (L : List StV) (sc : List Value) (A : Option Addr) (c : Nat) (en : Int) (D : List (ByteArray × Int)), i = .int .i64 m ∧ m = 8 + 5 * k ∧ k + rest = 60 ∧ (1000 ≤ en ∧ en ≤ 1000 + 15 * k) ∧ (n = 0 → en = 1000) ∧ Hid (PBase W bb rb tb mb Bs sl k L sc A c en D wr) ∧ Hid (CntOk D L)
section
variable {W : World} {bb rb tb mb Bs : Nat} {sl : Value} {k : Nat} {L : List StV} {sc : List Value} {A : Option Addr} {c : Nat} {en : Int} {D : List (ByteArray × Int)} {w1 w2 : World}
theorem PBase.keep (h : PBase W bb rb tb mb Bs sl k L sc A c en D w1) (hb : Below w1.heap.size w1 w2) : PBase W bb rb tb mb Bs sl k L sc A c en D w2 where
  len := h.len
  tl := (hb.block tb (Array.getElem?_eq_some_iff.1 h.tl).1).trans h.tl
  scs := h.scs
  own := (Keeps.ofBelow hb (fun _ => False)).own h.own (fun _ _ e => e)
  mp := h.mp.below hb h.mp.lt
  bx := (hb.block bb (Array.getElem?_eq_some_iff.1 h.bx).1).trans h.bx
  rx := by
    obtain ⟨z, h1, h2⟩ := h.rx
    exact ⟨z, (hb.block rb (Array.getElem?_eq_some_iff.1 h1).1).trans h1, h2⟩
  bel := h.bel.trans (hb.mono h.bel.size)
  sz := Nat.le_trans h.sz hb.size
  lt := h.lt
theorem PBase.map {D2 : List (ByteArray × Int)} (h : PBase W bb rb tb mb Bs sl k L sc A c en D w1) (hk : Keeps (fun x => x = mb) w1 w2) (hm : MapIs w2 strKf intVf strOk mb D2) : PBase W bb rb tb mb Bs sl k L sc A c en D2 w2 := by
  obtain ⟨l1, l2, l3, l4, l5, l6, l7, l8, l9, l10, l11, l12, l13, l14⟩ := h.lt
  refine ⟨h.len, (hk.block tb (Array.getElem?_eq_some_iff.1 h.tl).1 (Ne.symm l7)).trans h.tl, h.scs, hk.own h.own (fun x hx e => ?_), hm, (hk.block bb (Array.getElem?_eq_some_iff.1 h.bx).1 (Ne.symm l8)).trans h.bx, ?_, h.bel.trans (hk.toBelow h.bel.size (fun x e => by omega)), Nat.le_trans h.sz hk.size, h.lt⟩
  · subst e
    have := (h.own.lt x hx).1
    omega
  · obtain ⟨z, h1, h2⟩ := h.rx
    exact ⟨z, (hk.block rb (Array.getElem?_eq_some_iff.1 h1).1 (Ne.symm l9)).trans h1, h2⟩
theorem PBase.far {sb : Nat} (h : PBase W bb rb tb mb Bs sl k L sc A c en D w1) (hk : Keeps (fun x => x = sb) w1 w2) (hs : Bs ≤ sb ∧ ∀ g, (Value.slice A k c).ownBlock = some g → g < sb) : PBase W bb rb tb mb Bs sl k L sc A c en D w2 := by
  obtain ⟨l1, l2, l3, l4, l5, l6, l7, l8, l9, l10, l11, l12, l13, l14⟩ := h.lt
  refine ⟨h.len, (hk.block tb (Array.getElem?_eq_some_iff.1 h.tl).1 (by omega)).trans h.tl, h.scs, hk.own h.own (fun x hx e => ?_), h.mp.keep hk (by omega), (hk.block bb (Array.getElem?_eq_some_iff.1 h.bx).1 (by omega)).trans h.bx, ?_, h.bel.trans (hk.toBelow h.bel.size (fun x e => by omega)), Nat.le_trans h.sz hk.size, h.lt⟩
  · have := hs.2 x hx
    omega
  · obtain ⟨z, h1, h2⟩ := h.rx
    exact ⟨z, (hk.block rb (Array.getElem?_eq_some_iff.1 h1).1 (by omega)).trans h1, h2⟩
theorem grown_cellN {w w' : World} {own : Option Nat} (hg : w.grownBy w' own) {b : Nat} (hb : b < w.heap.size) (hne : own ≠ some b) (j : Nat) : w'.cell? ⟨b, j, none⟩ = w.cell? ⟨b, j, none⟩ := World.cell?_of_block (w := w) (hg.block b hb (fun e => hne e.symm))
theorem PBase.oneCell (h : PBase W bb rb tb mb Bs sl k L sc A c en D w1) (x y : Value) (hx : x.oneCell' = true) (hy : y.oneCell' = true) : ∀ u ∈ sc ++ [x, y], u.oneCell' = true := by
  intro u hu
  rcases List.mem_append.1 hu with hu | hu
  · exact h.scs.2 u hu
  · simp at hu
    rcases hu with rfl | rfl
    · exact hx
    · exact hy
theorem PBase.oneTl (h : PBase W bb rb tb mb Bs sl k L sc A c en D w1) : ∀ u ∈ tlCells sc A k c en, u.oneCell' = true := h.oneCell (.slice A k c) (.int .i64 en) rfl rfl
/-- Behind a round: the steps' row has one more, the end is another. -/
theorem PBase.next (h : PBase W bb rb tb mb Bs sl k L sc A c en D w1) (s : StV) {A2 : Option Addr} {c2 : Nat} (hown : w2.ownsRow Bs 59 13 (.slice A2 (k + 1) c2) (k + 1) (stsCells L ++ stCells s)) (hb : Below Bs w1 w2) (e2 : Int) :
    PBase W bb rb tb mb Bs sl (k + 1) (L ++ [s]) sc A2 c2 e2 D ((w2.setCell ⟨tb, 22, none⟩ (.slice A2 (k + 1) c2)).setCell ⟨tb, 23, none⟩ (.int .i64 e2)) := by
  obtain ⟨l1, l2, l3, l4, l5, l6, l7, l8, l9, l10, l11, l12, l13, l14⟩ := h.lt
  have htl := (hb.block tb l1).trans h.tl
  have hk : Keeps (fun x => x = tb) w2 ((w2.setCell ⟨tb, 22, none⟩ (.slice A2 (k + 1) c2)).setCell ⟨tb, 23, none⟩ (.int .i64 e2)) := ((Keeps.refl (fun x => x = tb) w2).setCell (p := ⟨tb, 22, none⟩) (.inr rfl) _).setCell (p := ⟨tb, 23, none⟩) (.inr rfl) _
  refine ⟨by rw [List.length_append, h.len]; rfl, ?_, h.scs, ?_, (h.mp.below hb l2).keep hk l7, ?_, ?_, ?_, Nat.le_trans h.sz (Nat.le_trans hb.size hk.size), h.lt⟩
  · have h1 := setCell_blk htl 22 (.slice A2 (k + 1) c2)
    rw [tl_set22 h.scs.1] at h1
    have h2 := setCell_blk h1 23 (.int .i64 e2)
    rw [tl_set23 h.scs.1] at h2
    exact h2
  · rw [stsCells_snoc]
    refine hk.own hown (fun x hx e => ?_)
    subst e
    have := (hown.lt x hx).1
    omega
  · exact setCell_oth (setCell_oth ((hb.block bb l3).trans h.bx) (Ne.symm l5) 22 _) (Ne.symm l5) 23 _
  · obtain ⟨z, h1, h2⟩ := h.rx
    exact ⟨z, setCell_oth (setCell_oth ((hb.block rb l4).trans h1) (Ne.symm l6) 22 _) (Ne.symm l6) 23 _, h2⟩
  · exact ((h.bel.trans (hb.mono l14)).setCell (p := ⟨tb, 22, none⟩) l10 _).setCell (p := ⟨tb, 23, none⟩) l10 _
end
theorem CntOk.skip {D : List (ByteArray × Int)} {L : List StV} (h : CntOk D L) (s : StV) (hs : s.what ≠ 0) : CntOk D (L ++ [s]) := by
  have ht := toldOf_snoc L s
  rw [if_neg hs, List.append_nil] at ht
  unfold CntOk
  rw [ht]
  exact h
theorem CntOk.tell {D : List (ByteArray × Int)} {L : List StV} (h : CntOk D L) (s : StV) (hs : s.what = 0) (he : EvOk s.ev) (hn : s.ev.num = 1 + cntS (toldOf L) s.ev.src) : CntOk (mput D s.ev.src (1 + cntS (toldOf L) s.ev.src)) (L ++ [s]) := by
  have ht := toldOf_snoc L s
  rw [if_pos hs] at ht
  unfold CntOk
  rw [ht]
  refine ⟨h.1.snoc he hn, fun x => ?_⟩
  rw [mget_mput, cntS_snoc]
  by_cases e : x = s.ev.src
  · subst e; simp; omega
  · rw [if_neg e, if_neg (fun q => e q.symm), h.2 x]; simp

theorem cntTell {D : List (ByteArray × Int)} {L : List StV} {E : EvV} {x0 n0 s2 en : Int} {tp : ByteArray} (h : CntOk D L) (hE : E.src = nm 115 (srcOf x0) ∧ E.num = n0 + 1 ∧ 0 ≤ E.at_ ∧ E.at_ ≤ en ∧ ShapeE E) (hn : cntS (toldOf L) tp = n0) (ht : nm 115 s2 = tp) (hs : srcOf x0 = s2) (hb : 0 ≤ s2 ∧ s2 ≤ 1) (he : en ≤ 100000) :
    CntOk (mput D tp (n0 + 1)) (L ++ [⟨0, E, ⟨#[]⟩, en, 0, 0⟩]) := by
  obtain ⟨h1, h2, h3, h4, h5⟩ := hE
  have e1 : E.src = tp := by rw [h1, hs, ht]
  have := h.tell ⟨0, E, ⟨#[]⟩, en, 0, 0⟩ rfl ⟨h5, ?_, h3, Int.le_trans h4 he⟩ ?_
  · simp only [e1, hn] at this
    rw [Int.add_comm] at this
    exact this
  · show E.src = _ ∨ E.src = _
    rw [e1, ← ht]
    rcases (show s2 = 0 ∨ s2 = 1 by omega) with rfl | rfl
    · exact .inl rfl
    · exact .inr rfl
  · show E.num = 1 + cntS (toldOf L) E.src
    rw [e1, hn, h2]
    omega
theorem st_info : (Tryd.prog.info? 59).map (fun i => (i.zero, i.size, i.bytes)) = some (some (.agg #[.int .i64 0, .string ⟨#[]⟩, .int .i64 0, .int .i64 0, .int .i64 0, .string ⟨#[]⟩, .string ⟨#[]⟩, .int .i64 0, .string ⟨#[]⟩, .string ⟨#[]⟩, .int .i64 0, .int .i64 0, .int .i64 0]), 13, 144) := by kernel_rfl
theorem zero_int (w : World) : (zeroValue 3).run Tryd.prog w = .ok (.int .i64 0) w := by kernel_rfl
theorem stCells_one (s : StV) : ∀ u ∈ stCells s, u.oneCell' = true := by
  intro u hu
  simp [stCells, evCells] at hu
  rcases hu with rfl | rfl | rfl | rfl | rfl | rfl | rfl | rfl | rfl | rfl | rfl | rfl | rfl <;> rfl
def zeroEv : EvV := ⟨⟨#[]⟩, 0, 0, 0, ⟨#[]⟩, ⟨#[]⟩, 0, ⟨#[]⟩⟩

def ParseNew (n : Nat) (w : World) (e : Ending) (w' : World) : Prop :=
  ∃ (cs : List Value) (A : Option Addr) (c : Nat) (L : List StV) (en : Int), e = .returned (.agg (cs ++ [Value.slice A L.length c, Value.int .i64 en]).toArray) ∧ cs.length = 22 ∧ (∀ u ∈ cs, u.oneCell' = true) ∧
    Reads w' w'.heap.size 13 A L.length (stsCells L) ∧ EvsOk (toldOf L) ∧ L.length ≤ 60 ∧ (n = 0 → en = 1000) ∧ Below w.heap.size w w'

set_option maxRecDepth 20000 in
set_option maxHeartbeats 4000000 in
theorem parse_any (A : Option Addr) (c : Nat) (l : List Int) (w : World) (hr : U8At w w.heap.size A l) (hk : KdAt w) (hl : l.length ≤ 300) :
    Calls Tryd.prog 16 #[.slice A l.length c] w (ParseNew l.length w) := by
  have HR := Lib.hid hr
  have HK := Lib.hid hk
  clear hr hk
  obtain ⟨sl, hsl⟩ : ∃ sl, sl = Value.slice A l.length c := ⟨_, rfl⟩
  go_enter Tryd.func16, Tryd.ntmps16
  go_wp2_with fail
  go_loopg [16] 8 (Fst1 w w.heap.size (w.heap.size + 1 + 1) (w.heap.size + 1) (.slice A l.length c))
  case atStart =>
    obtain ⟨h1, h2, h3, h4⟩ := alloc3 w (Obj.cells #[Value.slice A l.length c] 22) (Obj.cells #[.int .i64 0, .int .i64 0, .int .i64 0, .int .i64 0, .int .i64 0, .int .i64 0, .int .i64 0, .int .i64 0, .int .i64 0, .int .i64 0, .int .i64 0, .int .i64 0, .int .i64 0, .int .i64 0, .int .i64 0, .int .i64 0, .int .i64 0, .int .i64 0, .int .i64 0, .string ⟨#[]⟩, .string ⟨#[]⟩, .int .u64 0, .slice none 0 0, .int .i64 0] 55) (Obj.cells #[.int .i64 0, .int .i64 0, .int .i64 0, .int .i64 0, .int .i64 0, .int .i64 0, .int .i64 0, .int .i64 0] 76)
    exact ⟨0, [0, 0, 0, 0, 0, 0, 0, 0], rfl, rfl, Lib.hid rfl, Lib.hid h1, Lib.hid h3, Lib.hid ⟨[.int .i64 0, .int .i64 0, .int .i64 0, .int .i64 0, .int .i64 0, .int .i64 0, .int .i64 0, .int .i64 0, .int .i64 0, .int .i64 0, .int .i64 0, .int .i64 0, .int .i64 0, .int .i64 0, .int .i64 0, .int .i64 0, .int .i64 0, .int .i64 0, .int .i64 0, .string ⟨#[]⟩, .string ⟨#[]⟩, .int .u64 0, .slice none 0 0, .int .i64 0], h2, rfl⟩, Lib.hid h4⟩
  case round =>
    obtain ⟨k, l8, rfl, hk, HL, HF, HBB, HRB, HW⟩ := hrel
    by_cases hk8 : (k : Int) < 8
    · have hlt : k < l8.length := by have := HL.out; omega
      have hcb : wr.cell? ⟨w.heap.size, 0, none⟩ = some (.slice A l.length c) := by rw [cell_of_row wr w.heap.size 0 _ _ _ HBB.out]; rfl
      have hat := at_any w.heap.size w.heap.size c A l k wr hcb (HR.out.below HW.out)
      have hc : wr.cell? ⟨w.heap.size + 1 + 1, k, none⟩ = some (.int .i64 l8[k]) := by rw [cell_of_row wr (w.heap.size + 1 + 1) k _ _ _ HF.out]; simp [hlt]
      have hf : wr.frozen? ⟨w.heap.size + 1 + 1, k, none⟩ = false := frozen_block HF.out _
      have HAT := Lib.hid hat
      clear hat hcb
      go_wp2_with fail
      refine HAT.out.mono ?_
      rintro e w1 ⟨n, rfl, -, -, rfl⟩
      go_wp2_with fail
      go_roundg (gk - 1)
      case measure => omega
      case rel =>
        have hs := setCell_blk HF.out k (.int .i64 n)
        rw [← List.map_set] at hs
        exact ⟨k + 1, l8.set k n, by go_num, by omega, Lib.hid (by rw [List.length_set]; exact HL.out), Lib.hid hs, Lib.hid (setCell_oth HBB.out (by omega) k _), Lib.hid (by
          obtain ⟨z, h1, h2⟩ := HRB.out
          exact ⟨z, setCell_oth h1 (by omega) k _, h2⟩), Lib.hid (HW.out.setCell (p := ⟨w.heap.size + 1 + 1, k, none⟩) (by show _ ≤ w.heap.size + 1 + 1; omega) _)⟩
    · obtain ⟨b0, b1, b2, b3, b4, b5, b6, b7, rfl⟩ : ∃ b0 b1 b2 b3 b4 b5 b6 b7, l8 = [b0, b1, b2, b3, b4, b5, b6, b7] := by
        match l8, HL.out with
        | [x0, x1, x2, x3, x4, x5, x6, x7], _ => exact ⟨_, _, _, _, _, _, _, _, rfl⟩
      clear HL hk
      have HF2 := Lib.hid (show wr.heap[w.heap.size + 1 + 1]? = some (.cells [Value.int .i64 b0, .int .i64 b1, .int .i64 b2, .int .i64 b3, .int .i64 b4, .int .i64 b5, .int .i64 b6, .int .i64 b7].toArray 76 (0, 0)) from HF.out)
      clear HF
      have hset := settings_any b0 b1 b2 b3 b4 b5 b6 b7 wr
      have HSET := Lib.hid hset
      clear hset
      go_wp2_with (refine wpList_load_row rfl _ _ rfl _ (by rfl) _ _ _ _ HF2.out Tryd.underlying76 (by rfl) (by kernel_rfl) ?_)
      refine HSET.out.mono ?_
      rintro e w2 ⟨_, rfl, ⟨cs, rfl, hcl, hco⟩, hb2⟩
      have hone : ∀ u ∈ cs ++ [Value.slice none 0 0, .int .i64 1000], u.oneCell' = true := by
        intro u hu
        rcases List.mem_append.1 hu with hu | hu
        · exact hco u hu
        · simp at hu
          rcases hu with rfl | rfl <;> rfl
      have HONE := Lib.hid hone
      have HSC := Lib.hid (And.intro hcl hco)
      clear hone
      obtain ⟨x0, x1, x2, x3, x4, x5, x6, x7, x8, x9, y0, y1, y2, y3, y4, y5, y6, y7, y8, y9, z0, z1, rfl⟩ : ∃ x0 x1 x2 x3 x4 x5 x6 x7 x8 x9 y0 y1 y2 y3 y4 y5 y6 y7 y8 y9 z0 z1, cs = [x0, x1, x2, x3, x4, x5, x6, x7, x8, x9, y0, y1, y2, y3, y4, y5, y6, y7, y8, y9, z0, z1] := by
        match cs, hcl with
        | [x0, x1, x2, x3, x4, x5, x6, x7, x8, x9, y0, y1, y2, y3, y4, y5, y6, y7, y8, y9, z0, z1], _ => exact ⟨_, _, _, _, _, _, _, _, _, _, _, _, _, _, _, _, _, _, _, _, _, _, rfl⟩
      clear hcl hco
      have hmm := @run_makeMap Tryd.prog
      go_wp2_with (refine wpList_store_new rfl 55 _ _ rfl _ _ _ _ (by rfl) (by rfl) (by kernel_rfl) (by rfl) (List.all_eq_true.2 (fun u hu => HONE.out u hu)) (by simp) ?_)
      clear HONE
      have hsz2 : w.heap.size + 1 + 1 < w2.heap.size := Nat.lt_of_lt_of_le (Array.getElem?_eq_some_iff.1 HF2.out).1 hb2.size
      have hst : PBase w w.heap.size (w.heap.size + 1) w2.heap.size (w2.heap.size + 1) (w2.heap.size + 1 + 1) (.slice A l.length c) 0 [] [x0, x1, x2, x3, x4, x5, x6, x7, x8, x9, y0, y1, y2, y3, y4, y5, y6, y7, y8, y9, z0, z1] none 0 1000 [] ((w2.alloc (.cells (tlCells [x0, x1, x2, x3, x4, x5, x6, x7, x8, x9, y0, y1, y2, y3, y4, y5, y6, y7, y8, y9, z0, z1] none 0 0 1000).toArray 55)).alloc (.map #[] 0)) := by
        have hW2 : Below w.heap.size w w2 := HW.out.trans (hb2.mono HW.out.size)
        refine ⟨rfl, ?_, HSC.out, World.ownsRow_nil _ _ _ _, ?_, ?_, ?_, (hW2.alloc hW2.size _).alloc (Nat.le_trans hW2.size (by simp)) _, by simp, by omega⟩
        · rw [Below.heap_alloc _ _ _ (by simp)]; exact heap_alloc_new w2 _
        · have := MapIs.made (w2.alloc (.cells (tlCells [x0, x1, x2, x3, x4, x5, x6, x7, x8, x9, y0, y1, y2, y3, y4, y5, y6, y7, y8, y9, z0, z1] none 0 0 1000).toArray 55)) strKf intVf strOk
          simpa using this
        · rw [Below.heap_alloc _ _ _ (by simp; omega), Below.heap_alloc _ _ _ (by omega), hb2.block _ (Array.getElem?_eq_some_iff.1 HBB.out).1]; exact HBB.out
        · obtain ⟨z, h1, h2⟩ := HRB.out
          exact ⟨z, by rw [Below.heap_alloc _ _ _ (by simp; omega), Below.heap_alloc _ _ _ (by omega), hb2.block _ (Array.getElem?_eq_some_iff.1 h1).1]; exact h1, h2⟩
      have HST := Lib.hid hst
      clear hst hsz2 HF2 HBB HRB HSET HSC
      clear hmm HW hb2
      go_loopg [8] 60 (PL w l.length w.heap.size (w.heap.size + 1) w2.heap.size (w2.heap.size + 1) (w2.heap.size + 1 + 1) (.slice A l.length c))
      case atStart => exact ⟨0, 8, [], _, none, 0, 1000, [], rfl, rfl, rfl, by omega, fun _ => rfl, HST, Lib.hid ⟨EvsOk.nil, fun s => rfl⟩⟩
      case round =>
        clear HST
        generalize w2.heap.size = tb at *
        generalize (tb + 1) = mb at *
        generalize (mb + 1) = Bs at *
        obtain ⟨k, m, L, sc, A1, c1, en, D, rfl, hm, hk, hen, hk0, HP, HC⟩ := hrel
        obtain ⟨gK, hgK⟩ : ∃ n, n = gk := ⟨_, rfl⟩
        rw [← hgK] at hk
        have HM := Lib.hid hm
        have hm8 : 0 ≤ (m : Int) ∧ (m : Int) ≤ 308 ∧ k ≤ 60 := by omega
        have hkl : m < l.length → k ≤ 58 := by omega
        clear hm
        by_cases hml : (m : Int) < (l.length : Int)
        · have hcb : wr.cell? ⟨w.heap.size, 0, none⟩ = some (.slice A l.length c) := by rw [cell_of_row wr w.heap.size 0 _ _ _ HP.out.bx]; rfl
          have hkk : k ≤ 58 := hkl (by omega)
          clear hkl
          go_wp2_with fail
          clear hcb
          obtain ⟨WS, hWS⟩ : ∃ WS, WS = wr := ⟨_, rfl⟩
          rw [← hWS] at HP ⊢
          clear hWS
          go_loopg [35] 5 (Fst2 WS WS.heap.size)
          case atStart => exact ⟨0, [0, 0, 0, 0, 0], rfl, rfl, Lib.hid rfl, Lib.hid (by intro n hn; simp at hn; omega), Lib.hid (heap_alloc_new WS _), Lib.hid ((Below.refl _ WS).alloc (Nat.le_refl _) _), Lib.hid (by simp)⟩
          case round =>
            obtain ⟨j, l5, rfl, hj, HL5, HLB, HX, HBX, HSX⟩ := hrel
            by_cases hj5 : (j : Int) < 5
            · have hlt : j < l5.length := by have := HL5.out; omega
              have hcb : wr.cell? ⟨w.heap.size, 0, none⟩ = some (.slice A l.length c) := by rw [cell_of_row wr w.heap.size 0 _ _ _ (HP.out.keep HBX.out).bx]; rfl
              have hat := at_any w.heap.size w.heap.size c A l (m + j) wr hcb (HR.out.below (HP.out.keep HBX.out).bel)
              rw [show ((m + j : Nat) : Int) = (m : Int) + (j : Int) by omega] at hat
              have hc : wr.cell? ⟨WS.heap.size, j, none⟩ = some (.int .i64 l5[j]) := by rw [cell_of_row wr WS.heap.size j _ _ _ HX.out]; simp [hlt]
              have hf : wr.frozen? ⟨WS.heap.size, j, none⟩ = false := frozen_block HX.out _
              have HAT := Lib.hid hat
              have hm300 : (m : Int) ≤ 300 := by omega
              clear hat hcb
              go_wp2_with fail
              refine HAT.out.mono ?_
              rintro e w1 ⟨n, rfl, hn0, hn1, rfl⟩
              go_wp2_with fail
              go_roundg (gk - 1)
              case measure => omega
              case rel =>
                have hs := setCell_blk HX.out j (.int .i64 n)
                rw [← List.map_set] at hs
                exact ⟨j + 1, l5.set j n, by go_num, by omega, Lib.hid (by rw [List.length_set]; exact HL5.out), Lib.hid (fun u hu => by
                  rcases List.mem_or_eq_of_mem_set hu with h | h
                  · exact HLB.out u h
                  · rw [h]; exact ⟨hn0, hn1⟩), Lib.hid hs, Lib.hid (HBX.out.setCell (p := ⟨WS.heap.size, j, none⟩) (Nat.le_refl _) _), Lib.hid (by have := HSX.out; simpa [World.setCell] using this)⟩
            · obtain ⟨x0, x1, x2, x3, x4, rfl⟩ : ∃ x0 x1 x2 x3 x4, l5 = [x0, x1, x2, x3, x4] := by
                match l5, HL5.out with
                | [x0, x1, x2, x3, x4], _ => exact ⟨_, _, _, _, _, rfl⟩
              have HX2 := Lib.hid (show wr.heap[WS.heap.size]? = some (.cells [Value.int .i64 x0, .int .i64 x1, .int .i64 x2, .int .i64 x3, .int .i64 x4].toArray 78 (0, 0)) from HX.out)
              have h0 := HLB.out x0 (by simp)
              have h1 := HLB.out x1 (by simp)
              have h2 := HLB.out x2 (by simp)
              have h3 := HLB.out x3 (by simp)
              have h4 := HLB.out x4 (by simp)
              have HP3 := Lib.hid (HP.out.keep HBX.out)
              have HOB : Hid (∀ g, (Value.slice A1 k c1).ownBlock = some g → g < WS.heap.size) := Lib.hid (fun g hg => (HP.out.own.lt g hg).2)
              have HWS := Lib.hid (show WS.heap.size + 1 ≤ wr.heap.size ∧ Bs ≤ WS.heap.size from ⟨HSX.out, HP.out.sz⟩)
              clear HP HL5 HLB HX HSX HBX hj
              generalize WS.heap.size = xb at *
            
              have h23 := (tl_at HP3.out.scs.1 A1 k c1 en).2.1
              have hen23 : wr.cell? ⟨tb, 23, none⟩ = some (.int .i64 en) := by rw [cell_of_row wr tb 23 _ _ _ HP3.out.tl]; simpa using h23
              obtain ⟨W3, hW3⟩ : ∃ W3, W3 = wr.alloc (.cells #[Value.int .i64 0, .string ⟨#[]⟩, .int .i64 0, .int .i64 0, .int .i64 0, .string ⟨#[]⟩, .string ⟨#[]⟩, .int .i64 0, .string ⟨#[]⟩, .string ⟨#[]⟩, .int .i64 en, .int .i64 0, .int .i64 0] 59) := ⟨_, rfl⟩
              obtain ⟨sb, hsb⟩ : ∃ sb, wr.heap.size = sb := ⟨_, rfl⟩
              have hS3 : W3.heap[sb]? = some (.cells (stCells ⟨0, zeroEv, ⟨#[]⟩, en, 0, 0⟩).toArray 59 (0, 0)) := by rw [hW3, ← hsb]; exact heap_alloc_new wr _
              have hb3 : Below wr.heap.size wr W3 := by rw [hW3]; exact (Below.refl _ wr).alloc (Nat.le_refl _) _
              have hX3 : W3.heap[xb]? = some (.cells #[Value.int .i64 x0, .int .i64 x1, .int .i64 x2, .int .i64 x3, .int .i64 x4] 78 (0, 0)) := by
                have := (hb3.block xb (Array.getElem?_eq_some_iff.1 HX2.out).1).trans HX2.out
                simpa using this
              have hz3 : W3.heap.size = sb + 1 := by rw [hW3, ← hsb]; simp
              have d0 : W3.cell? ⟨xb, 0, none⟩ = some (.int .i64 x0) := by rw [cell_of_row W3 xb 0 _ _ _ hX3]; rfl
              have d1 : W3.cell? ⟨xb, 1, none⟩ = some (.int .i64 x1) := by rw [cell_of_row W3 xb 1 _ _ _ hX3]; rfl
              have d3 : W3.cell? ⟨xb, 3, none⟩ = some (.int .i64 x3) := by rw [cell_of_row W3 xb 3 _ _ _ hX3]; rfl
              have HP4 := Lib.hid (HP3.out.keep hb3)
              have HX4 := Lib.hid hX3
              have HS4 := Lib.hid hS3
              have hne : xb < sb ∧ Bs ≤ xb := ⟨by have := HWS.out.1; omega, HWS.out.2⟩
              have HNE := Lib.hid hne
              have HZ4 := Lib.hid hz3
              clear hS3 hb3 hX3 HX2 h23 hne hz3 HWS
              go_upto_region 20 with (refine wpList_store_new rfl 59 _ _ rfl _ _ _ _ (by rfl) (by rfl) (by kernel_rfl) (by rfl) (by rfl) (by simp) ?_)
              rw [← hW3]
              clear hW3
              have s0 : W3.cell? ⟨sb, 0, none⟩ = some (.int .i64 0) := by rw [cell_of_row W3 sb 0 _ _ _ HS4.out]; rfl
              have s9 : W3.cell? ⟨sb, 9, none⟩ = some (.string ⟨#[]⟩) := by rw [cell_of_row W3 sb 9 _ _ _ HS4.out]; rfl
              have s11 : W3.cell? ⟨sb, 11, none⟩ = some (.int .i64 0) := by rw [cell_of_row W3 sb 11 _ _ _ HS4.out]; rfl
              have s12 : W3.cell? ⟨sb, 12, none⟩ = some (.int .i64 0) := by rw [cell_of_row W3 sb 12 _ _ _ HS4.out]; rfl
              have f0 : W3.frozen? ⟨sb, 0, none⟩ = false := frozen_block HS4.out _
              have f9 : W3.frozen? ⟨sb, 9, none⟩ = false := frozen_block HS4.out _
              have f11 : W3.frozen? ⟨sb, 11, none⟩ = false := frozen_block HS4.out _
              have f12 : W3.frozen? ⟨sb, 12, none⟩ = false := frozen_block HS4.out _
              clear hen23
              obtain ⟨q, hq⟩ : ∃ q, x0.tmod 16 = q := ⟨_, rfl⟩
              have hq0 : 0 ≤ q ∧ q ≤ 15 := by rw [← hq, Int.tmod_eq_emod_of_nonneg h0.1]; omega
              obtain ⟨a, ha⟩ : ∃ a, x1.tmod 4 = a := ⟨_, rfl⟩
              have ha0 : 0 ≤ a ∧ a ≤ 3 := by rw [← ha, Int.tmod_eq_emod_of_nonneg h1.1]; omega
              obtain ⟨v2, hv2⟩ : ∃ v2, x3.tmod 2 = v2 := ⟨_, rfl⟩
              obtain ⟨r4, hr4⟩ : ∃ r4, x4.tmod 16 = r4 := ⟨_, rfl⟩
              have hr0 : 0 ≤ r4 ∧ r4 ≤ 15 := by rw [← hr4, Int.tmod_eq_emod_of_nonneg h4.1]; omega
              have HLT := Lib.hid HP4.out.lt
              have HRB6 : Bs ≤ sb ∧ ∀ g, (Value.slice A1 k c1).ownBlock = some g → g < sb := ⟨by have := HNE.out; omega, fun g hg => by have := HOB.out g hg; have := HNE.out.1; omega⟩
              have hkb : k + 1 ≤ 60 ∧ (k : Int) ≤ 58 := by omega
              by_cases q13 : q = 13
              · subst q13
                obtain ⟨W6, hW6⟩ : ∃ W6, W6 = ((W3.setCell ⟨sb, 0, none⟩ (.int .i64 1)).setCell ⟨sb, 12, none⟩ (.int .i64 x3)) := ⟨_, rfl⟩
                have hS6 : W6.heap[sb]? = some (.cells #[Value.int .i64 1, .string ⟨#[]⟩, .int .i64 0, .int .i64 0, .int .i64 0, .string ⟨#[]⟩, .string ⟨#[]⟩, .int .i64 0, .string ⟨#[]⟩, .string ⟨#[]⟩, .int .i64 en, .int .i64 0, .int .i64 x3] 59 (0, 0)) := by
                  rw [hW6]
                  exact HS4.out |> fun h => setCell_blk h 0 (.int .i64 1) |> fun h => setCell_blk h 12 (.int .i64 x3)
                have hX6 : W6.heap[xb]? = some (.cells #[Value.int .i64 x0, .int .i64 x1, .int .i64 x2, .int .i64 x3, .int .i64 x4] 78 (0, 0)) := by
                  rw [hW6]
                  exact HX4.out |> fun h => setCell_oth h (Nat.ne_of_lt HNE.out.1) 0 (.int .i64 1) |> fun h => setCell_oth h (Nat.ne_of_lt HNE.out.1) 12 (.int .i64 x3)
                have hK6 : Keeps (fun x => x = sb) W3 W6 := by
                  rw [hW6]
                  exact (Keeps.setCell (Keeps.setCell (Keeps.refl (fun x => x = sb) W3) (p := ⟨sb, 0, none⟩) (.inr rfl) (.int .i64 1)) (p := ⟨sb, 12, none⟩) (.inr rfl) (.int .i64 x3))
                have hP6 := PBase.far (HP4.out) hK6 HRB6
                have HS6 := Lib.hid hS6
                have HX6 := Lib.hid hX6
                have HP6 := Lib.hid hP6
                have HC6 := Lib.hid (HC.out.skip ⟨1, zeroEv, ⟨#[]⟩, en, 0, x3⟩ (by simp))
                clear hS6 hX6 hK6 hP6
                go_upto_region 33 with fail
                rw [← hW6]
                clear hW6 HS4 HX4 HP4
                clear d0 d1 d3 s0 s9 s11 s12 f0 f9 f11 f12
                have t22 : W6.cell? ⟨tb, 22, none⟩ = some (.slice A1 k c1) := by
                  rw [cell_of_row W6 tb 22 _ _ _ HP6.out.tl]
                  simpa using (tl_at HP6.out.scs.1 A1 k c1 en).1
                have t23 : W6.cell? ⟨tb, 23, none⟩ = some (.int .i64 en) := by
                  rw [cell_of_row W6 tb 23 _ _ _ HP6.out.tl]
                  simpa using (tl_at HP6.out.scs.1 A1 k c1 en).2.1
                have x44 : W6.cell? ⟨xb, 4, none⟩ = some (.int .i64 x4) := by rw [cell_of_row W6 xb 4 _ _ _ HX6.out]; rfl
                have HT22 := Lib.hid t22
                have HT23 := Lib.hid t23
                have HX44 := Lib.hid x44
                clear t23 x44
                go_wp2_with (first | (refine wpList_load_row rfl _ _ rfl _ (by rfl) _ _ _ _ HS6.out Tryd.underlying59 (by rfl) (by kernel_rfl) ?_) | (at_builtin; refine wpList_append_one W6 rfl _ _ _ rfl Bs 59 _ 13 144 Tryd.underlying53 st_info rfl (by decide) A1 k c1 _ rfl HP6.out.own [Value.int .i64 1, .string ⟨#[]⟩, .int .i64 0, .int .i64 0, .int .i64 0, .string ⟨#[]⟩, .string ⟨#[]⟩, .int .i64 0, .string ⟨#[]⟩, .string ⟨#[]⟩, .int .i64 en, .int .i64 0, .int .i64 x3] rfl rfl (stCells_one ⟨1, zeroEv, ⟨#[]⟩, en, 0, x3⟩) (by omega) (by unfold maxLen; omega) HP6.out.sz ?_; intro A7 c7 w7 hown7 hg7 hb7; have t22 := (hb7.cell (p := ⟨tb, 22, none⟩) HLT.out.1).trans HT22.out; have t23 := (hb7.cell (p := ⟨tb, 23, none⟩) HLT.out.1).trans HT23.out; have f22 := (hb7.frozen (p := ⟨tb, 22, none⟩) HLT.out.1).trans (frozen_block HP6.out.tl 22); have f23 := (hb7.frozen (p := ⟨tb, 23, none⟩) HLT.out.1).trans (frozen_block HP6.out.tl 23); have x44 := (grown_cellN hg7 (Array.getElem?_eq_some_iff.1 HX6.out).1 (fun e => by have := HOB.out _ e; omega) 4).trans HX44.out))
                go_roundg (gK - 1)
                case measure => omega
                case rel => exact ⟨k + 1, m + 5, L ++ [⟨1, zeroEv, ⟨#[]⟩, en, 0, x3⟩], sc, A7, c7, en + r4, D, by go_num, by have := HM.out; omega, by omega, by omega, fun h => absurd h (by omega), Lib.hid (PBase.next HP6.out _ hown7 hb7 (en + r4)), HC6⟩
              by_cases q14 : q = 14
              · subst q14
                by_cases v1 : v2 = 1
                · subst v1
                  obtain ⟨W6, hW6⟩ : ∃ W6, W6 = ((W3.setCell ⟨sb, 0, none⟩ (.int .i64 2)).setCell ⟨sb, 11, none⟩ (.int .i64 x3)) := ⟨_, rfl⟩
                  have hS6 : W6.heap[sb]? = some (.cells #[Value.int .i64 2, .string ⟨#[]⟩, .int .i64 0, .int .i64 0, .int .i64 0, .string ⟨#[]⟩, .string ⟨#[]⟩, .int .i64 0, .string ⟨#[]⟩, .string ⟨#[]⟩, .int .i64 en, .int .i64 x3, .int .i64 0] 59 (0, 0)) := by
                    rw [hW6]
                    exact HS4.out |> fun h => setCell_blk h 0 (.int .i64 2) |> fun h => setCell_blk h 11 (.int .i64 x3)
                  have hX6 : W6.heap[xb]? = some (.cells #[Value.int .i64 x0, .int .i64 x1, .int .i64 x2, .int .i64 x3, .int .i64 x4] 78 (0, 0)) := by
                    rw [hW6]
                    exact HX4.out |> fun h => setCell_oth h (Nat.ne_of_lt HNE.out.1) 0 (.int .i64 2) |> fun h => setCell_oth h (Nat.ne_of_lt HNE.out.1) 11 (.int .i64 x3)
                  have hK6 : Keeps (fun x => x = sb) W3 W6 := by
                    rw [hW6]
                    exact (Keeps.setCell (Keeps.setCell (Keeps.refl (fun x => x = sb) W3) (p := ⟨sb, 0, none⟩) (.inr rfl) (.int .i64 2)) (p := ⟨sb, 11, none⟩) (.inr rfl) (.int .i64 x3))
                  have hP6 := PBase.far (HP4.out) hK6 HRB6
                  have HS6 := Lib.hid hS6
                  have HX6 := Lib.hid hX6
                  have HP6 := Lib.hid hP6
                  have HC6 := Lib.hid (HC.out.skip ⟨2, zeroEv, ⟨#[]⟩, en, x3, 0⟩ (by simp))
                  clear hS6 hX6 hK6 hP6
                  go_upto_region 33 with fail
                  rw [← hW6]
                  clear hW6 HS4 HX4 HP4
                  clear d0 d1 d3 s0 s9 s11 s12 f0 f9 f11 f12
                  have t22 : W6.cell? ⟨tb, 22, none⟩ = some (.slice A1 k c1) := by
                    rw [cell_of_row W6 tb 22 _ _ _ HP6.out.tl]
                    simpa using (tl_at HP6.out.scs.1 A1 k c1 en).1
                  have t23 : W6.cell? ⟨tb, 23, none⟩ = some (.int .i64 en) := by
                    rw [cell_of_row W6 tb 23 _ _ _ HP6.out.tl]
                    simpa using (tl_at HP6.out.scs.1 A1 k c1 en).2.1
                  have x44 : W6.cell? ⟨xb, 4, none⟩ = some (.int .i64 x4) := by rw [cell_of_row W6 xb 4 _ _ _ HX6.out]; rfl
                  have HT22 := Lib.hid t22
                  have HT23 := Lib.hid t23
                  have HX44 := Lib.hid x44
                  clear t23 x44
                  go_wp2_with (first | (refine wpList_load_row rfl _ _ rfl _ (by rfl) _ _ _ _ HS6.out Tryd.underlying59 (by rfl) (by kernel_rfl) ?_) | (at_builtin; refine wpList_append_one W6 rfl _ _ _ rfl Bs 59 _ 13 144 Tryd.underlying53 st_info rfl (by decide) A1 k c1 _ rfl HP6.out.own [Value.int .i64 2, .string ⟨#[]⟩, .int .i64 0, .int .i64 0, .int .i64 0, .string ⟨#[]⟩, .string ⟨#[]⟩, .int .i64 0, .string ⟨#[]⟩, .string ⟨#[]⟩, .int .i64 en, .int .i64 x3, .int .i64 0] rfl rfl (stCells_one ⟨2, zeroEv, ⟨#[]⟩, en, x3, 0⟩) (by omega) (by unfold maxLen; omega) HP6.out.sz ?_; intro A7 c7 w7 hown7 hg7 hb7; have t22 := (hb7.cell (p := ⟨tb, 22, none⟩) HLT.out.1).trans HT22.out; have t23 := (hb7.cell (p := ⟨tb, 23, none⟩) HLT.out.1).trans HT23.out; have f22 := (hb7.frozen (p := ⟨tb, 22, none⟩) HLT.out.1).trans (frozen_block HP6.out.tl 22); have f23 := (hb7.frozen (p := ⟨tb, 23, none⟩) HLT.out.1).trans (frozen_block HP6.out.tl 23); have x44 := (grown_cellN hg7 (Array.getElem?_eq_some_iff.1 HX6.out).1 (fun e => by have := HOB.out _ e; omega) 4).trans HX44.out))
                  go_roundg (gK - 1)
                  case measure => omega
                  case rel => exact ⟨k + 1, m + 5, L ++ [⟨2, zeroEv, ⟨#[]⟩, en, x3, 0⟩], sc, A7, c7, en + r4, D, by go_num, by have := HM.out; omega, by omega, by omega, fun h => absurd h (by omega), Lib.hid (PBase.next HP6.out _ hown7 hb7 (en + r4)), HC6⟩
                · have v1b : (v2 == 1) = false := by simpa using v1
                  obtain ⟨W6, hW6⟩ : ∃ W6, W6 = (W3.setCell ⟨sb, 0, none⟩ (.int .i64 3)) := ⟨_, rfl⟩
                  have hS6 : W6.heap[sb]? = some (.cells #[Value.int .i64 3, .string ⟨#[]⟩, .int .i64 0, .int .i64 0, .int .i64 0, .string ⟨#[]⟩, .string ⟨#[]⟩, .int .i64 0, .string ⟨#[]⟩, .string ⟨#[]⟩, .int .i64 en, .int .i64 0, .int .i64 0] 59 (0, 0)) := by
                    rw [hW6]
                    exact HS4.out |> fun h => setCell_blk h 0 (.int .i64 3)
                  have hX6 : W6.heap[xb]? = some (.cells #[Value.int .i64 x0, .int .i64 x1, .int .i64 x2, .int .i64 x3, .int .i64 x4] 78 (0, 0)) := by
                    rw [hW6]
                    exact HX4.out |> fun h => setCell_oth h (Nat.ne_of_lt HNE.out.1) 0 (.int .i64 3)
                  have hK6 : Keeps (fun x => x = sb) W3 W6 := by
                    rw [hW6]
                    exact (Keeps.setCell (Keeps.refl (fun x => x = sb) W3) (p := ⟨sb, 0, none⟩) (.inr rfl) (.int .i64 3))
                  have hP6 := PBase.far (HP4.out) hK6 HRB6
                  have HS6 := Lib.hid hS6
                  have HX6 := Lib.hid hX6
                  have HP6 := Lib.hid hP6
                  have HC6 := Lib.hid (HC.out.skip ⟨3, zeroEv, ⟨#[]⟩, en, 0, 0⟩ (by simp))
                  clear hS6 hX6 hK6 hP6
                  go_upto_region 33 with fail
                  rw [← hW6]
                  clear hW6 HS4 HX4 HP4
                  clear d0 d1 d3 s0 s9 s11 s12 f0 f9 f11 f12
                  have t22 : W6.cell? ⟨tb, 22, none⟩ = some (.slice A1 k c1) := by
                    rw [cell_of_row W6 tb 22 _ _ _ HP6.out.tl]
                    simpa using (tl_at HP6.out.scs.1 A1 k c1 en).1
                  have t23 : W6.cell? ⟨tb, 23, none⟩ = some (.int .i64 en) := by
                    rw [cell_of_row W6 tb 23 _ _ _ HP6.out.tl]
                    simpa using (tl_at HP6.out.scs.1 A1 k c1 en).2.1
                  have x44 : W6.cell? ⟨xb, 4, none⟩ = some (.int .i64 x4) := by rw [cell_of_row W6 xb 4 _ _ _ HX6.out]; rfl
                  have HT22 := Lib.hid t22
                  have HT23 := Lib.hid t23
                  have HX44 := Lib.hid x44
                  clear t23 x44
                  go_wp2_with (first | (refine wpList_load_row rfl _ _ rfl _ (by rfl) _ _ _ _ HS6.out Tryd.underlying59 (by rfl) (by kernel_rfl) ?_) | (at_builtin; refine wpList_append_one W6 rfl _ _ _ rfl Bs 59 _ 13 144 Tryd.underlying53 st_info rfl (by decide) A1 k c1 _ rfl HP6.out.own [Value.int .i64 3, .string ⟨#[]⟩, .int .i64 0, .int .i64 0, .int .i64 0, .string ⟨#[]⟩, .string ⟨#[]⟩, .int .i64 0, .string ⟨#[]⟩, .string ⟨#[]⟩, .int .i64 en, .int .i64 0, .int .i64 0] rfl rfl (stCells_one ⟨3, zeroEv, ⟨#[]⟩, en, 0, 0⟩) (by omega) (by unfold maxLen; omega) HP6.out.sz ?_; intro A7 c7 w7 hown7 hg7 hb7; have t22 := (hb7.cell (p := ⟨tb, 22, none⟩) HLT.out.1).trans HT22.out; have t23 := (hb7.cell (p := ⟨tb, 23, none⟩) HLT.out.1).trans HT23.out; have f22 := (hb7.frozen (p := ⟨tb, 22, none⟩) HLT.out.1).trans (frozen_block HP6.out.tl 22); have f23 := (hb7.frozen (p := ⟨tb, 23, none⟩) HLT.out.1).trans (frozen_block HP6.out.tl 23); have x44 := (grown_cellN hg7 (Array.getElem?_eq_some_iff.1 HX6.out).1 (fun e => by have := HOB.out _ e; omega) 4).trans HX44.out))
                  go_roundg (gK - 1)
                  case measure => omega
                  case rel => exact ⟨k + 1, m + 5, L ++ [⟨3, zeroEv, ⟨#[]⟩, en, 0, 0⟩], sc, A7, c7, en + r4, D, by go_num, by have := HM.out; omega, by omega, by omega, fun h => absurd h (by omega), Lib.hid (PBase.next HP6.out _ hown7 hb7 (en + r4)), HC6⟩
              by_cases q15 : q = 15
              · subst q15
                obtain ⟨tp, htp⟩ : ∃ tp, nm 112 a = tp := ⟨_, rfl⟩
                have QP := Lib.hid (numbered_q 112 a ha0.1 (by omega))
                rw [htp] at QP
                go_wp2_with fail
                refine (QP.out _).mono ?_
                rintro e w5 ⟨rfl, rfl⟩
                obtain ⟨W6, hW6⟩ : ∃ W6, W6 = ((w5.setCell ⟨sb, 0, none⟩ (.int .i64 4)).setCell ⟨sb, 9, none⟩ (.string tp)) := ⟨_, rfl⟩
                have hS6 : W6.heap[sb]? = some (.cells #[Value.int .i64 4, .string ⟨#[]⟩, .int .i64 0, .int .i64 0, .int .i64 0, .string ⟨#[]⟩, .string ⟨#[]⟩, .int .i64 0, .string ⟨#[]⟩, .string tp, .int .i64 en, .int .i64 0, .int .i64 0] 59 (0, 0)) := by
                  rw [hW6]
                  exact HS4.out |> fun h => setCell_blk h 0 (.int .i64 4) |> fun h => setCell_blk h 9 (.string tp)
                have hX6 : W6.heap[xb]? = some (.cells #[Value.int .i64 x0, .int .i64 x1, .int .i64 x2, .int .i64 x3, .int .i64 x4] 78 (0, 0)) := by
                  rw [hW6]
                  exact HX4.out |> fun h => setCell_oth h (Nat.ne_of_lt HNE.out.1) 0 (.int .i64 4) |> fun h => setCell_oth h (Nat.ne_of_lt HNE.out.1) 9 (.string tp)
                have hK6 : Keeps (fun x => x = sb) w5 W6 := by
                  rw [hW6]
                  exact (Keeps.setCell (Keeps.setCell (Keeps.refl (fun x => x = sb) w5) (p := ⟨sb, 0, none⟩) (.inr rfl) (.int .i64 4)) (p := ⟨sb, 9, none⟩) (.inr rfl) (.string tp))
                have hP6 := PBase.far (HP4.out) hK6 HRB6
                have HS6 := Lib.hid hS6
                have HX6 := Lib.hid hX6
                have HP6 := Lib.hid hP6
                have HC6 := Lib.hid (HC.out.skip ⟨4, zeroEv, tp, en, 0, 0⟩ (by simp))
                clear hS6 hX6 hK6 hP6
                go_upto_region 33 with fail
                rw [← hW6]
                clear hW6 HS4 HX4 HP4
                clear d0 d1 d3 s0 s9 s11 s12 f0 f9 f11 f12
                have t22 : W6.cell? ⟨tb, 22, none⟩ = some (.slice A1 k c1) := by
                  rw [cell_of_row W6 tb 22 _ _ _ HP6.out.tl]
                  simpa using (tl_at HP6.out.scs.1 A1 k c1 en).1
                have t23 : W6.cell? ⟨tb, 23, none⟩ = some (.int .i64 en) := by
                  rw [cell_of_row W6 tb 23 _ _ _ HP6.out.tl]
                  simpa using (tl_at HP6.out.scs.1 A1 k c1 en).2.1
                have x44 : W6.cell? ⟨xb, 4, none⟩ = some (.int .i64 x4) := by rw [cell_of_row W6 xb 4 _ _ _ HX6.out]; rfl
                have HT22 := Lib.hid t22
                have HT23 := Lib.hid t23
                have HX44 := Lib.hid x44
                clear t23 x44
                go_wp2_with (first | (refine wpList_load_row rfl _ _ rfl _ (by rfl) _ _ _ _ HS6.out Tryd.underlying59 (by rfl) (by kernel_rfl) ?_) | (at_builtin; refine wpList_append_one W6 rfl _ _ _ rfl Bs 59 _ 13 144 Tryd.underlying53 st_info rfl (by decide) A1 k c1 _ rfl HP6.out.own [Value.int .i64 4, .string ⟨#[]⟩, .int .i64 0, .int .i64 0, .int .i64 0, .string ⟨#[]⟩, .string ⟨#[]⟩, .int .i64 0, .string ⟨#[]⟩, .string tp, .int .i64 en, .int .i64 0, .int .i64 0] rfl rfl (stCells_one ⟨4, zeroEv, tp, en, 0, 0⟩) (by omega) (by unfold maxLen; omega) HP6.out.sz ?_; intro A7 c7 w7 hown7 hg7 hb7; have t22 := (hb7.cell (p := ⟨tb, 22, none⟩) HLT.out.1).trans HT22.out; have t23 := (hb7.cell (p := ⟨tb, 23, none⟩) HLT.out.1).trans HT23.out; have f22 := (hb7.frozen (p := ⟨tb, 22, none⟩) HLT.out.1).trans (frozen_block HP6.out.tl 22); have f23 := (hb7.frozen (p := ⟨tb, 23, none⟩) HLT.out.1).trans (frozen_block HP6.out.tl 23); have x44 := (grown_cellN hg7 (Array.getElem?_eq_some_iff.1 HX6.out).1 (fun e => by have := HOB.out _ e; omega) 4).trans HX44.out))
                go_roundg (gK - 1)
                case measure => omega
                case rel => exact ⟨k + 1, m + 5, L ++ [⟨4, zeroEv, tp, en, 0, 0⟩], sc, A7, c7, en + r4, D, by go_num, by have := HM.out; omega, by omega, by omega, fun h => absurd h (by omega), Lib.hid (PBase.next HP6.out _ hown7 hb7 (en + r4)), HC6⟩
              obtain ⟨s, hs⟩ : ∃ s, x0.tdiv 16 = s := ⟨_, rfl⟩
              obtain ⟨s2, hs2⟩ : ∃ s2, s.tmod 2 = s2 := ⟨_, rfl⟩
              have hsb0 : 0 ≤ s ∧ s ≤ 15 := by rw [← hs, Int.tdiv_eq_ediv_of_nonneg h0.1]; omega
              have hs20 : 0 ≤ s2 ∧ s2 ≤ 1 := by rw [← hs2, Int.tmod_eq_emod_of_nonneg hsb0.1]; omega
              have HSRC : Hid (srcOf x0 = s2) := Lib.hid (by unfold srcOf; rw [hs, hs2])
              obtain ⟨tp, htp⟩ : ∃ tp, nm 115 s2 = tp := ⟨_, rfl⟩
              have QP := Lib.hid (numbered_q 115 s2 hs20.1 (by omega))
              rw [htp] at QP
              have htpk : strOk tp := by rw [← htp]; show (nm 115 s2).size ≤ maxLen; rw [nm_size]; unfold maxLen; omega
              obtain ⟨n0, hn0⟩ : ∃ n0, cntS (toldOf L) tp = n0 := ⟨_, rfl⟩
              have hn0b : 0 ≤ n0 ∧ n0 ≤ 60 := by
                have h1 := cntS_le (toldOf L) tp
                have h2 := toldOf_len L
                have h3 := HP4.out.len
                omega
              have hlo1 := HP4.out.mp.look strKey Tryd.underlying62 zero_int htpk
              have hval : ((mget D tp).map intVf).getD (.int .i64 0) = .int .i64 n0 := by
                have := HC.out.2 tp
                rw [hn0] at this
                cases hg : mget D tp with
                | none => rw [hg] at this; simp at this; rw [← this]; rfl
                | some x => rw [hg] at this; simp at this; rw [← this]; rfl
              rw [hval] at hlo1
              clear hval
              change (Instr.lookup 62 (.map (some mb)) (.string tp) false).run Tryd.prog W3 = .ok (.int .i64 n0) W3 at hlo1
              obtain ⟨w4, hrun, hm4, hk4, hz4⟩ := HP4.out.mp.put strKey Tryd.underlying62 htpk (n0 + 1)
              change (Instr.mapUpdate 62 (.map (some mb)) (.string tp) (.int .i64 (n0 + 1))).run Tryd.prog W3 = .ok () w4 at hrun
              have hlo2 := hm4.look strKey Tryd.underlying62 zero_int htpk
              rw [mget_mput, if_pos rfl] at hlo2
              change (Instr.lookup 62 (.map (some mb)) (.string tp) false).run Tryd.prog w4 = .ok (.int .i64 (n0 + 1)) w4 at hlo2
              have hP5 := HP4.out.map hk4 hm4
              have hmbx : xb ≠ mb ∧ sb ≠ mb := by have := HLT.out.2.1; have := HNE.out; omega
              have hx5 : w4.heap[xb]? = some (.cells [Value.int .i64 x0, .int .i64 x1, .int .i64 x2, .int .i64 x3, .int .i64 x4].toArray 78 (0, 0)) := (hk4.block xb (Array.getElem?_eq_some_iff.1 HX4.out).1 hmbx.1).trans HX4.out
              have hs5 : w4.heap[sb]? = some (.cells (stCells ⟨0, zeroEv, ⟨#[]⟩, en, 0, 0⟩).toArray 59 (0, 0)) := (hk4.block sb (Array.getElem?_eq_some_iff.1 HS4.out).1 hmbx.2).trans HS4.out
              have e23 : w4.cell? ⟨tb, 23, none⟩ = some (.int .i64 en) := by
                rw [cell_of_row w4 tb 23 _ _ _ hP5.tl]
                simpa using (tl_at hP5.scs.1 A1 k c1 en).2.1
              have hTO := told_any x0 x1 x2 x3 x4 (n0 + 1) en w4 (HK.out.below hP5.bel) h0 h1 h2 h3 (by rw [hq]; omega) (by omega)
              have HTO := Lib.hid hTO
              have HP5 := Lib.hid hP5
              have HX5 := Lib.hid hx5
              have HS5 := Lib.hid hs5
              have HN0 := Lib.hid hn0
              have HTP := Lib.hid htp
              clear hTO hP5 hx5 hs5 hn0 htp hm4 hk4 hz4 hmbx htpk
              go_wp2_with fail
              refine (QP.out _).mono ?_
              rintro e w5 ⟨rfl, rfl⟩
              clear QP
              go_wp2_with (refine wpList_load_row rfl _ _ rfl _ (by rfl) _ _ _ _ HX5.out Tryd.underlying78 (by rfl) (by kernel_rfl) ?_)
              refine HTO.out.mono ?_
              rintro e w7 ⟨E, rfl, hsrc, hnum, hat0, hat1, hshape, hb7⟩
              clear HTO e23 hlo1 hlo2 hrun s0 s9 s11 s12 f0 f9 f11 f12 d0 d1 d3
              have HP7 := Lib.hid (HP5.out.keep hb7)
              have HX7 := Lib.hid ((hb7.block xb (Array.getElem?_eq_some_iff.1 HX5.out).1).trans HX5.out)
              have HS7 := Lib.hid ((hb7.block sb (Array.getElem?_eq_some_iff.1 HS5.out).1).trans HS5.out)
              have HEV := Lib.hid (show E.src = nm 115 (srcOf x0) ∧ E.num = n0 + 1 ∧ 0 ≤ E.at_ ∧ E.at_ ≤ en ∧ ShapeE E from ⟨hsrc, hnum, hat0, hat1, hshape⟩)
              clear HP5 HX5 HS5 hsrc hnum hat0 hat1 hshape hb7
              have s0 : w7.cell? ⟨sb, 0, none⟩ = some (.int .i64 0) := by rw [cell_of_row w7 sb 0 _ _ _ HS7.out]; rfl
              have f0 : w7.frozen? ⟨sb, 0, none⟩ = false := frozen_block HS7.out _
              have hth : (w7.setCell ⟨sb, 0, none⟩ (.int .i64 0)).there sb 1 8 := by
                have hb8 := setCell_blk HS7.out 0 (.int .i64 0)
                intro j hj
                refine ⟨?_, frozen_block hb8 _⟩
                rw [cell_of_row _ sb (1 + j) _ _ _ hb8]
                have : 1 + j < ((stCells ⟨0, zeroEv, ⟨#[]⟩, en, 0, 0⟩).set 0 (.int .i64 0)).length := by rw [List.length_set, stCells_len]; omega
                simp [stCells_len]
                omega
              have HTH := Lib.hid hth
              clear hth
              have hone8 : (evCells E).toArray.all (·.oneCell') = true := by simp [evCells, Value.oneCell']
              have HONE8 := Lib.hid hone8
              clear hone8
              go_upto_region 33 with (refine wpList_store_mid rfl 51 _ _ rfl sb 1 (evCells E).toArray (by rfl) (by rfl) HTH.out (by kernel_rfl) HONE8.out ?_)
              obtain ⟨W6, hW6⟩ : ∃ W6, W6 = ((w7.setCell ⟨sb, 0, none⟩ (.int .i64 0)).setCells sb 1 (evCells E).toArray.toList) := ⟨_, rfl⟩
              rw [← hW6]
              have hW7 : W6 = ((((((((w7.setCell ⟨sb, 0, none⟩ (.int .i64 0)).setCell ⟨sb, 1, none⟩ (.string E.src)).setCell ⟨sb, 2, none⟩ (.int .i64 E.num)).setCell ⟨sb, 3, none⟩ (.int .i64 E.at_)).setCell ⟨sb, 4, none⟩ (.int .i64 E.kind)).setCell ⟨sb, 5, none⟩ (.string E.person)).setCell ⟨sb, 6, none⟩ (.string E.item)).setCell ⟨sb, 7, none⟩ (.int .i64 E.value)).setCell ⟨sb, 8, none⟩ (.string E.text) := hW6
              clear hW6
              have hS6 : W6.heap[sb]? = some (.cells #[Value.int .i64 0, .string E.src, .int .i64 E.num, .int .i64 E.at_, .int .i64 E.kind, .string E.person, .string E.item, .int .i64 E.value, .string E.text, .string ⟨#[]⟩, .int .i64 en, .int .i64 0, .int .i64 0] 59 (0, 0)) := by
                rw [hW7]
                exact HS7.out |> fun h => setCell_blk h 0 (.int .i64 0) |> fun h => setCell_blk h 1 (.string E.src) |> fun h => setCell_blk h 2 (.int .i64 E.num) |> fun h => setCell_blk h 3 (.int .i64 E.at_) |> fun h => setCell_blk h 4 (.int .i64 E.kind) |> fun h => setCell_blk h 5 (.string E.person) |> fun h => setCell_blk h 6 (.string E.item) |> fun h => setCell_blk h 7 (.int .i64 E.value) |> fun h => setCell_blk h 8 (.string E.text)
              have hX6 : W6.heap[xb]? = some (.cells #[Value.int .i64 x0, .int .i64 x1, .int .i64 x2, .int .i64 x3, .int .i64 x4] 78 (0, 0)) := by
                rw [hW7]
                exact HX7.out |> fun h => setCell_oth h (Nat.ne_of_lt HNE.out.1) 0 (.int .i64 0) |> fun h => setCell_oth h (Nat.ne_of_lt HNE.out.1) 1 (.string E.src) |> fun h => setCell_oth h (Nat.ne_of_lt HNE.out.1) 2 (.int .i64 E.num) |> fun h => setCell_oth h (Nat.ne_of_lt HNE.out.1) 3 (.int .i64 E.at_) |> fun h => setCell_oth h (Nat.ne_of_lt HNE.out.1) 4 (.int .i64 E.kind) |> fun h => setCell_oth h (Nat.ne_of_lt HNE.out.1) 5 (.string E.person) |> fun h => setCell_oth h (Nat.ne_of_lt HNE.out.1) 6 (.string E.item) |> fun h => setCell_oth h (Nat.ne_of_lt HNE.out.1) 7 (.int .i64 E.value) |> fun h => setCell_oth h (Nat.ne_of_lt HNE.out.1) 8 (.string E.text)
              have hK6 : Keeps (fun x => x = sb) w7 W6 := by
                rw [hW7]
                exact (Keeps.setCell (Keeps.setCell (Keeps.setCell (Keeps.setCell (Keeps.setCell (Keeps.setCell (Keeps.setCell (Keeps.setCell (Keeps.setCell (Keeps.refl (fun x => x = sb) w7) (p := ⟨sb, 0, none⟩) (.inr rfl) (.int .i64 0)) (p := ⟨sb, 1, none⟩) (.inr rfl) (.string E.src)) (p := ⟨sb, 2, none⟩) (.inr rfl) (.int .i64 E.num)) (p := ⟨sb, 3, none⟩) (.inr rfl) (.int .i64 E.at_)) (p := ⟨sb, 4, none⟩) (.inr rfl) (.int .i64 E.kind)) (p := ⟨sb, 5, none⟩) (.inr rfl) (.string E.person)) (p := ⟨sb, 6, none⟩) (.inr rfl) (.string E.item)) (p := ⟨sb, 7, none⟩) (.inr rfl) (.int .i64 E.value)) (p := ⟨sb, 8, none⟩) (.inr rfl) (.string E.text))
              have hP6 := PBase.far (HP7.out) hK6 HRB6
              have HS6 := Lib.hid hS6
              have HX6 := Lib.hid hX6
              have HP6 := Lib.hid hP6
              have HC6 := Lib.hid (cntTell HC.out HEV.out HN0.out HTP.out HSRC.out hs20 (by omega))
              clear hS6 hX6 hK6 hP6
              clear hW7 HS4 HX4 HP4
              clear s0 f0
              have t22 : W6.cell? ⟨tb, 22, none⟩ = some (.slice A1 k c1) := by
                rw [cell_of_row W6 tb 22 _ _ _ HP6.out.tl]
                simpa using (tl_at HP6.out.scs.1 A1 k c1 en).1
              have t23 : W6.cell? ⟨tb, 23, none⟩ = some (.int .i64 en) := by
                rw [cell_of_row W6 tb 23 _ _ _ HP6.out.tl]
                simpa using (tl_at HP6.out.scs.1 A1 k c1 en).2.1
              have x44 : W6.cell? ⟨xb, 4, none⟩ = some (.int .i64 x4) := by rw [cell_of_row W6 xb 4 _ _ _ HX6.out]; rfl
              have HT22 := Lib.hid t22
              have HT23 := Lib.hid t23
              have HX44 := Lib.hid x44
              clear t23 x44
              go_wp2_with (first | (refine wpList_load_row rfl _ _ rfl _ (by rfl) _ _ _ _ HS6.out Tryd.underlying59 (by rfl) (by kernel_rfl) ?_) | (at_builtin; refine wpList_append_one W6 rfl _ _ _ rfl Bs 59 _ 13 144 Tryd.underlying53 st_info rfl (by decide) A1 k c1 _ rfl HP6.out.own [Value.int .i64 0, .string E.src, .int .i64 E.num, .int .i64 E.at_, .int .i64 E.kind, .string E.person, .string E.item, .int .i64 E.value, .string E.text, .string ⟨#[]⟩, .int .i64 en, .int .i64 0, .int .i64 0] rfl rfl (stCells_one ⟨0, E, ⟨#[]⟩, en, 0, 0⟩) (by omega) (by unfold maxLen; omega) HP6.out.sz ?_; intro A7 c7 w7 hown7 hg7 hb7; have t22 := (hb7.cell (p := ⟨tb, 22, none⟩) HLT.out.1).trans HT22.out; have t23 := (hb7.cell (p := ⟨tb, 23, none⟩) HLT.out.1).trans HT23.out; have f22 := (hb7.frozen (p := ⟨tb, 22, none⟩) HLT.out.1).trans (frozen_block HP6.out.tl 22); have f23 := (hb7.frozen (p := ⟨tb, 23, none⟩) HLT.out.1).trans (frozen_block HP6.out.tl 23); have x44 := (grown_cellN hg7 (Array.getElem?_eq_some_iff.1 HX6.out).1 (fun e => by have := HOB.out _ e; omega) 4).trans HX44.out))
              go_roundg (gK - 1)
              case measure => omega
              case rel => exact ⟨k + 1, m + 5, L ++ [⟨0, E, ⟨#[]⟩, en, 0, 0⟩], sc, A7, c7, en + r4, _, by go_num, by have := HM.out; omega, by omega, by omega, fun h => absurd h (by omega), Lib.hid (PBase.next HP6.out _ hown7 hb7 (en + r4)), HC6⟩
        · clear HR HK
          have HZ0 := HP.out.rx
          obtain ⟨z, hz1, hz2⟩ := HZ0
          have HZ1 := Lib.hid hz1
          have HZ2 := Lib.hid hz2
          have hcb : wr.cell? ⟨w.heap.size, 0, none⟩ = some (.slice A l.length c) := by rw [cell_of_row wr w.heap.size 0 _ _ _ HP.out.bx]; rfl
          clear hz1 hz2
          go_wp2_with (first | (refine wpList_load_row rfl _ _ rfl _ (by rfl) _ _ _ _ HP.out.tl Tryd.underlying55 (by rfl) (by simp only [List.size_toArray, (tl_at HP.out.scs.1 A1 k c1 en).2.2]; kernel_rfl) ?_) | (refine wpList_store_row rfl 55 _ _ rfl (w.heap.size + 1) _ (by rfl) (by rfl) _ _ HZ1.out (by simp only [List.size_toArray, (tl_at HP.out.scs.1 A1 k c1 en).2.2]; kernel_rfl) (by simp only [List.size_toArray, HZ2.out, (tl_at HP.out.scs.1 A1 k c1 en).2.2]) (by simpa using HP.out.oneTl) ?_))
          refine bodyPost_ret (results_cell_row rfl _ _ _ _ _ _ _ (by rfl) (setRow_heap wr _ _ _ _ _ HZ1.out) Tryd.underlying55 (by rfl) (by simp only [List.size_toArray, (tl_at HP.out.scs.1 A1 k c1 en).2.2]; kernel_rfl)) rfl ?_
          obtain ⟨l1, l2, l3, l4, l5, l6, l7, l8, l9, l10, l11, l12, l13, l14⟩ := HP.out.lt
          have hkp : Keeps (fun x => x = w.heap.size + 1) wr (wr.setRow (w.heap.size + 1) (tlCells sc A1 k c1 en).toArray) := ⟨rfl, rfl, rfl, by simp, fun x _ hx => setRow_other wr _ x _ hx⟩
          have hown := hkp.own HP.out.own (fun x hx e => by
            have := (HP.out.own.lt x hx).1
            omega)
          refine ⟨sc, A1, c1, L, en, by rw [HP.out.len]; rfl, HP.out.scs.1, HP.out.scs.2, by rw [HP.out.len]; exact Reads.of_own hown, HC.out.1, by rw [HP.out.len]; omega, hk0, hkp.toBelow HP.out.bel.size (fun x hx => by omega) |> fun q => HP.out.bel.trans q⟩
end Go.Proofs.YtaollcpoibgblaaDoor
