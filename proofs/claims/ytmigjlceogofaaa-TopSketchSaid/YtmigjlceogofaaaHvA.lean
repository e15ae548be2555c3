/- heavy.Heavy in memory; contract of each; the walk of take begun. -/
import Derived.Test.YtmigjlceogofaaaKitAl
import Derived.Test.YtmigjlceogofaaaKitD
import Derived.Test.YtmigjlceogofaaaLayH
import Derived.Shelf.Abstract
import Derived.Shelf.RegionOpen
import Derived.WalkKit
import Derived.OwnWalkIn
import Derived.TacticsInMore
import Derived.LoopNIn
import Derived.LoopIn
namespace Go.Proofs.Ytmigjlceogofaaa
open Go.ChangeShapes Go.WideShapes Go.ChangeAt Go.RowKit Go.Shelf Go.Sort Go.Proofs
attribute [local go_sem] Oper.semAt_some
set_option linter.unusedVariables false
set_option linter.unusedSimpArgs false

abbrev CntrL := List (ByteArray × Int)
/-- A heavy in memory: the struct at hb, its counters' map. -/
structure HeavyAt (w : World) (hb cb : Nat) (room added total slack : Int) (S : CntrL) : Prop where
  blk : w.heap[hb]? = some (.cells #[.int .i64 room, .int .i64 added, .map (some cb), .int .i64 total, .int .i64 slack] 126 (0, 0))
  cnt : MapIs w strKf intVf strOk cb S
theorem HeavyAt.cells {w : World} {hb cb : Nat} {room added total slack : Int} {S : CntrL} (h : HeavyAt w hb cb room added total slack S) :
    w.cell? ⟨hb, 0, none⟩ = some (.int .i64 room) ∧ w.cell? ⟨hb, 1, none⟩ = some (.int .i64 added) ∧ w.cell? ⟨hb, 2, none⟩ = some (.map (some cb)) ∧ w.cell? ⟨hb, 3, none⟩ = some (.int .i64 total) ∧ w.cell? ⟨hb, 4, none⟩ = some (.int .i64 slack) := by
  refine ⟨?_, ?_, ?_, ?_, ?_⟩ <;> simp [World.cell?, h.blk]

theorem all_any (mb : Option Nat) (w : World) : Calls Try.prog 96 #[.map mb] w fun e w' => e = .returned (.func (.func 121) #[] #[.pointer (some ⟨w.heap.size, 0, none⟩)]) ∧ w' = w.alloc (.cells #[.map mb] 57) :=
  (callsIn_wide (n := 3)).1 (AnyY.all_in (ρ := Try.allH_ren) { Try.allH with } _ _ trivial rfl mb w)
set_option maxHeartbeats 1000000 in
theorem each_any (hb cb : Nat) (w : World) (hc : w.cell? ⟨hb, 2, none⟩ = some (.map (some cb))) :
    Calls Try.prog 63 #[.pointer (some ⟨hb, 0, none⟩)] w fun e w' => e = .returned (.func (.func 121) #[] #[.pointer (some ⟨w.heap.size, 0, none⟩)]) ∧ w' = w.alloc (.cells #[.map (some cb)] 57) := by
  go_enter Try.func63, Try.ntmps63
  go_wp2_with fail
  refine (all_any _ _).mono ?_
  rintro e w1 ⟨rfl, rfl⟩
  go_wp2
  go_ret
  exact ⟨rfl, rfl⟩

/-- Taken from each; those at nought or below are gone. -/
def takeL (S : CntrL) (n : Int) : CntrL := (S.map (fun p => (p.1, p.2 - n))).filter (fun p => decide (0 < p.2))
def foldT (n : Int) (S : CntrL) (pre : List (PairOf S)) : CntrL := pre.foldl (fun M x => mput M x.1.1 (x.1.2 - n)) []
theorem foldT_snoc (n : Int) (S : CntrL) (pre : List (PairOf S)) (x : PairOf S) : foldT n S (pre ++ [x]) = mput (foldT n S pre) x.1.1 (x.1.2 - n) := by
  unfold foldT
  rw [List.foldl_append]
  rfl
theorem mput_new {κ υ : Type} [DecidableEq κ] {l : List (κ × υ)} {x : κ} (v : υ) (h : ∀ p ∈ l, p.1 ≠ x) : mput l x v = l ++ [(x, v)] := by
  have : mget l x = none := mget_none_iff.2 h
  unfold mput
  rw [this]
  simp
theorem foldT_all {n : Int} {S : CntrL} (hS : (S.map (·.1)).Nodup) {ss : List (PairOf S)} (hp : (ss.map (·.1)).Perm S) : foldT n S ss = (ss.map (·.1)).map (fun p => (p.1, p.2 - n)) := by
  have hn : ((ss.map (·.1)).map (·.1)).Nodup := ((hp.map (·.1)).nodup_iff).2 hS
  clear hp hS
  have key : ∀ (ss : List (PairOf S)) (M : CntrL), (M.map (·.1) ++ (ss.map (·.1)).map (·.1)).Nodup → ss.foldl (fun M x => mput M x.1.1 (x.1.2 - n)) M = M ++ (ss.map (·.1)).map (fun p => (p.1, p.2 - n)) := by
    intro ss
    induction ss with
    | nil => intro M _; simp
    | cons x ss ih =>
      intro M h
      rw [List.foldl_cons]
      have hx : ∀ p ∈ M, p.1 ≠ x.1.1 := by
        intro p hp e
        rw [List.nodup_append] at h
        exact h.2.2 p.1 (List.mem_map.2 ⟨p, hp, rfl⟩) x.1.1 (by simp) e
      rw [mput_new _ hx, ih]
      · simp
      · simpa [List.append_assoc] using h
  have := key ss [] (by simpa using hn)
  simpa [foldT] using this

/-- While those at nought or below are taken out. -/
def TkInv (T left M : CntrL) : Prop := ∃ dn : CntrL, M.Perm (left ++ dn.filter (fun p => decide (0 < p.2))) ∧ (left ++ dn).Perm T
theorem TkInv.start (T : CntrL) : TkInv T T T := ⟨[], by simp, by simp⟩
theorem TkInv.fin {T M : CntrL} (h : TkInv T [] M) : M.Perm (T.filter (fun p => decide (0 < p.2))) := by
  obtain ⟨dn, h1, h2⟩ := h
  simp at h1 h2
  exact h1.trans (h2.filter _)
theorem TkInv.keep {T left M : CntrL} (h : TkInv T left M) (hl : (left.map (·.1)).Nodup) {x : ByteArray} {v : Int} (hm : (x, v) ∈ left) (hv : 0 < v) : TkInv T (mdel left x) M := by
  obtain ⟨dn, h1, h2⟩ := h
  have hp := mdel_perm hl hm
  refine ⟨(x, v) :: dn, ?_, ?_⟩
  · rw [List.filter_cons, if_pos (by simpa using hv)]
    exact h1.trans ((hp.append_right _).trans (List.perm_middle.symm))
  · exact (List.perm_middle.trans (hp.symm.append_right _)).trans h2
theorem TkInv.gone {T left M : CntrL} (h : TkInv T left M) (hT : (T.map (·.1)).Nodup) (hl : (left.map (·.1)).Nodup) {x : ByteArray} {v : Int} (hm : (x, v) ∈ left) (hv : ¬ 0 < v) : TkInv T (mdel left x) (mdel M x) := by
  obtain ⟨dn, h1, h2⟩ := h
  have hp := mdel_perm hl hm
  refine ⟨(x, v) :: dn, ?_, ?_⟩
  · rw [List.filter_cons, if_neg (by simpa using hv)]
    have hd : mdel (dn.filter (fun p => decide (0 < p.2))) x = dn.filter (fun p => decide (0 < p.2)) := by
      refine mdel_none (mget_none_iff.2 (fun p hp' e => ?_))
      have hn : ((left ++ dn).map (·.1)).Nodup := ((h2.map (·.1)).nodup_iff).2 hT
      rw [List.map_append, List.nodup_append] at hn
      exact hn.2.2 x (List.mem_map.2 ⟨(x, v), hm, rfl⟩) p.1 (List.mem_map.2 ⟨p, (List.mem_filter.1 hp').1, rfl⟩) e.symm
    have := h1.filter (fun p => !decide (p.1 = x))
    have e1 : mdel M x = M.filter (fun p => !decide (p.1 = x)) := by unfold mdel; congr 1; funext p; simp
    have e2 : mdel (left ++ dn.filter (fun p => decide (0 < p.2))) x = (left ++ dn.filter (fun p => decide (0 < p.2))).filter (fun p => !decide (p.1 = x)) := by unfold mdel; congr 1; funext p; simp
    have e3 : mdel (left ++ dn.filter (fun p => decide (0 < p.2))) x = mdel left x ++ mdel (dn.filter (fun p => decide (0 < p.2))) x := by unfold mdel; rw [List.filter_append]
    rw [e1, ← hd, ← e3, e2]
    exact this
  · exact (List.perm_middle.trans (hp.symm.append_right _)).trans h2
theorem run_makeMapN {P : Program} {k e : TypeId} (t : TypeId) (ht : P.underlying t = some (.map k e)) (m : Int) (w : World) : (Instr.makeMap t (some (.int .i64 m))).run P w = .ok (.map (some w.heap.size)) (w.alloc (.map #[] 0)) := by
  simp [Instr.makeMap, run_underlying ht, asInt, Result.andThen]
  rfl
theorem hlt2 {W : World} {b o : Nat} {v : Value} (h : W.cell? ⟨b, o, none⟩ = some v) : b < W.heap.size := by
  rcases Nat.lt_or_ge b W.heap.size with h' | h'
  · exact h'
  · simp [World.cell?, Array.getElem?_eq_none h'] at h
set_option maxRecDepth 100000 in
set_option maxHeartbeats 2000000 in
theorem htake_any (hb cb : Nat) (room added total slack n : Int) (S : CntrL) (w : World) (h : HeavyAt w hb cb room added total slack S) (hcb : cb < w.heap.size) (hne : cb ≠ hb) (hbd : ∀ p ∈ S, 0 ≤ p.2 ∧ p.2 ≤ 1099511627776) (hn0 : 0 ≤ n) (hn1 : n ≤ 1099511627776) (hs0 : 0 ≤ slack) (hs1 : slack ≤ 1099511627776) :
    Calls Try.prog 64 #[.pointer (some ⟨hb, 0, none⟩), .int .i64 n] w fun e w' => e = .returned (.tuple #[]) ∧ ∃ cb' S', HeavyAt w' hb cb' room added total (slack + n) S' ∧ S'.Perm (takeL S n) ∧ w.heap.size ≤ cb' ∧ Keeps (fun k => k = hb) w w' := by
  refine (callsIn_wide (n := 6)).1 ?_
  obtain ⟨c0, c1, c2, c3, c4⟩ := h.cells
  have hmm := fun m W => run_makeMapN (P := Try.prog) 57 Try.underlying57 m W
  have hll := fun ty => (h.cnt.alloc (Obj.cells #[Value.int .i64 n] 2)).len (P := Try.prog) Try.underlying57 (ty := ty)
  refine callsIn_of_wp_marks Try.func64 rfl trivial ?_ rfl
  simp only [Try.ntmps64, List.size_toArray, List.length_cons, List.length_nil, Nat.reduceAdd, Nat.reduceSub, Array.replicate_succ, Array.replicate_zero, List.push_toArray, List.append_toArray, List.nil_append, List.cons_append]
  have hblt : hb < w.heap.size := (Array.getElem?_eq_some_iff.1 h.blk).1
  gi_wp2
  obtain ⟨W3, hW3⟩ : ∃ W3, W3 = ((w.alloc (Obj.cells #[Value.int .i64 n] 2)).alloc (Obj.map #[] 0)).alloc (Obj.cells #[Value.map (some (w.heap.size + 1))] 57) := ⟨_, rfl⟩
  have hB3 : Below w.heap.size w W3 := by rw [hW3]; exact (((Below.refl _ w).alloc (Nat.le_refl _) _).alloc (by simp) _).alloc (by simp; omega) _
  have hz3 : W3.heap.size = w.heap.size + 1 + 1 + 1 := by rw [hW3]; simp
  have hM3 : MapIs W3 strKf intVf strOk (w.heap.size + 1) [] := by
    rw [hW3]
    have := (MapIs.made (w.alloc (Obj.cells #[Value.int .i64 n] 2)) strKf intVf strOk).alloc (Obj.cells #[Value.map (some (w.heap.size + 1))] 57)
    rwa [World.size_alloc] at this
  have hS3 : MapIs W3 strKf intVf strOk cb S := h.cnt.below hB3 hcb
  have k0 : W3.heap[w.heap.size]? = some (Obj.cells #[Value.int .i64 n] 2) := by
    rw [hW3]
    exact (Below.heap_alloc _ _ _ (by simp; omega)).trans ((Below.heap_alloc _ _ _ (by simp)).trans (heap_alloc_new w _))
  have k2 : W3.heap[w.heap.size + 1 + 1]? = some (Obj.cells #[Value.map (some (w.heap.size + 1))] 57) := by
    rw [hW3]
    have := heap_alloc_new ((w.alloc (Obj.cells #[Value.int .i64 n] 2)).alloc (Obj.map #[] 0)) (Obj.cells #[Value.map (some (w.heap.size + 1))] 57)
    rwa [World.size_alloc, World.size_alloc] at this
  have b0 : W3.cell? ⟨w.heap.size, 0, none⟩ = some (.int .i64 n) := by simp [World.cell?, k0]
  have b2 : W3.cell? ⟨w.heap.size + 1 + 1, 0, none⟩ = some (.map (some (w.heap.size + 1))) := by simp [World.cell?, k2]
  have d2 : W3.cell? ⟨hb, 2, none⟩ = some (.map (some cb)) := (hB3.cell (p := ⟨hb, 2, none⟩) hblt).trans c2
  rw [← hW3]
  clear hW3
  refine ⟨trivial, (callsIn_wide.2 (each_any hb cb W3 d2)).mono ?_⟩
  rintro e w1 ⟨rfl, rfl⟩
  obtain ⟨W4, hW4⟩ : ∃ W4, W4 = W3.alloc (.cells #[.map (some cb)] 57) := ⟨_, rfl⟩
  have hB34 : Below W3.heap.size W3 W4 := by rw [hW4]; exact (Below.refl _ W3).alloc (Nat.le_refl _) _
  have hz4 : W4.heap.size = W3.heap.size + 1 := by rw [hW4]; simp
  have k3 : W4.heap[w.heap.size + 1 + 1 + 1]? = some (.cells #[.map (some cb)] 57) := by
    rw [hW4, ← hz3]
    exact heap_alloc_new W3 _
  have b3 : W4.cell? ⟨w.heap.size + 1 + 1 + 1, 0, none⟩ = some (.map (some cb)) := by simp [World.cell?, k3]
  have hB4 : Below w.heap.size w W4 := hB3.trans (hB34.mono hB3.size)
  have hM4 := hM3.below hB34 hM3.lt
  have hS4 := hS3.below hB34 hS3.lt
  have a0 := (hB34.cell (p := ⟨w.heap.size, 0, none⟩) (by show w.heap.size < _; omega)).trans b0
  have a2 := (hB34.cell (p := ⟨w.heap.size + 1 + 1, 0, none⟩) (by show w.heap.size + 1 + 1 < _; omega)).trans b2
  rw [← hW4]
  clear hW4
  gi_wp2
  refine wpIn_rangeFunc_ownG rfl (by omega) (gf := 121) (lb := #[.pointer (some ⟨w.heap.size + 1 + 1 + 1, 0, none⟩)]) rfl trivial (enters_of Try.func121 (by kernel_rfl) rfl)
    (allIs_stops (ρ := Try.allH_ren) { Try.allH with } Fence.wide _ trivial rfl (by omega) (w.heap.size + 1 + 1 + 1) cb (w.heap.size + 1) (by omega) S W4 (by omega) (by omega) b3 hS4) KeepsBut.trans (fun W l o o' _ ho _ hw => KeepsBut.putObj _ W l o o' ho hw) (Below.refl _ _) (fun _ => rfl)
    (fun pre W => (W.cell? ⟨w.heap.size, 0, none⟩ = some (.int .i64 n) ∧ W.cell? ⟨w.heap.size + 1 + 1, 0, none⟩ = some (.map (some (w.heap.size + 1))) ∧ MapIs W strKf intVf strOk (w.heap.size + 1) (foldT n S pre)) ∧ Below w.heap.size w W)
    (fun _ _ _ => False)
    (OwnFrom.and (fun s A B row hs hg hr => ⟨cell_kept hs.1 hg (fun r e => (hr r e).2), cell_kept hs.2.1 hg (fun r e => (hr r e).2), hs.2.2.of_block (hg.block _ hs.2.2.lt (fun e => by have := (hr _ e.symm).1; omega))⟩) (ownFrom_below (Nat.le_refl _) (by omega)))
    (fun _ _ _ _ _ hs _ _ => hs)
    ⟨⟨a0, a2, hM4⟩, hB4⟩
    (fun x => { tmps := #[.pointer (some ⟨hb, 0, none⟩), .int .i64 n, undef, .pointer (some ⟨w.heap.size, 0, none⟩), .pointer (some ⟨w.heap.size + 1 + 1, 0, none⟩), .string x.1.1, .int .i64 x.1.2, undef, undef, .pointer (some ⟨hb, 0, none⟩), .pointer (some ⟨hb, 0, none⟩), .pointer (some ⟨hb, 2, none⟩), .map (some cb), .int .i64 S.length, .map (some (w.heap.size + 1)), .pointer (some ⟨hb, 0, none⟩), .func (.func 121) #[] #[.pointer (some ⟨w.heap.size + 1 + 1 + 1, 0, none⟩)], .string x.1.1, .int .i64 x.1.2, undef, undef, undef, undef, undef, undef, undef, undef, undef, undef, undef, undef, undef, undef, undef, undef, undef, undef, undef, undef, undef, undef, undef, undef, undef, undef, undef, undef], defers := [] }) ?assign ?body ?done ?stop
  case assign =>
    intro l x W K hK
    gi_wp2
    exact hK
  case body =>
    rintro l pre x W ⟨⟨hc0, hc2, hM⟩, hB⟩ hlt
    have hkx : strOk x.1.1 := h.cnt.ok _ x.2
    have hvx := hbd _ x.2
    obtain ⟨W5, hrun, hM5, hK5, hz5⟩ := hM.put strKey Try.underlying57 (x := x.1.1) hkx (x.1.2 - n)
    have hrun' : (Instr.mapUpdate 57 (.map (some (w.heap.size + 1))) (.string x.1.1) (.int .i64 (x.1.2 - n))).run Try.prog W = .ok () W5 := hrun
    gi_wp2
    have hml := hM.lt
    exact ⟨KeepsFrom.of_grownBy (hK5.toGrown (fun k _ e => by rw [e])) (fun j e => by cases e; omega), KeepsBut.of_keeps hK5,
      ⟨(hK5.cell (p := ⟨w.heap.size, 0, none⟩) (by show w.heap.size < _; omega) (by show ¬ w.heap.size = _; omega)).trans hc0, (hK5.cell (p := ⟨w.heap.size + 1 + 1, 0, none⟩) (by show w.heap.size + 1 + 1 < _; exact hlt2 hc2) (by show ¬ w.heap.size + 1 + 1 = _; omega)).trans hc2, by rw [foldT_snoc]; exact hM5⟩, hB.trans (hK5.toBelow hB.size (fun k e => by omega))⟩
  case done =>
    rintro D ys W hD hS ⟨⟨hc0, hc2, hM⟩, hB⟩ hK
    have blkW : W.heap[hb]? = _ := (hB.block hb hblt).trans h.blk
    have e2 : W.cell? ⟨hb, 2, none⟩ = some (.map (some cb)) := (hB.cell (p := ⟨hb, 2, none⟩) hblt).trans c2
    have f2 : W.frozen? ⟨hb, 2, none⟩ = false := by simp [World.frozen?, blkW]
    have e4 : W.cell? ⟨hb, 4, none⟩ = some (.int .i64 slack) := (hB.cell (p := ⟨hb, 4, none⟩) hblt).trans c4
    have f4 : W.frozen? ⟨hb, 4, none⟩ = false := by simp [World.frozen?, blkW]
    have hfold := foldT_all (n := n) h.cnt.nodup hS
    rw [hfold] at hM
    have hml := hM.lt
    have hKs : Keeps (fun k => k = hb) W (W.setCell ⟨hb, 2, none⟩ (.map (some (w.heap.size + 1)))) := (Keeps.refl (fun k => k = hb) W).setCell (p := ⟨hb, 2, none⟩) (.inr rfl) _
    have hM' := hM.keep hKs (by show ¬ w.heap.size + 1 = hb; omega)
    have g0 := (hKs.cell (p := ⟨w.heap.size, 0, none⟩) (hlt2 hc0) (by show ¬ w.heap.size = hb; omega)).trans hc0
    have g2 := (hKs.cell (p := ⟨w.heap.size + 1 + 1, 0, none⟩) (hlt2 hc2) (by show ¬ w.heap.size + 1 + 1 = hb; omega)).trans hc2
    gi_wp2_with (first
      | (gi_at_range; refine wpListIn_range_is rfl _ _ rfl Try.underlying57 rfl hM' ?_; intro w5 hrg5 hb5 hz5)
      | gi_in)
    have hTn : (((ys.map (·.1)).map (fun p : ByteArray × Int => (p.1, p.2 - n))).map (·.1)).Nodup := by
      have := h.cnt.nodup
      have h2 := ((hS.map (·.1)).nodup_iff).2 this
      simpa [List.map_map, Function.comp_def] using h2
    generalize hTT : (ys.map (·.1)).map (fun p : ByteArray × Int => (p.1, p.2 - n)) = T at *
    have hrn : (W.setCell ⟨hb, 2, none⟩ (.map (some (w.heap.size + 1)))).cell? ⟨hb, 4, none⟩ = some (.int .i64 slack) := (World.cell?_setCell_other W ⟨hb, 2, none⟩ ⟨hb, 4, none⟩ _ (by intro e; injection e with _ e; cases e)).trans e4
    have hrf : (W.setCell ⟨hb, 2, none⟩ (.map (some (w.heap.size + 1)))).frozen? ⟨hb, 4, none⟩ = false := by rw [World.frozen?_setCell]; exact f4
    have hblk' : (W.setCell ⟨hb, 2, none⟩ (.map (some (w.heap.size + 1)))).heap[hb]? = some (.cells #[.int .i64 room, .int .i64 added, .map (some (w.heap.size + 1)), .int .i64 total, .int .i64 slack] 126 (0, 0)) := by
      simp [World.setCell, Array.getElem?_modify, blkW]
    have hKD : (W.setCell ⟨hb, 2, none⟩ (.map (some (w.heap.size + 1)))).heap[D]? = some (.deferred (some [])) := (Below.heap_setCell _ _ _ _ (by show D ≠ hb; omega)).trans hK
    have hDl : D < W.heap.size := by
      rcases Nat.lt_or_ge D W.heap.size with h' | h'
      · exact h'
      · rw [Array.getElem?_eq_none h'] at hK; cases hK
    have hkw : Keeps (fun k => k = hb) w (W.setCell ⟨hb, 2, none⟩ (.map (some (w.heap.size + 1)))) := (Keeps.ofBelow hB (fun k => k = hb)).trans hKs (fun _ _ e => e)
    generalize hWW : W.setCell ⟨hb, 2, none⟩ (.map (some (w.heap.size + 1))) = W' at *
    have hws : w.heap.size + 1 < W'.heap.size := hM'.lt
    clear hWW
    go_frame
    gi_loopw [7, 8] (fun _ _ wr => ∃ (left M : CntrL), RangeAt wr strKf intVf W'.heap.size (some (w.heap.size + 1)) left ∧ MapIs wr strKf intVf strOk (w.heap.size + 1) M ∧ Hid (TkInv T left M) ∧ Keeps (fun k => k = w.heap.size + 1) W' wr)
      (fun _ _ wr => wr.rangeLeft (w.heap.size + 1) W'.heap.size)
    case atStart => exact ⟨T, T, hrg5, hM'.below hb5 hM'.lt, Lib.hid (TkInv.start T), Keeps.ofBelow hb5 _⟩
    case round =>
      obtain ⟨left, M, hrg, hMr, HT, hk⟩ := hrel
      have q0 := (hk.cell (p := ⟨w.heap.size, 0, none⟩) (hlt2 g0) (by show ¬ w.heap.size = _; omega)).trans g0
      have q2 := (hk.cell (p := ⟨w.heap.size + 1 + 1, 0, none⟩) (hlt2 g2) (by show ¬ w.heap.size + 1 + 1 = _; omega)).trans g2
      have q4 := (hk.cell (p := ⟨hb, 4, none⟩) (hlt2 hrn) (by show ¬ hb = _; omega)).trans hrn
      have qf := (hk.frozen (p := ⟨hb, 4, none⟩) (hlt2 hrn) (by show ¬ hb = _; omega)).trans hrf
      gi_wp2_with (first
        | (gi_at_next; refine wpListIn_next_is rfl _ rfl rfl hrg ?_ ?_)
        | gi_in)
      · intro hl0
        subst hl0
        have hfin := HT.out.fin
        (try go_frame)
        gi_wp2
        have hwr1 : IntKind.i64.wrap (slack + n) = slack + n := IntWalk.i64_in _ (by omega)
        gi_region
        have hKr : wr.heap[D]? = some (.deferred (some [])) := (hk.block D (Array.getElem?_eq_some_iff.1 hKD).1 (by show ¬ D = w.heap.size + 1; omega)).trans hKD
        have hKf : (wr.setCell ⟨hb, 4, none⟩ (.int .i64 (slack + n))).drew.heap[D]? = some (.deferred (some [])) := (Below.heap_setCell wr _ _ _ (by show D ≠ hb; omega)).trans hKr
        have hblr : wr.heap[hb]? = _ := (hk.block hb (Array.getElem?_eq_some_iff.1 hblk').1 (by show ¬ hb = w.heap.size + 1; omega)).trans hblk'
        have hblf : (wr.setCell ⟨hb, 4, none⟩ (.int .i64 (slack + n))).heap[hb]? = some (.cells #[.int .i64 room, .int .i64 added, .map (some (w.heap.size + 1)), .int .i64 total, .int .i64 (slack + n)] 126 (0, 0)) := by
          simp [World.setCell, Array.getElem?_modify, hblr]
        have hperm : M.Perm (takeL S n) := by
          refine hfin.trans ?_
          unfold takeL
          rw [← hTT]
          exact (hS.map _).filter _
        refine ⟨by simp, .inl ⟨_, _, rfl, run_takeDeferred hKf, ?_⟩⟩
        have hMf : MapIs (wr.setCell ⟨hb, 4, none⟩ (.int .i64 (slack + n))) strKf intVf strOk (w.heap.size + 1) M := hMr.of_block (Below.heap_setCell wr _ _ _ (by show w.heap.size + 1 ≠ hb; omega))
        have hkf : Keeps (fun k => k = hb) w (wr.setCell ⟨hb, 4, none⟩ (.int .i64 (slack + n))) := ((hkw.trans hk (fun k hk' e => by omega)).setCell (p := ⟨hb, 4, none⟩) (.inr rfl) _)
        refine ⟨_, results_none rfl _ _ _, rfl, w.heap.size + 1, M, ⟨(World.putObj_heap_other (by show hb ≠ D; omega)).trans hblf, hMf.of_block (World.putObj_heap_other (by show w.heap.size + 1 ≠ D; omega))⟩, hperm, by omega, ?_⟩
        exact ⟨hkf.os, hkf.tape, hkf.output, Nat.le_trans hkf.size (by simp [World.putObj, World.drew]), fun k hk' hn => (World.putObj_heap_other (by omega)).trans (hkf.block k hk' hn)⟩
      · intro x v w6 hmem hrg6 hk6 hz6 hen
        simp only [strKf, intVf] at hen
        have hml6 := mdel_len hrg.nodup (p := (x, v)) hmem
        simp only at hml6
        have hM6 : MapIs w6 strKf intVf strOk (w.heap.size + 1) M := hMr.keep hk6 (by show ¬ w.heap.size + 1 = W'.heap.size; omega)
        have hk06 : Keeps (fun k => k = w.heap.size + 1) W' w6 := hk.trans hk6 (fun k hk' e => by omega)
        have p2 := (hk06.cell (p := ⟨w.heap.size + 1 + 1, 0, none⟩) (hlt2 g2) (by show ¬ w.heap.size + 1 + 1 = _; omega)).trans g2
        have hxT : strOk x := by
          obtain ⟨dn, _, hd⟩ := HT.out
          have hmT : (x, v) ∈ T := hd.subset (List.mem_append.2 (.inl hmem))
          exact hM'.ok _ hmT
        by_cases hv : 0 < v
        · have HT6 := Lib.hid (HT.out.keep hrg.nodup hmem hv)
          gi_wp2
          go_roundw
          case rel => exact ⟨_, M, hrg6, hM6, HT6, hk06⟩
          case measure => rw [hrg6.left_eq, hrg.left_eq]; omega
        · have HT6 := Lib.hid (HT.out.gone hTn hrg.nodup hmem hv)
          have hxl : ∀ p ∈ mdel left x, p.1 ≠ x := fun p hp => by simpa using (List.mem_filter.1 hp).2
          obtain ⟨w7, hrun, hM7, hrg7, hk7, hz7⟩ := hM6.delR (P := Try.prog) strKey Try.underlying57 (ty := 0) hxT hrg6 hxl
          have hrun' : (Builtin.delete_ #[57, 9] 0 #[.map (some (w.heap.size + 1)), .string x]).run Try.prog w6 = .ok (.tuple #[]) w7 := hrun
          gi_wp2
          go_roundw
          case rel => exact ⟨_, _, hrg7, hM7, HT6, hk06.trans hk7 (fun _ _ e => e)⟩
          case measure => rw [hrg7.left_eq, hrg.left_eq]; omega
  case stop =>
    rintro D c pre W _ _ h _
    exact h.elim
end Go.Proofs.Ytmigjlceogofaaa
