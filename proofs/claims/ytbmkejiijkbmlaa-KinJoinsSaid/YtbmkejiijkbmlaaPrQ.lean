/- Contract of (*pairs.table).copy. -/
import Derived.Test.YtbmkejiijkbmlaaPrA
import Derived.Test.YtbmkejiijkbmlaaLayQ
import Derived.Test.YtbmkejiijkbmlaaKitH
import Derived.Test.YtbmkejiijkbmlaaKitC
import Derived.Sort.Grow
namespace Go.Proofs.Ytbmkejiijkbmlaa
open Go.ChangeShapes Go.WideShapes Go.ChangeAt Go.RowKit Go.Shelf Go.Lib Go.Sort Go.Proofs
set_option linter.unusedVariables false
set_option linter.unusedSimpArgs false

theorem run_makeMapD {P : Program} {k e : TypeId} (t : TypeId) (ht : P.underlying t = some (.map k e)) (m : Int) (w : World) : (Instr.makeMap t (some (.int .i64 m))).run P w = .ok (.map (some w.heap.size)) (w.alloc (.map #[] 0)) := by
  simp [Instr.makeMap, run_underlying ht, go_sem, Result.andThen]
/-- The row that a key leads to. -/
def mrow (C : RowsL) (R : Nat → CntL) (k : ByteArray) : CntL := ((mget C k).map R).getD []
theorem mrow_of {C : RowsL} {R : Nat → CntL} (hC : (C.map (·.1)).Nodup) {k : ByteArray} {b : Nat} (h : (k, b) ∈ C) : mrow C R k = R b := by unfold mrow; rw [mget_of_mem hC h]; rfl
theorem pairN_mrow (C : RowsL) (R : Nat → CntL) (a b : ByteArray) : pairN C R a b = (mget (mrow C R a) b).getD 0 := by
  unfold pairN mrow
  cases mget C a <;> simp [mget]
/-- A part of the keys is copied: D are the new map's, left those to come. -/
structure CopyAt (w0 W : World) (dm r cb : Nat) (C : RowsL) (R : Nat → CntL) (left D : RowsL) (R' : Nat → CntL) : Prop where
  rg : RangeAt W strKf mapVf r (some cb) left
  map : MapIs W strKf mapVf strOk dm D
  rows : ∀ p ∈ D, MapIs W strKf intVf strOk p.2 (R' p.2) ∧ R' p.2 = mrow C R p.1 ∧ r < p.2
  apart : (D.map (·.2)).Nodup
  perm : (D.map (·.1) ++ left.map (·.1)).Perm (C.map (·.1))
  sub : ∀ p ∈ left, p ∈ C
  below : Below w0.heap.size w0 W
theorem CopyAt.fin {w0 W : World} {dm r cb db sb : Nat} {S : CntL} {C : RowsL} {R : Nat → CntL} {D : RowsL} {R' : Nat → CntL} {f : ByteArray → Int} {g : ByteArray → ByteArray → Int} (h : CopyAt w0 W dm r cb C R [] D R') (hC : (C.map (·.1)).Nodup) (hI : TabInv S C R f g)
    (hb : W.heap[db]? = some (.cells #[.map (some sb), .map (some dm)] 62 (0, 0))) (hS : MapIs W strKf intVf strOk sb S) (hsd : sb ≠ dm) (hsr : sb < r) (hdr : dm < r) (hr : w0.heap.size ≤ r) (hdm : w0.heap.size ≤ dm) (hdb : w0.heap.size ≤ db) (hsb : w0.heap.size ≤ sb) :
    TabObj W db (tabFoot db sb dm D) f g ∧ ∀ k, tabFoot db sb dm D k → w0.heap.size ≤ k := by
  have hp : (D.map (·.1)).Perm (C.map (·.1)) := by have := h.perm; simpa using this
  have hrow : ∀ k, mrow D R' k = mrow C R k := fun k => by
    cases hg : mget D k with
    | some b =>
      have hm := mget_some_mem hg
      rw [mrow_of h.map.nodup hm]
      exact (h.rows _ hm).2.1
    | none =>
      have hno : mget C k = none := mget_none_iff.2 (fun p hp' e => by
        have : k ∈ D.map (·.1) := hp.mem_iff.2 (List.mem_map.2 ⟨p, hp', e⟩)
        obtain ⟨q, hq, e2⟩ := List.mem_map.1 this
        exact mget_none_iff.1 hg q hq e2)
      simp [mrow, hg, hno]
  have hmS : ∀ p ∈ D, ∃ b, (p.1, b) ∈ C ∧ R' p.2 = R b := fun p hp' => by
    have : p.1 ∈ C.map (·.1) := hp.mem_iff.1 (List.mem_map.2 ⟨p, hp', rfl⟩)
    obtain ⟨q, hq, e⟩ := List.mem_map.1 this
    exact ⟨q.2, by rw [← e]; exact hq, by rw [(h.rows p hp').2.1, ← e, mrow_of hC hq]⟩
  refine ⟨⟨sb, dm, S, D, R', ⟨hb, hS, h.map, fun p hp' => (h.rows p hp').1, hsd, fun p hp' => ⟨fun e => ?_, fun e => ?_⟩, h.apart⟩, ⟨hI.one, hI.spos, fun a b => by rw [pairN_mrow, hrow, ← pairN_mrow]; exact hI.two a b, fun p hp' => ?_, fun p hp' => ?_⟩, rfl⟩, ?_⟩
  · have := (h.rows p hp').2.2; omega
  · have := (h.rows p hp').2.2; omega
  · obtain ⟨b, hb', e⟩ := hmS p hp'
    rw [e]
    exact hI.ppos _ hb'
  · obtain ⟨b, hb', e⟩ := hmS p hp'
    rw [e]
    exact hI.pne _ hb'
  · rintro k (rfl | rfl | rfl | ⟨p, hp', rfl⟩)
    · exact hdb
    · exact hsb
    · exact hdm
    · have := (h.rows p hp').2.2; omega
/-- One more key is copied. -/
theorem CopyAt.step {w0 W W6 W7 W8 : World} {dm r cb q : Nat} {C : RowsL} {R : Nat → CntL} {left D : RowsL} {R' : Nat → CntL} {k : ByteArray} {b : Nat} (h : CopyAt w0 W dm r cb C R left D R') (hC : (C.map (·.1)).Nodup) (hmem : (k, b) ∈ left)
    (hrg6 : RangeAt W6 strKf mapVf r (some cb) (mdel left k)) (hk6 : Keeps (fun j => j = r) W W6) (hm7 : MapIs W7 strKf intVf strOk q (R b)) (hq : q = W6.heap.size) (hb7 : Below W6.heap.size W6 W7)
    (hm8 : MapIs W8 strKf mapVf strOk dm (mput D k q)) (hk8 : Keeps (fun j => j = dm) W7 W8) (hr : w0.heap.size ≤ r) (hrd : r ≠ dm) (hbd : cb ≠ dm) (hdm : w0.heap.size ≤ dm) (hdr : dm < r) : CopyAt w0 W8 dm r cb C R (mdel left k) (D ++ [(k, q)]) (updR R' q (R b)) := by
  have hz6 := hk6.size
  have hz7 := hb7.size
  have hq1 : W.heap.size ≤ q := by omega
  have hlt : ∀ p ∈ D, p.2 < W.heap.size := fun p hp => (h.rows p hp).1.lt
  have hnk : mget D k = none := mget_none_iff.2 (fun p hp e => by
    have hn : (D.map (·.1) ++ left.map (·.1)).Nodup := h.perm.nodup_iff.2 hC
    rw [List.nodup_append] at hn
    exact hn.2.2 _ (List.mem_map.2 ⟨p, hp, e⟩) _ (List.mem_map.2 ⟨_, hmem, rfl⟩) rfl)
  have e2 : mput D k q = D ++ [(k, q)] := by unfold mput; rw [hnk]; simp
  rw [e2] at hm8
  have hkeep : ∀ j, j < W.heap.size → j ≠ r → j ≠ dm → W8.heap[j]? = W.heap[j]? := fun j hj h1 h2 =>
    (hk8.block j (by omega) h2).trans ((hb7.block j (by omega)).trans (hk6.block j hj h1))
  have hrl := h.rg.lt
  refine ⟨?_, hm8, ?_, ?_, ?_, ?_, ?_⟩
  · have h7 := hrg6.keep (Keeps.ofBelow hb7 (fun _ => False)) (fun e => e) (fun _ _ e => e)
    exact h7.keep hk8 hrd (fun j e => by injection e with e; subst e; exact hbd)
  · intro p hp
    rcases List.mem_append.1 hp with hp | hp
    · obtain ⟨r1, r2, r3⟩ := h.rows p hp
      have hl := hlt p hp
      rw [updR_ne R' _ (by omega)]
      exact ⟨r1.of_block (hkeep p.2 hl (by omega) (by omega)), r2, r3⟩
    · simp at hp
      subst hp
      simp only [updR_same]
      exact ⟨hm7.keep hk8 (by omega), (mrow_of hC (h.sub _ hmem)).symm, by omega⟩
  · rw [List.map_append, List.nodup_append]
    refine ⟨h.apart, by simp, ?_⟩
    intro a ha c hc
    simp at hc
    subst hc
    obtain ⟨p, hp, rfl⟩ := List.mem_map.1 ha
    have := hlt p hp
    omega
  · refine List.Perm.trans ?_ h.perm
    rw [List.map_append, List.append_assoc]
    refine List.Perm.append_left _ ?_
    have := ((mdel_perm h.rg.nodup hmem).map (·.1)).symm
    simpa using this
  · intro p hp
    exact h.sub p (List.mem_filter.1 hp).1
  · refine h.below.trans ?_
    have h6 : Below w0.heap.size W W6 := hk6.toBelow h.below.size (fun j e => by subst e; exact hr)
    exact (h6.trans (hb7.mono h6.size |> fun x => x.mono (by have := h.below.size; omega))).trans (hk8.toBelow (by have := h.below.size; omega) (fun j e => by subst e; exact hdm))

/-- What a copy leaves. -/
def CopyNew (w : World) (f : ByteArray → Int) (g : ByteArray → ByteArray → Int) (e : Ending) (w' : World) : Prop :=
  ∃ db F, e = .returned (.pointer (some ⟨db, 0, none⟩)) ∧ TabObj w' db F f g ∧ (∀ k, F k → w.heap.size ≤ k) ∧ Below w.heap.size w w'
theorem len_at {w : World} {cb : Nat} {C : RowsL} (h : MapIs w strKf mapVf strOk cb C) (ty : TypeId) : (Builtin.len_ #[60] ty #[.map (some cb)]).run Try.prog w = .ok (.int .i64 (List.length C)) w := h.len (P := Try.prog) Try.underlying60 (ty := ty)

set_option maxRecDepth 20000 in
set_option maxHeartbeats 4000000 in
theorem tcopy_any (tb : Nat) (F : Nat → Prop) (f : ByteArray → Int) (g : ByteArray → ByteArray → Int) (w : World) (h : TabObj w tb F f g) :
    Calls Try.prog 26 #[.pointer (some ⟨tb, 0, none⟩)] w (CopyNew w f g) := by
  obtain ⟨sb, cb, S, C, R, hD, hI, -⟩ := h
  obtain ⟨c0, c1⟩ := hD.cells
  have hlt := hD.foot_lt
  have htl := hlt tb (.inl rfl)
  have hcl := hlt cb (.inr (.inr (.inl rfl)))
  have hmk := fun m W => run_makeMapD (P := Try.prog) 60 Try.underlying60 m W
  have HLT := Lib.hid hlt
  have HD := Lib.hid hD
  have HI := Lib.hid hI
  clear hD hI hlt
  have hKe : Below w.heap.size w w.drew := (Below.refl _ _).drew
  go_enter Try.func26, Try.ntmps26
  go_wp2_with fail
  refine heldStart 13 (S := fun W => W.cell? ⟨tb, 0, none⟩ = some (.map (some sb)) ∧ W.cell? ⟨tb, 1, none⟩ = some (.map (some cb))) (by kernel_rfl) ?_ (fun hHeld => ?_)
  · exact ⟨(Below.cell (p := ⟨tb, 0, none⟩) (by first | exact hKe | exact hKe.alloc hKe.size _ | exact (hKe.alloc hKe.size _).alloc (hKe.alloc hKe.size _).size _) htl).trans c0, (Below.cell (p := ⟨tb, 1, none⟩) (by first | exact hKe | exact hKe.alloc hKe.size _ | exact (hKe.alloc hKe.size _).alloc (hKe.alloc hKe.size _).size _) htl).trans c1⟩
  refine heldTake 0 (v := ?_) (by simp only [List.getElem?_toArray, List.getElem?_cons_succ, List.getElem?_cons_zero]; rfl) (by kernel_rfl) (by intro _ _ _ h; exact h) (by rfl) (by assumption) ?_ ?_
  rotate_left
  · intro W hSw; (try dsimp only at hSw); go_simp; try with_reducible rfl
  simp only [Act.put, List.setIfInBounds_toArray, List.set_cons_zero, List.set_cons_succ]
  refine heldTake 1 (v := ?_) (by simp only [List.getElem?_toArray, List.getElem?_cons_succ, List.getElem?_cons_zero]; rfl) (by kernel_rfl) (by intro _ _ _ h; exact h) (by rfl) (by assumption) ?_ ?_
  rotate_left
  · intro W hSw; (try dsimp only at hSw); go_simp; try with_reducible rfl
  simp only [Act.put, List.setIfInBounds_toArray, List.set_cons_zero, List.set_cons_succ]
  refine heldTake 2 (v := ?_) (by simp only [List.getElem?_toArray, List.getElem?_cons_succ, List.getElem?_cons_zero]; rfl) (by kernel_rfl) (by intro _ _ _ h; exact h) (by rfl) (by assumption) ?_ ?_
  rotate_left
  · intro W hSw; (try dsimp only at hSw); go_simp; try with_reducible rfl
  simp only [Act.put, List.setIfInBounds_toArray, List.set_cons_zero, List.set_cons_succ]
  refine heldTake 3 (v := ?_) (by simp only [List.getElem?_toArray, List.getElem?_cons_succ, List.getElem?_cons_zero]; rfl) (by kernel_rfl) (by intro _ _ _ h; exact h) (by rfl) (by assumption) ?_ ?_
  rotate_left
  · intro W hSw; (try dsimp only at hSw); go_simp; try with_reducible rfl
  simp only [Act.put, List.setIfInBounds_toArray, List.set_cons_zero, List.set_cons_succ]
  refine heldTake 5 (v := ?_) (by simp only [List.getElem?_toArray, List.getElem?_cons_succ, List.getElem?_cons_zero]; rfl) (by kernel_rfl) (by intro _ _ _ h; exact h) (by rfl) (by assumption) ?_ ?_
  rotate_left
  · intro W hSw; (try dsimp only at hSw); go_simp; try with_reducible rfl
  simp only [Act.put, List.setIfInBounds_toArray, List.set_cons_zero, List.set_cons_succ]
  refine heldTake 6 (v := ?_) (by simp only [List.getElem?_toArray, List.getElem?_cons_succ, List.getElem?_cons_zero]; rfl) (by kernel_rfl) (by intro _ _ _ h; exact h) (by rfl) (by assumption) ?_ ?_
  rotate_left
  · intro W hSw; (try dsimp only at hSw); go_simp; try with_reducible rfl
  simp only [Act.put, List.setIfInBounds_toArray, List.set_cons_zero, List.set_cons_succ]
  refine heldTake 7 (v := ?_) (by simp only [List.getElem?_toArray, List.getElem?_cons_succ, List.getElem?_cons_zero]; rfl) (by kernel_rfl) (by intro _ _ _ h; exact h) (by rfl) (by assumption) ?_ ?_
  rotate_left
  · intro W hSw; (try dsimp only at hSw); go_simp; try with_reducible rfl
  simp only [Act.put, List.setIfInBounds_toArray, List.set_cons_zero, List.set_cons_succ]
  refine heldTake 8 (v := ?_) (by simp only [List.getElem?_toArray, List.getElem?_cons_succ, List.getElem?_cons_zero]; rfl) (by kernel_rfl) (by intro _ _ _ h; exact h) (by rfl) (by assumption) ?_ ?_
  rotate_left
  · intro W hSw; (try dsimp only at hSw); go_simp; try with_reducible rfl
  simp only [Act.put, List.setIfInBounds_toArray, List.set_cons_zero, List.set_cons_succ]
  refine heldCall 4 (by simp only [List.getElem?_toArray, List.getElem?_cons_succ, List.getElem?_cons_zero]; rfl) (by kernel_rfl) (fun K hK => ?_)
  go_simp
  refine (mapsClone_any (P := Try.prog) Try.cloQ HD.out.ones.drew).mono ?_
  rintro e w2 ⟨rfl, hm2, hb2, hz2⟩
  replace hKe : Below w.heap.size w w2 := hKe.trans (hb2.mono hKe.size)
  have hln := fun ty => len_at (HD.out.twos.keep (Keeps.ofBelow hKe (fun _ => False)) (fun e => e)) ty
  have HM2 := Lib.hid hm2
  have HZ2 := Lib.hid hz2
  clear hm2 hb2 hz2
  go_wp2_with fail
  refine hK.out _ _ ?_ (fun hHeld => ?_)
  · exact ⟨(Below.cell (p := ⟨tb, 0, none⟩) (by first | exact hKe | exact hKe.alloc hKe.size _ | exact (hKe.alloc hKe.size _).alloc (hKe.alloc hKe.size _).size _) htl).trans c0, (Below.cell (p := ⟨tb, 1, none⟩) (by first | exact hKe | exact hKe.alloc hKe.size _ | exact (hKe.alloc hKe.size _).alloc (hKe.alloc hKe.size _).size _) htl).trans c1⟩
  clear hK K
  (try simp only [Act.put, List.setIfInBounds_toArray, List.set_cons_zero, List.set_cons_succ])
  refine heldCall 9 (by simp only [List.getElem?_toArray, List.getElem?_cons_succ, List.getElem?_cons_zero]; rfl) (by kernel_rfl) (fun K hK => ?_)
  go_simp
  refine hK.out _ _ ?_ (fun hHeld => ?_)
  · exact ⟨(Below.cell (p := ⟨tb, 0, none⟩) (by first | exact hKe | exact hKe.alloc hKe.size _ | exact (hKe.alloc hKe.size _).alloc (hKe.alloc hKe.size _).size _) htl).trans c0, (Below.cell (p := ⟨tb, 1, none⟩) (by first | exact hKe | exact hKe.alloc hKe.size _ | exact (hKe.alloc hKe.size _).alloc (hKe.alloc hKe.size _).size _) htl).trans c1⟩
  clear hK K
  (try simp only [Act.put, List.setIfInBounds_toArray, List.set_cons_zero, List.set_cons_succ])
  refine heldCall 10 (by simp only [List.getElem?_toArray, List.getElem?_cons_succ, List.getElem?_cons_zero]; rfl) (by kernel_rfl) (fun K hK => ?_)
  go_simp
  refine hK.out _ _ ?_ (fun hHeld => ?_)
  · exact ⟨(Below.cell (p := ⟨tb, 0, none⟩) (by first | exact hKe | exact hKe.alloc hKe.size _ | exact (hKe.alloc hKe.size _).alloc (hKe.alloc hKe.size _).size _) htl).trans c0, (Below.cell (p := ⟨tb, 1, none⟩) (by first | exact hKe | exact hKe.alloc hKe.size _ | exact (hKe.alloc hKe.size _).alloc (hKe.alloc hKe.size _).size _) htl).trans c1⟩
  clear hK K
  (try simp only [Act.put, List.setIfInBounds_toArray, List.set_cons_zero, List.set_cons_succ])
  refine heldTake 11 (v := ?_) (by simp only [List.getElem?_toArray, List.getElem?_cons_succ, List.getElem?_cons_zero]; rfl) (by kernel_rfl) (by intro _ _ _ h; exact h) (by rfl) (by assumption) ?_ ?_
  rotate_left
  · intro W hSw; (try dsimp only at hSw); go_simp; try with_reducible rfl
  simp only [Act.put, List.setIfInBounds_toArray, List.set_cons_zero, List.set_cons_succ]
  refine heldCall 12 (by simp only [List.getElem?_toArray, List.getElem?_cons_succ, List.getElem?_cons_zero]; rfl) (by kernel_rfl) (fun K hK => ?_)
  go_simp
  refine hK.out _ _ ?_ (fun hHeld => ?_)
  · exact ⟨(Below.cell (p := ⟨tb, 0, none⟩) (by first | exact hKe | exact hKe.alloc hKe.size _ | exact (hKe.alloc hKe.size _).alloc (hKe.alloc hKe.size _).size _) htl).trans c0, (Below.cell (p := ⟨tb, 1, none⟩) (by first | exact hKe | exact hKe.alloc hKe.size _ | exact (hKe.alloc hKe.size _).alloc (hKe.alloc hKe.size _).size _) htl).trans c1⟩
  clear hK K
  (try simp only [Act.put, List.setIfInBounds_toArray, List.set_cons_zero, List.set_cons_succ])
  refine heldTake 13 (v := ?_) (by simp only [List.getElem?_toArray, List.getElem?_cons_succ, List.getElem?_cons_zero]; rfl) (by kernel_rfl) (by intro _ _ _ h; exact h) (by rfl) (by assumption) ?_ ?_
  rotate_left
  · intro W hSw; (try dsimp only at hSw); go_simp; try with_reducible rfl
  simp only [Act.put, List.setIfInBounds_toArray, List.set_cons_zero, List.set_cons_succ]
  refine heldDone (by kernel_rfl) ?_ _
  obtain ⟨W0, hW0⟩ : ∃ W0, W0 = ((w2.alloc (Obj.map #[] 0)).alloc (Obj.cells #[Value.map (some w.heap.size), Value.map (some w2.heap.size)] 62)) := ⟨_, rfl⟩
  have hb02 : Below w2.heap.size w2 W0 := by rw [hW0]; exact (((Below.refl _ w2).alloc (Nat.le_refl _) _).alloc (by simp) _)
  have hz0 : W0.heap.size = w2.heap.size + 1 + 1 := by rw [hW0]; simp
  have hz2 : w2.heap.size = w.heap.size + 1 := HZ2.out
  have hb0 : Below w.heap.size w W0 := hKe.trans (hb02.mono hKe.size)
  have hm0 : MapIs W0 strKf mapVf strOk w2.heap.size [] := by rw [hW0]; exact (MapIs.made w2 _ _ _).alloc _
  have hn0 : MapIs W0 strKf intVf strOk w.heap.size S := HM2.out.keep (Keeps.ofBelow hb02 (fun _ => False)) (fun e => e)
  have hd0 : W0.heap[w2.heap.size + 1]? = some (.cells #[.map (some w.heap.size), .map (some w2.heap.size)] 62 (0, 0)) := by
    rw [hW0]
    have := heap_alloc_new (w2.alloc (Obj.map #[] 0)) (Obj.cells #[Value.map (some w.heap.size), Value.map (some w2.heap.size)] 62)
    rw [World.size_alloc] at this
    exact this
  have hs0 : MapIs W0 strKf mapVf strOk cb C := HD.out.twos.keep (Keeps.ofBelow hb0 (fun _ => False)) (fun e => e)
  have k2 : W0.cell? ⟨tb, 1, none⟩ = some (.map (some cb)) := (hb0.cell (p := ⟨tb, 1, none⟩) htl).trans c1
  rw [← hW0]
  clear hW0 hKe c0 c1 hmk hln hHeld hb02 HM2 HZ2
  obtain ⟨nb, hnb⟩ : ∃ nb, nb = w.heap.size := ⟨_, rfl⟩
  obtain ⟨dm, hdm⟩ : ∃ dm, dm = w2.heap.size := ⟨_, rfl⟩
  obtain ⟨db, hdb⟩ : ∃ db, db = w2.heap.size + 1 := ⟨_, rfl⟩
  rw [← hdm] at hm0
  rw [← hnb] at hn0
  rw [← hdb, ← hdm, ← hnb] at hd0
  rw [← hdb, ← hdm, ← hnb]
  have hnd : nb = w.heap.size ∧ dm = w.heap.size + 1 ∧ db = w.heap.size + 2 ∧ W0.heap.size = w.heap.size + 3 := ⟨hnb, by omega, by omega, by omega⟩
  have HND := Lib.hid hnd
  clear hdm hdb hnb hnd hz2 hz0
  go_wp2_with (at_range; refine wpList_range_is rfl _ _ rfl Try.underlying60 rfl hs0 ?_; intro w4 hrg4 hb4 hz4)
  obtain ⟨hnb, hdm, hdb, hz0⟩ := HND.out
  have hst : CopyAt w w4 dm W0.heap.size cb C R C [] (fun _ => []) := ⟨hrg4, hm0.keep (Keeps.ofBelow hb4 (fun _ => False)) (fun e => e), by simp, by simp, by simp, fun _ h => h, hb0.trans (hb4.mono (by omega))⟩
  have hd4 : w4.heap[db]? = some (.cells #[.map (some nb), .map (some dm)] 62 (0, 0)) := (hb4.block db (by omega)).trans hd0
  have hn4 : MapIs w4 strKf intVf strOk nb S := hn0.keep (Keeps.ofBelow hb4 (fun _ => False)) (fun e => e)
  have HST := Lib.hid hst
  have HD4 := Lib.hid (And.intro hd4 hn4)
  have HNS := Lib.hid HD.out.twos.nodup
  clear hst hd4 hrg4 hb4 hz4 hm0 hd0 hs0 k2 hb0 hn4 hn0
  obtain ⟨r, hr⟩ : ∃ r, r = W0.heap.size := ⟨_, rfl⟩
  rw [← hr] at HST ⊢
  have hrz : r = w.heap.size + 3 := by omega
  have HRZ := Lib.hid hrz
  clear hr hz0 hrz hdm hdb hnb
  go_frame
  go_loopg [] C.length (fun rest wr => ∃ left D R', Hid (rest = List.length left) ∧ Hid (CopyAt w wr dm r cb C R left D R') ∧ Hid (wr.heap[db]? = some (.cells #[.map (some nb), .map (some dm)] 62 (0, 0)) ∧ MapIs wr strKf intVf strOk nb S))
  case atStart => exact ⟨C, [], fun _ => [], Lib.hid rfl, HST, HD4⟩
  case round =>
    clear HST HD4
    obtain ⟨left, D, R', HLN, HC, HDK⟩ := hrel
    obtain ⟨w5, rfl⟩ : ∃ w5 : World, w5 = wr := ⟨_, rfl⟩
    go_wp2_with (at_next; refine wpList_next_is rfl _ rfl rfl HC.out.rg ?_ ?_)
    · intro h0
      subst h0
      have hfin := HC.out.fin HNS.out HI.out HDK.out.1 HDK.out.2 (by have := HND.out; omega) (by have := HND.out; have := HRZ.out; omega) (by have := HND.out; have := HRZ.out; omega) (by have := HRZ.out; omega) (by have := HND.out; omega) (by have := HND.out; omega) (by have := HND.out; omega)
      have FIN := Lib.hid hfin
      clear hfin
      (try go_frame)
      go_wp2
      go_ret
      exact ⟨db, _, rfl, FIN.out.1, FIN.out.2, HC.out.below⟩
    · intro k b w6 hmem hrg6 hk6 hz6 hen
      have hml := mdel_len HC.out.rg.nodup (p := (k, b)) hmem
      simp only at hml
      have HML := Lib.hid hml
      have hmS := HC.out.sub _ hmem
      have hbl2 : b < w.heap.size := HLT.out b (.inr (.inr (.inr ⟨_, hmS, rfl⟩)))
      have hrow5 : MapIs w5 strKf intVf strOk b (R b) := (HD.out.rows _ hmS).keep (Keeps.ofBelow HC.out.below (fun _ => False)) (fun e => e)
      have hrow6 := (hrow5.keep hk6 (by have := HRZ.out; omega)).drew
      have hkok : strOk k := HD.out.twos.ok _ hmS
      obtain ⟨hnb, hdm, hdb, -⟩ := HND.out
      have hrz := HRZ.out
      have hw5 := HC.out.below.size
      have hdl : dm < w5.heap.size := HC.out.map.lt
      have hdbl : db < w5.heap.size := (Array.getElem?_eq_some_iff.1 HDK.out.1).1
      have hm6 : MapIs w6.drew strKf mapVf strOk dm D := (HC.out.map.keep hk6 (by omega)).drew
      have hd6 : w6.heap[db]? = some (.cells #[.map (some nb), .map (some dm)] 62 (0, 0)) := (hk6.block db hdbl (by omega)).trans HDK.out.1
      have hn6 : MapIs w6 strKf intVf strOk nb S := HDK.out.2.keep hk6 (by omega)
      have s6 : w6.cell? ⟨db, 1, none⟩ = some (.map (some dm)) := by simp [World.cell?, hd6]
      have hdbl6 : db < w6.drew.heap.size := Nat.lt_of_lt_of_le hdbl hk6.size
      simp only [strKf, mapVf] at hen
      have HZ6 := Lib.hid hz6
      have HR6 := Lib.hid hrow6
      have HM6 := Lib.hid hm6
      have HD6 := Lib.hid (And.intro hd6 hn6)
      have HRG6 := Lib.hid hrg6
      have HK6 := Lib.hid hk6
      clear hml hrow5 hrow6 hm6 hd6 hrg6 hk6 hz6 hdm hdb hrz hw5 hnb hn6
      (try go_frame)
      go_wp2_with fail
      have hKq : w6.drew.cell? ⟨db, 1, none⟩ = some (.map (some dm)) := s6
      refine heldStart 7 (S := fun W => W.cell? ⟨db, 1, none⟩ = some (.map (some dm))) (by kernel_rfl) ?_ (fun hHeld => ?_)
      · exact hKq
      refine heldTake 0 (v := ?_) (by simp only [List.getElem?_toArray, List.getElem?_cons_succ, List.getElem?_cons_zero]; rfl) (by kernel_rfl) (by intro _ _ _ h; exact h) (by rfl) (by assumption) ?_ ?_
      rotate_left
      · intro W hSw; (try dsimp only at hSw); go_simp; try with_reducible rfl
      simp only [Act.put, List.setIfInBounds_toArray, List.set_cons_zero, List.set_cons_succ]
      refine heldTake 1 (v := ?_) (by simp only [List.getElem?_toArray, List.getElem?_cons_succ, List.getElem?_cons_zero]; rfl) (by kernel_rfl) (by intro _ _ _ h; exact h) (by rfl) (by assumption) ?_ ?_
      rotate_left
      · intro W hSw; (try dsimp only at hSw); go_simp; try with_reducible rfl
      simp only [Act.put, List.setIfInBounds_toArray, List.set_cons_zero, List.set_cons_succ]
      refine heldTake 2 (v := ?_) (by simp only [List.getElem?_toArray, List.getElem?_cons_succ, List.getElem?_cons_zero]; rfl) (by kernel_rfl) (by intro _ _ _ h; exact h) (by rfl) (by assumption) ?_ ?_
      rotate_left
      · intro W hSw; (try dsimp only at hSw); go_simp; try with_reducible rfl
      simp only [Act.put, List.setIfInBounds_toArray, List.set_cons_zero, List.set_cons_succ]
      refine heldTake 3 (v := ?_) (by simp only [List.getElem?_toArray, List.getElem?_cons_succ, List.getElem?_cons_zero]; rfl) (by kernel_rfl) (by intro _ _ _ h; exact h) (by rfl) (by assumption) ?_ ?_
      rotate_left
      · intro W hSw; (try dsimp only at hSw); go_simp; try with_reducible rfl
      simp only [Act.put, List.setIfInBounds_toArray, List.set_cons_zero, List.set_cons_succ]
      refine heldTake 4 (v := ?_) (by simp only [List.getElem?_toArray, List.getElem?_cons_succ, List.getElem?_cons_zero]; rfl) (by kernel_rfl) (by intro _ _ _ h; exact h) (by rfl) (by assumption) ?_ ?_
      rotate_left
      · intro W hSw; (try dsimp only at hSw); go_simp; try with_reducible rfl
      simp only [Act.put, List.setIfInBounds_toArray, List.set_cons_zero, List.set_cons_succ]
      refine heldTake 5 (v := ?_) (by simp only [List.getElem?_toArray, List.getElem?_cons_succ, List.getElem?_cons_zero]; rfl) (by kernel_rfl) (by intro _ _ _ h; exact h) (by rfl) (by assumption) ?_ ?_
      rotate_left
      · intro W hSw; (try dsimp only at hSw); go_simp; try with_reducible rfl
      simp only [Act.put, List.setIfInBounds_toArray, List.set_cons_zero, List.set_cons_succ]
      refine heldCall 6 (by simp only [List.getElem?_toArray, List.getElem?_cons_succ, List.getElem?_cons_zero]; rfl) (by kernel_rfl) (fun K hK => ?_)
      go_simp
      refine (mapsClone_any (P := Try.prog) Try.cloQ HR6.out).mono ?_
      rintro e w7 ⟨rfl, hm7, hb7, hz7⟩
      have hKp : w7.cell? ⟨db, 1, none⟩ = some (.map (some dm)) := (hb7.cell (p := ⟨db, 1, none⟩) hdbl6).trans hKq
      clear hKq
      have hKq := hKp
      clear hKp
      obtain ⟨w8, hrun, hm8, hk8, hz8⟩ := ((HM6.out.keep (Keeps.ofBelow hb7 (fun _ => False)) (fun e => e))).put strKey Try.underlying60 (x := k) hkok w6.drew.heap.size
      have hrun' : (Instr.mapUpdate 60 (.map (some dm)) (.string k) (.map (some w6.heap.size))).run Try.prog w7 = .ok () w8 := hrun
      have HM7 := Lib.hid hm7
      have HB7 := Lib.hid hb7
      have HM8 := Lib.hid hm8
      have HK8 := Lib.hid hk8
      clear hm7 hb7 hz7 hrun hm8 hk8 hz8
      go_wp2_with fail
      refine hK.out _ _ ?_ (fun hHeld => ?_)
      · exact hKq
      clear hK K
      (try simp only [Act.put, List.setIfInBounds_toArray, List.set_cons_zero, List.set_cons_succ])
      refine heldLast 7 (by simp only [List.getElem?_toArray, List.getElem?_cons_succ, List.getElem?_cons_zero]; rfl) (by kernel_rfl) rfl (fun K hK => ?_)
      go_simp
      refine hK.out _ _ ?_
      clear hK K
      (try simp only [Act.put, List.setIfInBounds_toArray, List.set_cons_zero, List.set_cons_succ])
      refine heldDone (by kernel_rfl) ?_ _
      have hcbl := hcl
      have hstep := HC.out.step HNS.out hmem HRG6.out HK6.out HM7.out rfl (((Below.refl w6.heap.size w6).drew).trans HB7.out) HM8.out HK8.out (by have := HRZ.out; omega) (by have := HRZ.out; have := HND.out; omega) (by have := HND.out; omega) (by have := HND.out; omega) (by have := HND.out; have := HRZ.out; omega)
      have hd8 : w8.heap[db]? = some (.cells #[.map (some nb), .map (some dm)] 62 (0, 0)) := (HK8.out.block db (Nat.lt_of_lt_of_le hdbl6 HB7.out.size) (by have := HND.out; omega)).trans ((HB7.out.block db hdbl6).trans HD6.out.1)
      have hn8 : MapIs w8 strKf intVf strOk nb S := ((HD6.out.2.keep (Keeps.ofBelow ((((Below.refl w6.heap.size w6).drew).trans HB7.out)) (fun _ => False)) (fun e => e))).keep HK8.out (by have := HND.out; omega)
      have HS8 := Lib.hid hstep
      have HD8 := Lib.hid (And.intro hd8 hn8)
      clear hstep hd8 hn8 hKq hHeld hrun'
      (try go_frame)
      (try go_wp2)
      go_roundg (mdel left k).length
      case measure => have := HML.out; have := HLN.out; omega
      case rel => exact ⟨mdel left k, _, _, Lib.hid rfl, HS8, HD8⟩
end Go.Proofs.Ytbmkejiijkbmlaa
