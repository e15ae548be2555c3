/- Contract of decay.Copy. -/
import Derived.Test.YtgahopkbgefjdaaDecN
import Derived.Test.YtgahopkbgefjdaaKitC
namespace Go.Proofs.Ytgahopkbgefjdaa
open Go.ChangeShapes Go.WideShapes Go.ChangeAt Go.RowKit Go.Shelf Go.Lib Go.Sort Go.Proofs
set_option linter.unusedVariables false
set_option linter.unusedSimpArgs false

theorem run_makeMapD {P : Program} {k e : TypeId} (t : TypeId) (ht : P.underlying t = some (.map k e)) (m : Int) (w : World) : (Instr.makeMap t (some (.int .i64 m))).run P w = .ok (.map (some w.heap.size)) (w.alloc (.map #[] 0)) := by
  simp [Instr.makeMap, run_underlying ht, go_sem, Result.andThen]
/-- A part of the keys is copied: D are the new map's, left those to come. -/
structure CopyAt (w0 W : World) (dm r bs : Nat) (S : KeysL) (R : Nat → RowL) (left D : KeysL) (R' : Nat → RowL) : Prop where
  rg : RangeAt W strKf mapVf r (some bs) left
  map : MapIs W strKf mapVf strOk dm D
  rows : ∀ p ∈ D, MapIs W intVf intVf intOk p.2 (R' p.2) ∧ R' p.2 = mrow S R p.1 ∧ p.2 ≠ dm ∧ w0.heap.size ≤ p.2
  apart : (D.map (·.2)).Nodup
  perm : (D.map (·.1) ++ left.map (·.1)).Perm (S.map (·.1))
  sub : ∀ p ∈ left, p ∈ S
  below : Below w0.heap.size w0 W
theorem mrow_of {S : KeysL} {R : Nat → RowL} (hS : (S.map (·.1)).Nodup) {k : ByteArray} {b : Nat} (h : (k, b) ∈ S) : mrow S R k = R b := by unfold mrow; rw [mget_of_mem hS h]
theorem CopyAt.fin {w0 W : World} {dm r bs db cb : Nat} {S : KeysL} {R : Nat → RowL} {D : KeysL} {R' : Nat → RowL} {hf cnt : Int} {hist : List AddD} (h : CopyAt w0 W dm r bs S R [] D R') (hS : (S.map (·.1)).Nodup) (hI : DecInv S R hist cnt)
    (hb : W.heap[db]? = some (.cells #[.int .i64 hf, .int .i64 cnt, .map (some dm)] 52 (0, 0))) (hdm : w0.heap.size ≤ dm) (hdb : w0.heap.size ≤ db) (h1 : 1 ≤ hf) (h2 : hf ≤ 1099511627776) :
    DecObj W db (decFoot db dm D) hf cnt hist ∧ ∀ k, decFoot db dm D k → w0.heap.size ≤ k := by
  have hp : (D.map (·.1)).Perm (S.map (·.1)) := by have := h.perm; simpa using this
  have hrow : ∀ k, mrow D R' k = mrow S R k := fun k => by
    cases hg : mget D k with
    | some b =>
      have hm := mget_some_mem hg
      rw [mrow_of h.map.nodup hm]
      exact (h.rows _ hm).2.1
    | none =>
      have hno : mget S k = none := mget_none_iff.2 (fun p hp' e => by
        have : k ∈ D.map (·.1) := hp.mem_iff.2 (List.mem_map.2 ⟨p, hp', e⟩)
        obtain ⟨q, hq, e2⟩ := List.mem_map.1 this
        exact mget_none_iff.1 hg q hq e2)
      simp [mrow, hg, hno]
  have hmS : ∀ p ∈ D, ∃ b, (p.1, b) ∈ S ∧ R' p.2 = R b := fun p hp' => by
    have : p.1 ∈ S.map (·.1) := hp.mem_iff.1 (List.mem_map.2 ⟨p, hp', rfl⟩)
    obtain ⟨q, hq, e⟩ := List.mem_map.1 this
    exact ⟨q.2, by rw [← e]; exact hq, by rw [(h.rows p hp').2.1, ← e, mrow_of hS hq]⟩
  refine ⟨⟨dm, D, R', ⟨hb, h.map, fun p hp' => (h.rows p hp').1, fun p hp' => (h.rows p hp').2.2.1, h.apart⟩, ⟨fun key f => by rw [hrow, hI.eqs], fun p hp' => ?_, fun p hp' => ?_, hI.good, hI.total, hI.cnt0⟩, rfl, h1, h2⟩, ?_⟩
  · obtain ⟨b, hb', e⟩ := hmS p hp'
    rw [e]
    exact hI.some_ _ hb'
  · obtain ⟨b, hb', e⟩ := hmS p hp'
    rw [e]
    exact hI.pos _ hb'
  · rintro k (rfl | rfl | ⟨p, hp', rfl⟩)
    · exact hdb
    · exact hdm
    · exact (h.rows p hp').2.2.2
/-- One more key is copied. -/
theorem CopyAt.step {w0 W W6 W7 W8 : World} {dm r bs q : Nat} {S : KeysL} {R : Nat → RowL} {left D : KeysL} {R' : Nat → RowL} {k : ByteArray} {b : Nat} (h : CopyAt w0 W dm r bs S R left D R') (hS : (S.map (·.1)).Nodup) (hmem : (k, b) ∈ left)
    (hrg6 : RangeAt W6 strKf mapVf r (some bs) (mdel left k)) (hk6 : Keeps (fun j => j = r) W W6) (hm7 : MapIs W7 intVf intVf intOk q (R b)) (hq : q = W6.heap.size) (hb7 : Below W6.heap.size W6 W7)
    (hm8 : MapIs W8 strKf mapVf strOk dm (mput D k q)) (hk8 : Keeps (fun j => j = dm) W7 W8) (hr : w0.heap.size ≤ r) (hrd : r ≠ dm) (hbd : bs ≠ dm) (hdm : w0.heap.size ≤ dm) (hdl : dm < W.heap.size) (hrr : ∀ p ∈ D, p.2 ≠ r) : CopyAt w0 W8 dm r bs S R (mdel left k) (D ++ [(k, q)]) (upd R' q (R b)) ∧ ∀ p ∈ D ++ [(k, q)], p.2 ≠ r := by
  have hz6 := hk6.size
  have hz7 := hb7.size
  have hq1 : W.heap.size ≤ q := by omega
  have hlt : ∀ p ∈ D, p.2 < W.heap.size := fun p hp => (h.rows p hp).1.lt
  have hnk : mget D k = none := mget_none_iff.2 (fun p hp e => by
    have hn : (D.map (·.1) ++ left.map (·.1)).Nodup := h.perm.nodup_iff.2 hS
    rw [List.nodup_append] at hn
    exact hn.2.2 _ (List.mem_map.2 ⟨p, hp, e⟩) _ (List.mem_map.2 ⟨_, hmem, rfl⟩) rfl)
  have e2 : mput D k q = D ++ [(k, q)] := by unfold mput; rw [hnk]; simp
  rw [e2] at hm8
  have hkeep : ∀ j, j < W.heap.size → j ≠ r → j ≠ dm → W8.heap[j]? = W.heap[j]? := fun j hj h1 h2 =>
    (hk8.block j (by omega) h2).trans ((hb7.block j (by omega)).trans (hk6.block j hj h1))
  have hrl := h.rg.lt
  have hqr : q ≠ r := by omega
  refine ⟨⟨?_, hm8, ?_, ?_, ?_, ?_, ?_⟩, ?_⟩
  · have h7 := hrg6.keep (Keeps.ofBelow hb7 noF) (fun e => e) (fun _ _ e => e)
    exact h7.keep hk8 hrd (fun j e => by injection e with e; subst e; exact hbd)
  · intro p hp
    rcases List.mem_append.1 hp with hp | hp
    · obtain ⟨r1, r2, r3, r4⟩ := h.rows p hp
      have hl := hlt p hp
      rw [upd_ne R' _ (by omega)]
      exact ⟨r1.of_block (hkeep p.2 hl (hrr p hp) r3), r2, r3, r4⟩
    · simp at hp
      subst hp
      simp only [upd_same]
      refine ⟨hm7.keep hk8 (by omega), (mrow_of hS (h.sub _ hmem)).symm, by omega, ?_⟩
      have := h.below.size
      omega
  · rw [List.map_append, List.nodup_append]
    refine ⟨h.apart, by simp, ?_⟩
    intro a ha c hc
    simp at hc
    subst hc
    obtain ⟨p, hp, rfl⟩ := List.mem_map.1 ha
    have := hlt p hp
    omega
  · refine List.Perm.trans ?_ h.perm
    rw [List.map_append, List.append_assoc]
    refine List.Perm.append_left _ ?_
    have := ((mdel_perm h.rg.nodup hmem).map (·.1)).symm
    simpa using this
  · intro p hp
    exact h.sub p (List.mem_filter.1 hp).1
  · refine h.below.trans ?_
    have h6 : Below w0.heap.size W W6 := hk6.toBelow h.below.size (fun j e => by subst e; exact hr)
    exact (h6.trans (hb7.mono h6.size |> fun x => x.mono (by have := h.below.size; omega))).trans (hk8.toBelow (by have := h.below.size; omega) (fun j e => by subst e; exact hdm))
  · intro p hp
    rcases List.mem_append.1 hp with hp | hp
    · exact hrr p hp
    · simp at hp; subst hp; exact hqr

/-- What a copy leaves. -/
def CopyNew (w : World) (hf cnt : Int) (hist : List AddD) (e : Ending) (w' : World) : Prop :=
  ∃ db F, e = .returned (.pointer (some ⟨db, 0, none⟩)) ∧ DecObj w' db F hf cnt hist ∧ (∀ k, F k → w.heap.size ≤ k) ∧ Below w.heap.size w w'
theorem len_at {w : World} {bs : Nat} {S : KeysL} (h : MapIs w strKf mapVf strOk bs S) (ty : TypeId) : (Builtin.len_ #[50] ty #[.map (some bs)]).run Try.prog w = .ok (.int .i64 (List.length S)) w := h.len (P := Try.prog) Try.underlying50 (ty := ty)

set_option maxRecDepth 20000 in
set_option maxHeartbeats 4000000 in
theorem dcopy_any (cb : Nat) (F : Nat → Prop) (hf cnt : Int) (hist : List AddD) (w : World) (h : DecObj w cb F hf cnt hist) :
    Calls Try.prog 17 #[.pointer (some ⟨cb, 0, none⟩)] w (CopyNew w hf cnt hist) := by
  obtain ⟨bs, S, R, hD, hI, -, h1, h2⟩ := h
  obtain ⟨c0, c1, c2⟩ := cell_of_dec hD
  have hcl := hD.foot_lt cb (.inl rfl)
  have hbl := hD.foot_lt bs (.inr (.inl rfl))
  have hmk := fun m W => run_makeMapD (P := Try.prog) 50 Try.underlying50 m W
  have hln := fun ty => len_at hD.sums.drew ty
  have HD := Lib.hid hD
  have HI := Lib.hid hI
  clear hD hI
  have hKe : Below w.heap.size w w.drew := (Below.refl _ _).drew
  go_enter Try.func17, Try.ntmps17
  go_wp2_with fail
  refine heldStart 16 (S := fun W => W.cell? ⟨cb, 0, none⟩ = some (.int .i64 hf) ∧ W.cell? ⟨cb, 1, none⟩ = some (.int .i64 cnt) ∧ W.cell? ⟨cb, 2, none⟩ = some (.map (some bs))) (by kernel_rfl) ?_ (fun hHeld => ?_)
  · exact ⟨(Below.cell (p := ⟨cb, 0, none⟩) (by first | exact hKe | exact hKe.alloc hKe.size _ | exact (hKe.alloc hKe.size _).alloc (hKe.alloc hKe.size _).size _) hcl).trans c0, (Below.cell (p := ⟨cb, 1, none⟩) (by first | exact hKe | exact hKe.alloc hKe.size _ | exact (hKe.alloc hKe.size _).alloc (hKe.alloc hKe.size _).size _) hcl).trans c1, (Below.cell (p := ⟨cb, 2, none⟩) (by first | exact hKe | exact hKe.alloc hKe.size _ | exact (hKe.alloc hKe.size _).alloc (hKe.alloc hKe.size _).size _) hcl).trans c2⟩
  refine heldTake 0 (v := ?_) (by simp only [List.getElem?_toArray, List.getElem?_cons_succ, List.getElem?_cons_zero]; rfl) (by kernel_rfl) (by intro _ _ _ h; exact h) (by rfl) (by assumption) ?_ ?_
  rotate_left
  · intro W hSw; (try dsimp only at hSw); go_simp; try with_reducible rfl
  simp only [Act.put, List.setIfInBounds_toArray, List.set_cons_zero, List.set_cons_succ]
  refine heldTake 1 (v := ?_) (by simp only [List.getElem?_toArray, List.getElem?_cons_succ, List.getElem?_cons_zero]; rfl) (by kernel_rfl) (by intro _ _ _ h; exact h) (by rfl) (by assumption) ?_ ?_
  rotate_left
  · intro W hSw; (try dsimp only at hSw); go_simp; try with_reducible rfl
  simp only [Act.put, List.setIfInBounds_toArray, List.set_cons_zero, List.set_cons_succ]
  refine heldTake 2 (v := ?_) (by simp only [List.getElem?_toArray, List.getElem?_cons_succ, List.getElem?_cons_zero]; rfl) (by kernel_rfl) (by intro _ _ _ h; exact h) (by rfl) (by assumption) ?_ ?_
  rotate_left
  · intro W hSw; (try dsimp only at hSw); go_simp; try with_reducible rfl
  simp only [Act.put, List.setIfInBounds_toArray, List.set_cons_zero, List.set_cons_succ]
  refine heldTake 3 (v := ?_) (by simp only [List.getElem?_toArray, List.getElem?_cons_succ, List.getElem?_cons_zero]; rfl) (by kernel_rfl) (by intro _ _ _ h; exact h) (by rfl) (by assumption) ?_ ?_
  rotate_left
  · intro W hSw; (try dsimp only at hSw); go_simp; try with_reducible rfl
  simp only [Act.put, List.setIfInBounds_toArray, List.set_cons_zero, List.set_cons_succ]
  refine heldTake 4 (v := ?_) (by simp only [List.getElem?_toArray, List.getElem?_cons_succ, List.getElem?_cons_zero]; rfl) (by kernel_rfl) (by intro _ _ _ h; exact h) (by rfl) (by assumption) ?_ ?_
  rotate_left
  · intro W hSw; (try dsimp only at hSw); go_simp; try with_reducible rfl
  simp only [Act.put, List.setIfInBounds_toArray, List.set_cons_zero, List.set_cons_succ]
  refine heldTake 5 (v := ?_) (by simp only [List.getElem?_toArray, List.getElem?_cons_succ, List.getElem?_cons_zero]; rfl) (by kernel_rfl) (by intro _ _ _ h; exact h) (by rfl) (by assumption) ?_ ?_
  rotate_left
  · intro W hSw; (try dsimp only at hSw); go_simp; try with_reducible rfl
  simp only [Act.put, List.setIfInBounds_toArray, List.set_cons_zero, List.set_cons_succ]
  refine heldTake 6 (v := ?_) (by simp only [List.getElem?_toArray, List.getElem?_cons_succ, List.getElem?_cons_zero]; rfl) (by kernel_rfl) (by intro _ _ _ h; exact h) (by rfl) (by assumption) ?_ ?_
  rotate_left
  · intro W hSw; (try dsimp only at hSw); go_simp; try with_reducible rfl
  simp only [Act.put, List.setIfInBounds_toArray, List.set_cons_zero, List.set_cons_succ]
  refine heldTake 7 (v := ?_) (by simp only [List.getElem?_toArray, List.getElem?_cons_succ, List.getElem?_cons_zero]; rfl) (by kernel_rfl) (by intro _ _ _ h; exact h) (by rfl) (by assumption) ?_ ?_
  rotate_left
  · intro W hSw; (try dsimp only at hSw); go_simp; try with_reducible rfl
  simp only [Act.put, List.setIfInBounds_toArray, List.set_cons_zero, List.set_cons_succ]
  refine heldTake 8 (v := ?_) (by simp only [List.getElem?_toArray, List.getElem?_cons_succ, List.getElem?_cons_zero]; rfl) (by kernel_rfl) (by intro _ _ _ h; exact h) (by rfl) (by assumption) ?_ ?_
  rotate_left
  · intro W hSw; (try dsimp only at hSw); go_simp; try with_reducible rfl
  simp only [Act.put, List.setIfInBounds_toArray, List.set_cons_zero, List.set_cons_succ]
  refine heldTake 9 (v := ?_) (by simp only [List.getElem?_toArray, List.getElem?_cons_succ, List.getElem?_cons_zero]; rfl) (by kernel_rfl) (by intro _ _ _ h; exact h) (by rfl) (by assumption) ?_ ?_
  rotate_left
  · intro W hSw; (try dsimp only at hSw); go_simp; try with_reducible rfl
  simp only [Act.put, List.setIfInBounds_toArray, List.set_cons_zero, List.set_cons_succ]
  refine heldTake 10 (v := ?_) (by simp only [List.getElem?_toArray, List.getElem?_cons_succ, List.getElem?_cons_zero]; rfl) (by kernel_rfl) (by intro _ _ _ h; exact h) (by rfl) (by assumption) ?_ ?_
  rotate_left
  · intro W hSw; (try dsimp only at hSw); go_simp; try with_reducible rfl
  simp only [Act.put, List.setIfInBounds_toArray, List.set_cons_zero, List.set_cons_succ]
  refine heldTake 11 (v := ?_) (by simp only [List.getElem?_toArray, List.getElem?_cons_succ, List.getElem?_cons_zero]; rfl) (by kernel_rfl) (by intro _ _ _ h; exact h) (by rfl) (by assumption) ?_ ?_
  rotate_left
  · intro W hSw; (try dsimp only at hSw); go_simp; try with_reducible rfl
  simp only [Act.put, List.setIfInBounds_toArray, List.set_cons_zero, List.set_cons_succ]
  refine heldCall 12 (by simp only [List.getElem?_toArray, List.getElem?_cons_succ, List.getElem?_cons_zero]; rfl) (by kernel_rfl) (fun K hK => ?_)
  go_simp
  refine hK.out _ _ ?_ (fun hHeld => ?_)
  · exact ⟨(Below.cell (p := ⟨cb, 0, none⟩) (by first | exact hKe | exact hKe.alloc hKe.size _ | exact (hKe.alloc hKe.size _).alloc (hKe.alloc hKe.size _).size _) hcl).trans c0, (Below.cell (p := ⟨cb, 1, none⟩) (by first | exact hKe | exact hKe.alloc hKe.size _ | exact (hKe.alloc hKe.size _).alloc (hKe.alloc hKe.size _).size _) hcl).trans c1, (Below.cell (p := ⟨cb, 2, none⟩) (by first | exact hKe | exact hKe.alloc hKe.size _ | exact (hKe.alloc hKe.size _).alloc (hKe.alloc hKe.size _).size _) hcl).trans c2⟩
  clear hK K
  (try simp only [Act.put, List.setIfInBounds_toArray, List.set_cons_zero, List.set_cons_succ])
  refine heldCall 13 (by simp only [List.getElem?_toArray, List.getElem?_cons_succ, List.getElem?_cons_zero]; rfl) (by kernel_rfl) (fun K hK => ?_)
  go_simp
  refine hK.out _ _ ?_ (fun hHeld => ?_)
  · exact ⟨(Below.cell (p := ⟨cb, 0, none⟩) (by first | exact hKe | exact hKe.alloc hKe.size _ | exact (hKe.alloc hKe.size _).alloc (hKe.alloc hKe.size _).size _) hcl).trans c0, (Below.cell (p := ⟨cb, 1, none⟩) (by first | exact hKe | exact hKe.alloc hKe.size _ | exact (hKe.alloc hKe.size _).alloc (hKe.alloc hKe.size _).size _) hcl).trans c1, (Below.cell (p := ⟨cb, 2, none⟩) (by first | exact hKe | exact hKe.alloc hKe.size _ | exact (hKe.alloc hKe.size _).alloc (hKe.alloc hKe.size _).size _) hcl).trans c2⟩
  clear hK K
  (try simp only [Act.put, List.setIfInBounds_toArray, List.set_cons_zero, List.set_cons_succ])
  refine heldTake 14 (v := ?_) (by simp only [List.getElem?_toArray, List.getElem?_cons_succ, List.getElem?_cons_zero]; rfl) (by kernel_rfl) (by intro _ _ _ h; exact h) (by rfl) (by assumption) ?_ ?_
  rotate_left
  · intro W hSw; (try dsimp only at hSw); go_simp; try with_reducible rfl
  simp only [Act.put, List.setIfInBounds_toArray, List.set_cons_zero, List.set_cons_succ]
  refine heldCall 15 (by simp only [List.getElem?_toArray, List.getElem?_cons_succ, List.getElem?_cons_zero]; rfl) (by kernel_rfl) (fun K hK => ?_)
  go_simp
  refine hK.out _ _ ?_ (fun hHeld => ?_)
  · exact ⟨(Below.cell (p := ⟨cb, 0, none⟩) (by first | exact hKe | exact hKe.alloc hKe.size _ | exact (hKe.alloc hKe.size _).alloc (hKe.alloc hKe.size _).size _) hcl).trans c0, (Below.cell (p := ⟨cb, 1, none⟩) (by first | exact hKe | exact hKe.alloc hKe.size _ | exact (hKe.alloc hKe.size _).alloc (hKe.alloc hKe.size _).size _) hcl).trans c1, (Below.cell (p := ⟨cb, 2, none⟩) (by first | exact hKe | exact hKe.alloc hKe.size _ | exact (hKe.alloc hKe.size _).alloc (hKe.alloc hKe.size _).size _) hcl).trans c2⟩
  clear hK K
  (try simp only [Act.put, List.setIfInBounds_toArray, List.set_cons_zero, List.set_cons_succ])
  refine heldTake 16 (v := ?_) (by simp only [List.getElem?_toArray, List.getElem?_cons_succ, List.getElem?_cons_zero]; rfl) (by kernel_rfl) (by intro _ _ _ h; exact h) (by rfl) (by assumption) ?_ ?_
  rotate_left
  · intro W hSw; (try dsimp only at hSw); go_simp; try with_reducible rfl
  simp only [Act.put, List.setIfInBounds_toArray, List.set_cons_zero, List.set_cons_succ]
  refine heldDone (by kernel_rfl) ?_ _
  obtain ⟨W0, hW0⟩ : ∃ W0, W0 = ((w.alloc (Obj.map #[] 0)).alloc (Obj.cells #[Value.int .i64 hf, Value.int .i64 cnt, Value.map (some w.heap.size)] 52)).drew := ⟨_, rfl⟩
  have hb0 : Below w.heap.size w W0 := by rw [hW0]; exact ((((Below.refl _ w).alloc (Nat.le_refl _) _).alloc (by simp) _)).drew
  have hz0 : W0.heap.size = w.heap.size + 1 + 1 := by rw [hW0]; simp
  have hm0 : MapIs W0 strKf mapVf strOk w.heap.size [] := by rw [hW0]; exact ((MapIs.made w _ _ _).alloc _).drew
  have hd0 : W0.heap[w.heap.size + 1]? = some (.cells #[.int .i64 hf, .int .i64 cnt, .map (some w.heap.size)] 52 (0, 0)) := by
    rw [hW0]
    have := heap_alloc_new (w.alloc (Obj.map #[] 0)) (Obj.cells #[Value.int .i64 hf, Value.int .i64 cnt, Value.map (some w.heap.size)] 52)
    rw [World.size_alloc] at this
    exact this
  have hs0 : MapIs W0 strKf mapVf strOk bs S := HD.out.sums.keep (Keeps.ofBelow hb0 noF) (fun e => e)
  have k2 : W0.cell? ⟨cb, 2, none⟩ = some (.map (some bs)) := (hb0.cell (p := ⟨cb, 2, none⟩) hcl).trans c2
  rw [← hW0]
  clear hW0 hKe c0 c1 c2 hmk hln hHeld
  obtain ⟨dm, hdm⟩ : ∃ dm, dm = w.heap.size := ⟨_, rfl⟩
  obtain ⟨db, hdb⟩ : ∃ db, db = w.heap.size + 1 := ⟨_, rfl⟩
  rw [← hdm] at hm0
  rw [← hdb, ← hdm] at hd0
  rw [← hdb, ← hdm]
  have HDM := Lib.hid hdm
  have HDB := Lib.hid hdb
  clear hdm hdb
  go_wp2_with (at_range; refine wpList_range_is rfl _ _ rfl Try.underlying50 rfl hs0 ?_; intro w4 hrg4 hb4 hz4)
  have hdm := HDM.out
  have hdb := HDB.out
  have hst : CopyAt w w4 dm W0.heap.size bs S R S [] (fun _ => []) := ⟨hrg4, hm0.keep (Keeps.ofBelow hb4 noF) (fun e => e), by simp, by simp, by simp, fun _ h => h, hb0.trans (hb4.mono (by omega))⟩
  have hd4 : w4.heap[db]? = some (.cells #[.int .i64 hf, .int .i64 cnt, .map (some dm)] 52 (0, 0)) := (hb4.block db (by omega)).trans hd0
  have HST := Lib.hid hst
  have HD4 := Lib.hid hd4
  have HNS := Lib.hid HD.out.sums.nodup
  clear hst hd4 hrg4 hb4 hz4 hm0 hd0 hs0 k2 hb0
  obtain ⟨r, hr⟩ : ∃ r, r = W0.heap.size := ⟨_, rfl⟩
  rw [← hr] at HST ⊢
  have hrz : r = w.heap.size + 1 + 1 := by omega
  have HRZ := Lib.hid hrz
  clear hr hz0 hrz hdm hdb
  go_frame
  go_loopg [] S.length (fun rest wr => ∃ left D R', Hid (rest = List.length left) ∧ Hid (CopyAt w wr dm r bs S R left D R' ∧ ∀ p ∈ D, p.2 ≠ r) ∧ Hid (wr.heap[db]? = some (.cells #[.int .i64 hf, .int .i64 cnt, .map (some dm)] 52 (0, 0))))
  case atStart => exact ⟨S, [], fun _ => [], Lib.hid rfl, Lib.hid ⟨HST.out, by simp⟩, HD4⟩
  case round =>
    clear HST HD4
    obtain ⟨left, D, R', HLN, HC, HDK⟩ := hrel
    obtain ⟨w5, rfl⟩ : ∃ w5 : World, w5 = wr := ⟨_, rfl⟩
    go_wp2_with (at_next; refine wpList_next_is rfl _ rfl rfl HC.out.1.rg ?_ ?_)
    · intro h0
      subst h0
      have hfin := HC.out.1.fin (cb := cb) HNS.out HI.out HDK.out (by have := HDM.out; omega) (by have := HDB.out; omega) h1 h2
      have FIN := Lib.hid hfin
      clear hfin
      (try go_frame)
      go_wp2
      go_ret
      exact ⟨db, _, rfl, FIN.out.1, FIN.out.2, HC.out.1.below⟩
    · intro k b w6 hmem hrg6 hk6 hz6 hen
      have hml := mdel_len HC.out.1.rg.nodup (p := (k, b)) hmem
      simp only at hml
      have HML := Lib.hid hml
      have hmS := HC.out.1.sub _ hmem
      have hbl2 : b < w.heap.size := HD.out.foot_lt b (.inr (.inr ⟨_, hmS, rfl⟩))
      have hrow5 : MapIs w5 intVf intVf intOk b (R b) := (HD.out.rows _ hmS).keep (Keeps.ofBelow HC.out.1.below noF) (fun e => e)
      have hrow6 := (hrow5.keep hk6 (by have := HRZ.out; omega)).drew
      have hkok : strOk k := HD.out.sums.ok _ hmS
      have hdm := HDM.out
      have hdb := HDB.out
      have hrz := HRZ.out
      have hw5 := HC.out.1.below.size
      have hdl : dm < w5.heap.size := HC.out.1.map.lt
      have hdbl : db < w5.heap.size := (Array.getElem?_eq_some_iff.1 HDK.out).1
      have hm6 : MapIs w6.drew strKf mapVf strOk dm D := (HC.out.1.map.keep hk6 (by omega)).drew
      have hd6 : w6.heap[db]? = some (.cells #[.int .i64 hf, .int .i64 cnt, .map (some dm)] 52 (0, 0)) := (hk6.block db hdbl (by omega)).trans HDK.out
      have s6 : w6.cell? ⟨db, 2, none⟩ = some (.map (some dm)) := by simp [World.cell?, hd6]
      have hdbl6 : db < w6.drew.heap.size := Nat.lt_of_lt_of_le hdbl hk6.size
      simp only [strKf, mapVf] at hen
      have HZ6 := Lib.hid hz6
      have HR6 := Lib.hid hrow6
      have HM6 := Lib.hid hm6
      have HD6 := Lib.hid hd6
      have HRG6 := Lib.hid hrg6
      have HK6 := Lib.hid hk6
      clear hml hrow5 hrow6 hm6 hd6 hrg6 hk6 hz6 hdm hdb hrz hw5
      (try go_frame)
      go_wp2_with fail
      have hKq : w6.drew.cell? ⟨db, 2, none⟩ = some (.map (some dm)) := s6
      refine heldStart 7 (S := fun W => W.cell? ⟨db, 2, none⟩ = some (.map (some dm))) (by kernel_rfl) ?_ (fun hHeld => ?_)
      · exact hKq
      refine heldTake 0 (v := ?_) (by simp only [List.getElem?_toArray, List.getElem?_cons_succ, List.getElem?_cons_zero]; rfl) (by kernel_rfl) (by intro _ _ _ h; exact h) (by rfl) (by assumption) ?_ ?_
      rotate_left
      · intro W hSw; (try dsimp only at hSw); go_simp; try with_reducible rfl
      simp only [Act.put, List.setIfInBounds_toArray, List.set_cons_zero, List.set_cons_succ]
      refine heldTake 1 (v := ?_) (by simp only [List.getElem?_toArray, List.getElem?_cons_succ, List.getElem?_cons_zero]; rfl) (by kernel_rfl) (by intro _ _ _ h; exact h) (by rfl) (by assumption) ?_ ?_
      rotate_left
      · intro W hSw; (try dsimp only at hSw); go_simp; try with_reducible rfl
      simp only [Act.put, List.setIfInBounds_toArray, List.set_cons_zero, List.set_cons_succ]
      refine heldTake 2 (v := ?_) (by simp only [List.getElem?_toArray, List.getElem?_cons_succ, List.getElem?_cons_zero]; rfl) (by kernel_rfl) (by intro _ _ _ h; exact h) (by rfl) (by assumption) ?_ ?_
      rotate_left
      · intro W hSw; (try dsimp only at hSw); go_simp; try with_reducible rfl
      simp only [Act.put, List.setIfInBounds_toArray, List.set_cons_zero, List.set_cons_succ]
      refine heldTake 3 (v := ?_) (by simp only [List.getElem?_toArray, List.getElem?_cons_succ, List.getElem?_cons_zero]; rfl) (by kernel_rfl) (by intro _ _ _ h; exact h) (by rfl) (by assumption) ?_ ?_
      rotate_left
      · intro W hSw; (try dsimp only at hSw); go_simp; try with_reducible rfl
      simp only [Act.put, List.setIfInBounds_toArray, List.set_cons_zero, List.set_cons_succ]
      refine heldTake 4 (v := ?_) (by simp only [List.getElem?_toArray, List.getElem?_cons_succ, List.getElem?_cons_zero]; rfl) (by kernel_rfl) (by intro _ _ _ h; exact h) (by rfl) (by assumption) ?_ ?_
      rotate_left
      · intro W hSw; (try dsimp only at hSw); go_simp; try with_reducible rfl
      simp only [Act.put, List.setIfInBounds_toArray, List.set_cons_zero, List.set_cons_succ]
      refine heldTake 5 (v := ?_) (by simp only [List.getElem?_toArray, List.getElem?_cons_succ, List.getElem?_cons_zero]; rfl) (by kernel_rfl) (by intro _ _ _ h; exact h) (by rfl) (by assumption) ?_ ?_
      rotate_left
      · intro W hSw; (try dsimp only at hSw); go_simp; try with_reducible rfl
      simp only [Act.put, List.setIfInBounds_toArray, List.set_cons_zero, List.set_cons_succ]
      refine heldCall 6 (by simp only [List.getElem?_toArray, List.getElem?_cons_succ, List.getElem?_cons_zero]; rfl) (by kernel_rfl) (fun K hK => ?_)
      go_simp
      refine (mapsClone_any (P := Try.prog) Try.cloI HR6.out).mono ?_
      rintro e w7 ⟨rfl, hm7, hb7, hz7⟩
      have hKp : w7.cell? ⟨db, 2, none⟩ = some (.map (some dm)) := (hb7.cell (p := ⟨db, 2, none⟩) hdbl6).trans hKq
      clear hKq
      have hKq := hKp
      clear hKp
      obtain ⟨w8, hrun, hm8, hk8, hz8⟩ := ((HM6.out.keep (Keeps.ofBelow hb7 noF) (fun e => e))).put strKey Try.underlying50 (x := k) hkok w6.drew.heap.size
      have hrun' : (Instr.mapUpdate 50 (.map (some dm)) (.string k) (.map (some w6.heap.size))).run Try.prog w7 = .ok () w8 := hrun
      have HM7 := Lib.hid hm7
      have HB7 := Lib.hid hb7
      have HM8 := Lib.hid hm8
      have HK8 := Lib.hid hk8
      clear hm7 hb7 hz7 hrun hm8 hk8 hz8
      go_wp2_with fail
      refine hK.out _ _ ?_ (fun hHeld => ?_)
      · exact hKq
      clear hK K
      (try simp only [Act.put, List.setIfInBounds_toArray, List.set_cons_zero, List.set_cons_succ])
      refine heldLast 7 (by simp only [List.getElem?_toArray, List.getElem?_cons_succ, List.getElem?_cons_zero]; rfl) (by kernel_rfl) rfl (fun K hK => ?_)
      go_simp
      refine hK.out _ _ ?_
      clear hK K
      (try simp only [Act.put, List.setIfInBounds_toArray, List.set_cons_zero, List.set_cons_succ])
      refine heldDone (by kernel_rfl) ?_ _
      obtain ⟨hstep, hne⟩ := HC.out.1.step HNS.out hmem HRG6.out HK6.out HM7.out rfl (((Below.refl w6.heap.size w6).drew).trans HB7.out) HM8.out HK8.out (by have := HRZ.out; omega) (by have := HRZ.out; have := HDM.out; omega) (by have := HDM.out; omega) (by have := HDM.out; omega) hdl HC.out.2
      have hd8 : w8.heap[db]? = some (.cells #[.int .i64 hf, .int .i64 cnt, .map (some dm)] 52 (0, 0)) := (HK8.out.block db (Nat.lt_of_lt_of_le hdbl6 HB7.out.size) (by have := HDM.out; have := HDB.out; omega)).trans ((HB7.out.block db hdbl6).trans HD6.out)
      have HS8 := Lib.hid (And.intro hstep hne)
      have HD8 := Lib.hid hd8
      clear hstep hne hd8 hKq hHeld hrun'
      (try go_frame)
      (try go_wp2)
      go_roundg (mdel left k).length
      case measure => have := HML.out; have := HLN.out; omega
      case rel => exact ⟨mdel left k, _, _, Lib.hid rfl, HS8, HD8⟩
end Go.Proofs.Ytgahopkbgefjdaa
