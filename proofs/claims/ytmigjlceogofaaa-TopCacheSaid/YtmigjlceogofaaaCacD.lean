/- Contract of the cache's Put. -/
import Derived.Test.YtmigjlceogofaaaCacC
namespace Go.Proofs.Ytmigjlceogofaaa
open Go.ChangeShapes Go.WideShapes Go.ChangeAt Go.RowKit Go.Shelf Go.Lib Go.Proofs
set_option linter.unusedVariables false
set_option linter.unusedSimpArgs false

theorem below_of_drew {B : Nat} {a w : World} (h : Below B a.drew w) : Below B a w := ⟨h.os, h.tape, h.output, h.size, h.block⟩

section
variable {w : World} {cb bs : Nat} {sz us : Int} {S : EntL} {E : Nat → EntV}
theorem CacAt.below (h : CacAt w cb bs sz us S E) {w1 : World} (hb : Below w.heap.size w w1) : CacAt w1 cb bs sz us S E := h.keep (Keeps.ofBelow hb (fun _ => False)) (fun _ _ e => e)
theorem CacAt.drewN (h : CacAt w cb bs sz us S E) (n : Nat) : CacAt (w.drewN n) cb bs sz us S E := h.keep ((Keeps.refl (fun _ => False) w).drewN n) (fun _ _ e => e)

def newE (E : Nat → EntV) (nb : Nat) (e : EntV) (k : Nat) : EntV := if k = nb then e else E k

theorem put_pack (h : CacAt w cb bs sz us S E) {w1 : World} (hb : Below w.heap.size w w1) {A' : Option Addr} {c' : Nat} {deps : List ByteArray} {T : TypeId} (ho : w1.ownsRow w.heap.size T 1 (.slice A' deps.length c') deps.length (deps.map Value.string)) (hds : ∀ s ∈ deps, s.size ≤ maxLen)
    {key val : ByteArray} (hkey : key.size ≤ maxLen) (hval : val.size ≤ maxLen) :
    ∃ W4, (Instr.mapUpdate 94 (.map (some bs)) (.string key) (.pointer (some ⟨w1.heap.size, 0, none⟩))).run Try.prog ((w1.setCell ⟨cb, 1, none⟩ (.int .u64 (us + 1))).alloc (.cells #[.string val, .slice A' deps.length c', .int .u64 (us + 1)] 115)) = .ok () W4 ∧
      CacAt W4 cb bs sz (us + 1) (mput S key w1.heap.size) (newE E w1.heap.size ⟨val, deps, us + 1, A', c'⟩) ∧ (∀ p ∈ S, p.2 ≠ w1.heap.size) ∧
      Upd (cacFoot cb bs S E) w (cacFoot cb bs (mput S key w1.heap.size) (newE E w1.heap.size ⟨val, deps, us + 1, A', c'⟩)) W4 := by
  have h1 := h.below hb
  have h2 := h1.bump (us + 1)
  have z2 : (w1.setCell ⟨cb, 1, none⟩ (.int .u64 (us + 1))).heap.size = w1.heap.size := by simp [World.setCell]
  have hkW : Keeps (fun k => k = cb) w1 (w1.setCell ⟨cb, 1, none⟩ (.int .u64 (us + 1))) := (Keeps.refl (fun k => k = cb) w1).setCell (p := ⟨cb, 1, none⟩) (.inr rfl) _
  generalize w1.setCell ⟨cb, 1, none⟩ (.int .u64 (us + 1)) = w2 at *
  have h3 := h2.keep ((Keeps.refl (fun _ => False) w2).alloc (.cells #[.string val, .slice A' deps.length c', .int .u64 (us + 1)] 115)) (fun _ _ e => e)
  have hnew : (w2.alloc (.cells #[.string val, .slice A' deps.length c', .int .u64 (us + 1)] 115)).heap[w1.heap.size]? = some (.cells #[.string val, .slice A' deps.length c', .int .u64 (us + 1)] 115 (0, 0)) := by
    rw [← z2]; exact heap_alloc_new w2 _
  have z3 : (w2.alloc (.cells #[.string val, .slice A' deps.length c', .int .u64 (us + 1)] 115)).heap.size = w1.heap.size + 1 := by simp [z2]
  have hk3 : Keeps (fun k => k = cb) w1 (w2.alloc (.cells #[.string val, .slice A' deps.length c', .int .u64 (us + 1)] 115)) := hkW.alloc _
  generalize w2.alloc (.cells #[.string val, .slice A' deps.length c', .int .u64 (us + 1)] 115) = w3 at *
  obtain ⟨W4, hrun, hm4, hk4, hs4⟩ := h3.ents.put (P := Try.prog) strKey (t := 94) Try.underlying94 (x := key) hkey w1.heap.size
  have hA' : ∀ k o sp, A' = some ⟨k, o, sp⟩ → w.heap.size ≤ k ∧ k < w1.heap.size ∧ o = 0 ∧ sp = none := by
    intro k o sp e
    rcases ho.2 with ⟨h0, _⟩ | ⟨g, cap, cur, hv, hbase, hg, _⟩
    · injection h0 with h0; rw [h0] at e; cases e
    · injection hv with hv; rw [hv] at e; injection e with e; injection e with e1 e2 e3; subst e1; exact ⟨hbase, (Array.getElem?_eq_some_iff.1 hg).1, e2.symm, e3.symm⟩
  have hltS : ∀ p ∈ S, p.2 < w.heap.size := fun p hp => h.lt _ (.inl (.inr (.inr ⟨p, hp, rfl⟩)))
  have hcb : cb < w.heap.size := h.lt _ (.inl (.inl rfl))
  have hbs : bs < w.heap.size := h.lt _ (.inl (.inr (.inl rfl)))
  have hz := hb.size
  have hne : ∀ p ∈ S, p.2 ≠ w1.heap.size := fun p hp => by have := hltS p hp; omega
  refine ⟨W4, hrun, ?_, hne, ?_⟩
  · refine h3.added key hkey w1.heap.size ⟨val, deps, us + 1, A', c'⟩ hm4 hk4 hs4 hnew ?_ hval ⟨by omega, hne⟩ ?_ ?_
    · have := StrsAt.of_own ho hds
      exact (this.keep hk3 (Nat.le_refl _) (fun b o sp e => by have := hA' b o sp e; omega)).more hk3.size
    · rintro k ⟨o, sp, e⟩
      have hq := hA' k o sp e
      refine ⟨by omega, by omega, by omega, by omega, fun q hq' => ?_⟩
      have := hltS q hq'
      omega
    · intro p hp k hk
      have := (h.dne p hp k hk).1
      omega
  · have hmem : ∀ p ∈ mput S key w1.heap.size, p ∈ S ∨ p.2 = w1.heap.size := by
      intro p hp
      unfold mput at hp
      split at hp
      · obtain ⟨q, hq, rfl⟩ := List.mem_map.1 hp
        split
        · exact .inr rfl
        · exact .inl hq
      · rcases List.mem_append.1 hp with hp | hp
        · exact .inl hp
        · simp at hp; exact .inr (by rw [hp])
    constructor
    · have a1 : Keeps (cacFoot cb bs S E) w w1 := Keeps.ofBelow hb _
      have a2 : Keeps (cacFoot cb bs S E) w w3 := a1.trans hk3 (fun k hk e => by subst e; exact .inl (.inl rfl))
      exact a2.trans hk4 (fun k hk e => by subst e; exact .inl (.inr (.inl rfl)))
    · rintro k ((rfl | rfl | ⟨p, hp, rfl⟩) | ⟨p, hp, hk⟩)
      · exact .inl (.inl (.inl rfl))
      · exact .inl (.inl (.inr (.inl rfl)))
      · rcases hmem p hp with hp | hp
        · exact .inl (.inl (.inr (.inr ⟨p, hp, rfl⟩)))
        · right; omega
      · rcases hmem p hp with hp | hp
        · simp only [newE, if_neg (hne p hp)] at hk
          exact .inl (.inr ⟨p, hp, hk⟩)
        · simp only [newE, hp, if_true] at hk
          obtain ⟨o, sp, e⟩ := hk
          right
          exact (hA' k o sp e).1

theorem look_ent (h : CacAt w cb bs sz us S E) {key : ByteArray} {b : Nat} (hm : (key, b) ∈ S) :
    (Instr.lookup 94 (.map (some bs)) (.string key) false).run Try.prog w = .ok (.pointer (some ⟨b, 0, none⟩)) w := by
  have := h.ents.look (P := Try.prog) strKey (t := 94) Try.underlying94 zero_ent (x := key) (h.ents.ok _ hm)
  rw [mget_of_mem h.ents.nodup hm] at this
  exact this
theorem len_ent (h : CacAt w cb bs sz us S E) : (Builtin.len_ #[94] 3 #[.map (some bs)]).run Try.prog w = .ok (.int .i64 S.length) w :=
  h.ents.len (P := Try.prog) (t := 94) Try.underlying94 (ty := 3)

theorem mput_mem {κ υ : Type} [DecidableEq κ] (l : List (κ × υ)) (x : κ) (v : υ) : (x, v) ∈ mput l x v := by
  have := mget_mput (l := l) x v x
  rw [if_pos rfl] at this
  exact mget_some_mem this

theorem str_size (w : World) : True := trivial

set_option maxRecDepth 20000 in
set_option maxHeartbeats 4000000 in
theorem cput_any (h : CacAt w cb bs sz us S E) (h0 : 0 ≤ us) (h1 : us ≤ 1000000) (key val : ByteArray) (hkey : key.size ≤ maxLen) (hval : val.size ≤ maxLen) (A : Option Addr) (c : Nat) (deps : List ByteArray) (hd : StrsAt w w.heap.size A deps) (hdl : (deps.length : Int) ≤ 1000000) (hSl : (S.length : Int) ≤ 1000000) (s0 : 0 ≤ sz) (s1 : sz ≤ 1000000) :
    Calls Try.prog 17 #[.pointer (some ⟨cb, 0, none⟩), .string key, .string val, .slice A deps.length c] w (CPut cb sz us (viewOf S E) key val deps w (cacFoot cb bs S E)) := by
  obtain ⟨c0, c1, c2⟩ := cell_of_cac h
  have qc := fun (W : World) (hr : StrsAt W w.heap.size A deps) => clone_all (P := Try.prog) Try.cloneS (z := .string ByteArray.empty) (size := 1) (bytes := 16) str_info29 rfl (by decide) (fun w => by kernel_rfl) A w.heap.size deps.length c (deps.map Value.string) W hr.1 (by unfold maxLen; omega) (by omega) (strs_one29 _)
  have QC := Lib.hid qc
  have HH := Lib.hid h
  clear qc h
  go_enter Try.func17, Try.ntmps17
  go_wp2_with fail
  refine heldStart 12 (S := fun W => W.cell? ⟨cb, 2, none⟩ = some (.map (some bs))) (by kernel_rfl) ?_ (fun hHeld => ?_)
  · first | exact c2 | exact m1 | exact m2 | exact m3
  refine heldTake 0 (v := ?_) (by simp only [List.getElem?_toArray, List.getElem?_cons_succ, List.getElem?_cons_zero]; rfl) (by kernel_rfl) (by intro _ _ _ h; exact h) (by rfl) (by assumption) ?_ ?_
  rotate_left
  · intro W hSw; (try dsimp only at hSw); go_simp; try with_reducible rfl
  simp only [Act.put, List.setIfInBounds_toArray, List.set_cons_zero, List.set_cons_succ]
  refine heldTake 1 (v := ?_) (by simp only [List.getElem?_toArray, List.getElem?_cons_succ, List.getElem?_cons_zero]; rfl) (by kernel_rfl) (by intro _ _ _ h; exact h) (by rfl) (by assumption) ?_ ?_
  rotate_left
  · intro W hSw; (try dsimp only at hSw); go_simp; try with_reducible rfl
  simp only [Act.put, List.setIfInBounds_toArray, List.set_cons_zero, List.set_cons_succ]
  refine heldTake 2 (v := ?_) (by simp only [List.getElem?_toArray, List.getElem?_cons_succ, List.getElem?_cons_zero]; rfl) (by kernel_rfl) (by intro _ _ _ h; exact h) (by rfl) (by assumption) ?_ ?_
  rotate_left
  · intro W hSw; (try dsimp only at hSw); go_simp; try with_reducible rfl
  simp only [Act.put, List.setIfInBounds_toArray, List.set_cons_zero, List.set_cons_succ]
  refine heldTake 3 (v := ?_) (by simp only [List.getElem?_toArray, List.getElem?_cons_succ, List.getElem?_cons_zero]; rfl) (by kernel_rfl) (by intro _ _ _ h; exact h) (by rfl) (by assumption) ?_ ?_
  rotate_left
  · intro W hSw; (try dsimp only at hSw); go_simp; try with_reducible rfl
  simp only [Act.put, List.setIfInBounds_toArray, List.set_cons_zero, List.set_cons_succ]
  refine heldTake 4 (v := ?_) (by simp only [List.getElem?_toArray, List.getElem?_cons_succ, List.getElem?_cons_zero]; rfl) (by kernel_rfl) (by intro _ _ _ h; exact h) (by rfl) (by assumption) ?_ ?_
  rotate_left
  · intro W hSw; (try dsimp only at hSw); go_simp; try with_reducible rfl
  simp only [Act.put, List.setIfInBounds_toArray, List.set_cons_zero, List.set_cons_succ]
  refine heldTake 5 (v := ?_) (by simp only [List.getElem?_toArray, List.getElem?_cons_succ, List.getElem?_cons_zero]; rfl) (by kernel_rfl) (by intro _ _ _ h; exact h) (by rfl) (by assumption) ?_ ?_
  rotate_left
  · intro W hSw; (try dsimp only at hSw); go_simp; try with_reducible rfl
  simp only [Act.put, List.setIfInBounds_toArray, List.set_cons_zero, List.set_cons_succ]
  refine heldTake 6 (v := ?_) (by simp only [List.getElem?_toArray, List.getElem?_cons_succ, List.getElem?_cons_zero]; rfl) (by kernel_rfl) (by intro _ _ _ h; exact h) (by rfl) (by assumption) ?_ ?_
  rotate_left
  · intro W hSw; (try dsimp only at hSw); go_simp; try with_reducible rfl
  simp only [Act.put, List.setIfInBounds_toArray, List.set_cons_zero, List.set_cons_succ]
  refine heldTake 8 (v := ?_) (by simp only [List.getElem?_toArray, List.getElem?_cons_succ, List.getElem?_cons_zero]; rfl) (by kernel_rfl) (by intro _ _ _ h; exact h) (by rfl) (by assumption) ?_ ?_
  rotate_left
  · intro W hSw; (try dsimp only at hSw); go_simp; try with_reducible rfl
  simp only [Act.put, List.setIfInBounds_toArray, List.set_cons_zero, List.set_cons_succ]
  refine heldCall 7 (by simp only [List.getElem?_toArray, List.getElem?_cons_succ, List.getElem?_cons_zero]; rfl) (by kernel_rfl) (fun K hK => ?_)
  go_simp
  refine (QC.out w.drew hd).mono ?_
  rintro e w1 ⟨A', c', rfl, ho1, hb1⟩
  have hb := below_of_drew hb1
  have hC1 := HH.out.below hb
  have m1 := (cell_of_cac hC1).2.2
  clear hb1
  go_wp2_with fail
  refine hK.out _ _ ?_ (fun hHeld => ?_)
  · first | exact c2 | exact m1 | exact m2 | exact m3
  clear hK K
  (try simp only [Act.put, List.setIfInBounds_toArray, List.set_cons_zero, List.set_cons_succ])
  refine heldCall 9 (by simp only [List.getElem?_toArray, List.getElem?_cons_succ, List.getElem?_cons_zero]; rfl) (by kernel_rfl) (fun K hK => ?_)
  go_simp
  refine (cuse_any hC1 h0 h1).mono ?_
  rintro e w2 ⟨rfl, rfl⟩
  have m2 := (cell_of_cac (hC1.bump (us + 1))).2.2
  go_wp2_with fail
  refine hK.out _ _ ?_ (fun hHeld => ?_)
  · first | exact c2 | exact m1 | exact m2 | exact m3
  clear hK K
  (try simp only [Act.put, List.setIfInBounds_toArray, List.set_cons_zero, List.set_cons_succ])
  refine heldTake 10 (v := ?_) (by simp only [List.getElem?_toArray, List.getElem?_cons_succ, List.getElem?_cons_zero]; rfl) (by kernel_rfl) (by intro _ _ _ h; exact h) (by rfl) (by assumption) ?_ ?_
  rotate_left
  · intro W hSw; (try dsimp only at hSw); go_simp; try with_reducible rfl
  simp only [Act.put, List.setIfInBounds_toArray, List.set_cons_zero, List.set_cons_succ]
  refine heldCall 11 (by simp only [List.getElem?_toArray, List.getElem?_cons_succ, List.getElem?_cons_zero]; rfl) (by kernel_rfl) (fun K hK => ?_)
  go_simp
  have m3 := (cell_of_cac ((hC1.bump (us + 1)).keep ((Keeps.refl (fun _ => False) _).alloc (.cells #[.string val, .slice A' deps.length c', .int .u64 (us + 1)] 115)) (fun _ _ e => e))).2.2
  refine hK.out _ _ ?_ (fun hHeld => ?_)
  · first | exact c2 | exact m1 | exact m2 | exact m3
  clear hK K
  (try simp only [Act.put, List.setIfInBounds_toArray, List.set_cons_zero, List.set_cons_succ])
  refine heldLast 12 (by simp only [List.getElem?_toArray, List.getElem?_cons_succ, List.getElem?_cons_zero]; rfl) (by kernel_rfl) rfl (fun K hK => ?_)
  obtain ⟨W4, hrun, hC4, hne4, hU4⟩ := put_pack HH.out hb ho1 hd.2 hkey hval
  go_simp
  refine hK.out _ _ ?_
  clear hK K
  (try simp only [Act.put, List.setIfInBounds_toArray, List.set_cons_zero, List.set_cons_succ])
  refine heldDone (by kernel_rfl) ?_ _
  clear m1 m2 m3 hrun hHeld
  have hv : viewOf (mput S key w1.heap.size) (newE E w1.heap.size ⟨val, deps, us + 1, A', c'⟩) = mput (viewOf S E) key ⟨val, deps, us + 1⟩ := mput_view S E key w1.heap.size ⟨val, deps, us + 1, A', c'⟩ hne4
  have hkm : (key, w1.heap.size) ∈ mput S key w1.heap.size := mput_mem _ _ _
  generalize newE E w1.heap.size ⟨val, deps, us + 1, A', c'⟩ = E1 at *
  generalize mput S key w1.heap.size = S1 at *
  clear hC1 ho1 hb hne4
  generalize w1.heap.size = nb at *
  have HV := Lib.hid hv
  have HU := Lib.hid hU4
  clear hv hU4 c0 c1 c2 hd QC HH
  have hlv : S1.length = (mput (viewOf S E) key ⟨val, deps, us + 1⟩).length := by rw [← HV.out]; simp [viewOf]
  have HLV := Lib.hid hlv
  clear hlv
  obtain ⟨d0, d1, d2⟩ := cell_of_cac hC4
  have hl4 := fun m => len_ent (hC4.drewN m)
  by_cases hle : (S1.length : Int) ≤ sz
  · have hle' : decide ((S1.length : Int) ≤ sz) = true := by simpa using hle
    have HC : Hid (COut sz (mput (viewOf S E) key ⟨val, deps, us + 1⟩) (mput (viewOf S E) key ⟨val, deps, us + 1⟩)) := Lib.hid (.inl ⟨by rw [← HLV.out]; exact hle, rfl⟩)
    have HC4 := Lib.hid hC4
    clear hle hC4
    go_wp2_with fail
    go_quiet (fail)
    go_wp2
    go_end0
    refine ⟨rfl, _, _, HC.out, ⟨bs, S1, E1, HC4.out.drewN nq, HV.out, fun k => Iff.rfl⟩, HU.out.keeps.drewN nq, HU.out.foot⟩
  · have hle' : decide ((S1.length : Int) ≤ sz) = false := by simpa using hle
    have HC4 := Lib.hid hC4
    clear hC4
    go_wp2_with fail
    go_quiet (fail)
    have hC5 := HC4.out.drewN nq
    have HU5 : Hid (Upd (cacFoot cb bs S E) w (cacFoot cb bs S1 E1) (W4.drewN nq)) := Lib.hid ⟨HU.out.keeps.drewN nq, HU.out.foot⟩
    clear HC4 HU hl4 d0 d1 d2 hle'
    generalize W4.drewN nq = W5 at *
    obtain ⟨d0, d1, d2⟩ := cell_of_cac hC5
    have hm5 := hC5.ents
    have hltF := hC5.lt
    have hcbz := hltF cb (.inl (.inl rfl))
    have hbsz := hltF bs (.inl (.inr (.inl rfl)))
    have HLT := Lib.hid hltF
    have HC5 := Lib.hid hC5
    clear hltF hC5
    go_wp2_with (at_range; refine wpList_range_is rfl _ _ rfl Try.underlying94 rfl hm5 ?_; intro w0 hrg0 hb0 hs0)
    clear d0 d1 d2 hs0
    go_frame
    go_loopg [8] S1.length (fun rest s wr => ∃ (left : EntL) (o : ByteArray) (bo : Nat), s = .string o ∧ (o, bo) ∈ S1 ∧ RangeAt wr strKf ptrVf W5.heap.size (some bs) left ∧ Hid (∀ q ∈ left, q ∈ S1) ∧ Hid (∀ q ∈ S1, q ∈ left ∨ (E1 bo).used ≤ (E1 q.2).used) ∧ Hid (rest = left.length) ∧ Below W5.heap.size W5 wr)
    case atStart => exact ⟨S1, key, nb, rfl, hkm, hrg0, Lib.hid (fun _ h => h), Lib.hid (fun q hq => .inl hq), Lib.hid rfl, hb0⟩
    case round =>
      obtain ⟨left, o, bo, rfl, hom, hrg, HS, HM, HL, hb⟩ := hrel
      have hCr := HC5.out.below hb
      go_wp2_with (at_next; refine wpList_next_is rfl _ rfl rfl hrg ?_ ?_)
      · intro h0
        subst h0
        obtain ⟨d0, d1, d2⟩ := cell_of_cac hCr
        have hmr := hCr.ents
        have hok := hCr.ents.ok _ hom
        have HCr := Lib.hid hCr
        clear hCr
        (try go_frame)
        go_wp2_with (at_delete; refine wpList_delete_is (y := o) rfl _ _ _ rfl Try.underlying94 rfl rfl hok strKey hmr ?_; intro w6 hm6 hk6 hz6; go_frame)
        (try go_wp2)
        go_end0
        have hC6 := HCr.out.less hm6 (List.filter_sublist) (hk6.mono (fun k _ e => .inl e))
        refine ⟨rfl, _, _, .inr ⟨by rw [← HLV.out]; omega, o, (E1 bo).plain, ?_, ?_, ?_⟩, ⟨bs, _, E1, hC6, rfl, fun k => Iff.rfl⟩, ?_, ?_⟩
        · rw [← HV.out]
          exact List.mem_map.2 ⟨(o, bo), hom, rfl⟩
        · intro p hp
          rw [← HV.out] at hp
          obtain ⟨q, hq, rfl⟩ := List.mem_map.1 hp
          rcases HM.out q hq with h | h
          · simp at h
          · exact h
        · rw [← HV.out]
          exact mdel_view S1 E1 o
        · exact (HU5.out.keeps.trans (Keeps.below hb) (fun k hk e => by have := HU5.out.keeps.size; omega)).trans hk6 (fun k hk e => .inl (.inr (.inl e)))
        · rintro k ((rfl | rfl | ⟨p, hp, rfl⟩) | ⟨p, hp, hk⟩)
          · exact HU5.out.foot _ (.inl (.inl rfl))
          · exact HU5.out.foot _ (.inl (.inr (.inl rfl)))
          · exact HU5.out.foot _ (.inl (.inr (.inr ⟨p, (List.mem_filter.1 hp).1, rfl⟩)))
          · exact HU5.out.foot _ (.inr ⟨p, (List.mem_filter.1 hp).1, hk⟩)
      · intro x v w2 hmem hrg2 hk2 hz2 hen
        have hxl := HS.out _ hmem
        have HML := Lib.hid (mdel_len hrg.nodup (p := (x, v)) hmem)
        have HS2 : Hid (∀ q ∈ mdel left x, q ∈ S1) := Lib.hid (fun q hq => HS.out _ ((List.mem_filter.1 hq).1))
        have hb2 : Below W5.heap.size W5 w2 := hb.trans (hk2.toBelow hb.size (fun k hk => by omega))
        have hC2 := HC5.out.below hb2
        obtain ⟨d0, d1, d2⟩ := cell_of_cac hC2
        obtain ⟨x0, x1, x2⟩ := cell_of_ent hC2 hxl
        obtain ⟨y0, y1, y2⟩ := cell_of_ent hC2 hom
        have hlo := fun m => look_ent (hC2.drewN m) hom
        simp only [strKf, ptrVf] at hen
        have HXM : Hid (∀ q ∈ S1, q.1 = x → q = (x, v)) := Lib.hid (fun q hq e => by
          have a1 := mget_of_mem hC2.ents.nodup (x := q.1) (v := q.2) (by simpa using hq)
          have a2 := mget_of_mem hC2.ents.nodup hxl
          rw [e, a2] at a1
          injection a1 with a1
          exact Prod.ext e a1.symm)
        clear hC2 hk2 hz2 hb
        by_cases hu : (E1 v).used < (E1 bo).used
        · have hu' : decide ((E1 v).used < (E1 bo).used) = true := by simpa using hu
          have HM2 : Hid (∀ q ∈ S1, q ∈ mdel left x ∨ (E1 v).used ≤ (E1 q.2).used) := Lib.hid (fun q hq => by
            rcases HM.out q hq with h | h
            · by_cases e : q.1 = x
              · rw [HXM.out q hq e]; exact .inr (Int.le_refl _)
              · exact .inl (List.mem_filter.2 ⟨h, by simpa using e⟩)
            · exact .inr (by omega))
          clear hu
          (try go_frame)
          go_wp2_with fail
          go_quiet (fail)
          go_wp2
          go_roundg (gk - 1)
          case measure => have := HL.out; have := HML.out; omega
          case rel => exact ⟨mdel left x, x, v, rfl, hxl, hrg2.keep ((Keeps.refl (fun _ => False) w2).drewN nq) (fun e => e) (fun _ _ e => e), HS2, HM2, Lib.hid (by have := HL.out; have := HML.out; omega), below_drewN hb2 nq⟩
        · have hu' : decide ((E1 v).used < (E1 bo).used) = false := by simpa using hu
          have HM2 : Hid (∀ q ∈ S1, q ∈ mdel left x ∨ (E1 bo).used ≤ (E1 q.2).used) := Lib.hid (fun q hq => by
            rcases HM.out q hq with h | h
            · by_cases e : q.1 = x
              · rw [HXM.out q hq e]; exact .inr (by simp only; omega)
              · exact .inl (List.mem_filter.2 ⟨h, by simpa using e⟩)
            · exact .inr h)
          clear hu
          (try go_frame)
          go_wp2_with fail
          go_quiet (fail)
          go_wp2
          go_roundg (gk - 1)
          case measure => have := HL.out; have := HML.out; omega
          case rel => exact ⟨mdel left x, o, bo, rfl, hom, hrg2.keep ((Keeps.refl (fun _ => False) w2).drewN nq) (fun e => e) (fun _ _ e => e), HS2, HM2, Lib.hid (by have := HL.out; have := HML.out; omega), below_drewN hb2 nq⟩
end
end Go.Proofs.Ytmigjlceogofaaa
