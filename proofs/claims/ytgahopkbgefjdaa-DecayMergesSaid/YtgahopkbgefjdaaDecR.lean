/- Contract of (*decay.Counter).counts: the iterator over the keys that weigh. -/
import Derived.Test.YtgahopkbgefjdaaKitW
import Derived.Test.YtgahopkbgefjdaaDecD
import Derived.Test.YtgahopkbgefjdaaLayC
import Derived.Test.YtgahopkbgefjdaaKitO
namespace Go.Proofs.Ytgahopkbgefjdaa
open Go.ChangeShapes Go.WideShapes Go.ChangeAt Go.RowKit Go.Shelf Go.Sort Go.Proofs
attribute [local go_sem] Oper.semAt_some
set_option linter.unusedVariables false
set_option linter.unusedSimpArgs false

theorem MapIs.okS {κ υ : Type} [DecidableEq κ] {w : World} {kf : κ → Value} {vf : υ → Value} {Ok : κ → Prop} {b : Nat} {S : List (κ × υ)} (h : MapIs w kf vf Ok b S) {k : κ} (hk : k ∈ S.map (·.1)) : Ok k := by
  obtain ⟨p, hp, rfl⟩ := List.mem_map.1 hk
  exact h.ok p hp
theorem DecObj.keepTy {w w' : World} {cb : Nat} {F : Nat → Prop} {hf cnt : Int} {hist : List AddD} {B : Nat} {T : TypeId → Prop} (h : DecObj w cb F hf cnt hist) (hk : KeepsTy B T w w') (hT : ¬ T 52) : DecObj w' cb F hf cnt hist := by
  obtain ⟨bs, S, R, h1, h2, h3, h4⟩ := h
  refine ⟨bs, S, R, ⟨?_, ?_, ?_, h1.ne, h1.apart⟩, h2, h3, h4⟩
  · exact hk.same _ _ h1.blk (.inr (.inr ⟨_, _, _, rfl, hT⟩))
  · obtain ⟨es, c, hb, h⟩ := h1.sums
    exact ⟨es, c, hk.same _ _ hb (.inl rfl), h⟩
  · intro p hp
    obtain ⟨es, c, hb, h⟩ := h1.rows p hp
    exact ⟨es, c, hk.same _ _ hb (.inl rfl), h⟩

/-- What comes: of the keys in some order those that weigh. -/
def weighs (hf : Int) (hist : List AddD) (now : Int) (ks : List ByteArray) : List (ByteArray × Int) := (ks.map (fun k => (k, cntV hf hist k now))).filter (fun p => decide (0 < p.2))
theorem weighs_snoc (hf : Int) (hist : List AddD) (now : Int) (ks : List ByteArray) (k : ByteArray) : weighs hf hist now (ks ++ [k]) = weighs hf hist now ks ++ (if 0 < cntV hf hist k now then [(k, cntV hf hist k now)] else []) := by
  unfold weighs
  rw [List.map_append, List.filter_append]
  by_cases h : 0 < cntV hf hist k now <;> simp [h]
theorem weighs_len (hf : Int) (hist : List AddD) (now : Int) (ks : List ByteArray) : (weighs hf hist now ks).length ≤ ks.length := by
  unfold weighs
  refine Nat.le_trans (List.length_filter_le _ _) ?_
  rw [List.length_map]
  exact Nat.le_refl _
abbrev cntEncs (x : ByteArray × Int) : Array Value := #[.string x.1, .int .i64 x.2]

set_option maxRecDepth 100000 in
set_option maxHeartbeats 4000000 in
theorem counts1_all (n : Nat) (hn : 4 ≤ n) (cb bs : Nat) (hf cnt : Int) (S : KeysL) (R : Nat → RowL) (hist : List AddD) (now : Int) (w : World) (T : TypeId → Prop) (Bc Bn : Nat)
    (hD : DecAt w cb bs hf cnt S R) (hI : DecInv S R hist cnt) (h1 : 1 ≤ hf) (h2 : hf ≤ 1099511627776) (hnow : now ≤ 9223372036854775807)
    (hc : w.heap[Bc]? = some (.cells #[.pointer (some ⟨cb, 0, none⟩)] 27 (0, 0))) (hnb : w.heap[Bn]? = some (.cells #[.int .i64 now] 3 (0, 0)))
    (hT1 : ¬ T 52) (hT2 : ¬ T 27) (hT3 : ¬ T 3) (hT4 : ¬ T 88) (hT5 : ¬ T 50) :
    SeqAll Fence.wide n Try.prog 52 #[.pointer (some ⟨Bc, 0, none⟩), .pointer (some ⟨Bn, 0, none⟩)] cntEncs (KeepsTy (w.heap.size + 2) T) (fun xs => ∃ ks : List ByteArray, ks.Perm (S.map (·.1)) ∧ xs = weighs hf hist now ks) S.length w := by
  intro l J W hW hsz hJ hY h0
  have hbc : Bc < w.heap.size := (Array.getElem?_eq_some_iff.1 hc).1
  have hbn : Bn < w.heap.size := (Array.getElem?_eq_some_iff.1 hnb).1
  obtain ⟨W1, hW1⟩ : ∃ W1, W1 = W.alloc (.cells #[.func (.yield l) #[] #[]] 88) := ⟨_, rfl⟩
  have hB1 : Below W.heap.size W W1 := by rw [hW1]; exact (Below.refl _ W).alloc (Nat.le_refl _) _
  have hWW1 : Below w.heap.size w W1 := hW.trans (hB1.mono hW.size)
  have hz1 : W1.heap.size = W.heap.size + 1 := by rw [hW1]; simp
  have y1 : W1.heap[W.heap.size]? = some (.cells #[.func (.yield l) #[] #[]] 88 (0, 0)) := by rw [hW1]; exact heap_alloc_new W _
  have c1 : W1.heap[Bc]? = some (.cells #[.pointer (some ⟨cb, 0, none⟩)] 27 (0, 0)) := (hWW1.block _ hbc).trans hc
  have n1 : W1.heap[Bn]? = some (.cells #[.int .i64 now] 3 (0, 0)) := (hWW1.block _ hbn).trans hnb
  have hD1 : DecAt W1 cb bs hf cnt S R := hD.keep (Keeps.ofBelow hWW1 (fun _ => False)) (fun _ _ h => h)
  have hJ1 : J [] W1 := by rw [hW1]; exact hJ.alloc _ h0
  have c1c : W1.cell? ⟨Bc, 0, none⟩ = some (.pointer (some ⟨cb, 0, none⟩)) := by simp [World.cell?, c1]
  obtain ⟨d0, d1, d2⟩ := cell_of_dec hD1
  clear c1c
  have e1c : (W.alloc (.cells #[.func (.yield l) #[] #[]] 88)).cell? ⟨Bc, 0, none⟩ = some (.pointer (some ⟨cb, 0, none⟩)) := by rw [← hW1]; simp [World.cell?, c1]
  have e2c : (W.alloc (.cells #[.func (.yield l) #[] #[]] 88)).cell? ⟨cb, 2, none⟩ = some (.map (some bs)) := by rw [← hW1]; exact d2
  refine callsIn_of_wp_marks Try.func52 rfl trivial ?_ rfl
  simp only [Try.ntmps52, List.size_toArray, List.length_cons, List.length_nil, Nat.reduceAdd, Nat.reduceSub, Array.replicate_succ, Array.replicate_zero, List.push_toArray, List.append_toArray, List.nil_append, List.cons_append]
  gi_wp2
  rw [← hW1]
  refine ⟨trivial, fun _ => by omega, (callsIn_wide.2 (mapsKeys_any (P := Try.prog) Try.keysM (some bs) W1)).mono ?_⟩
  rintro e w2 ⟨rfl, rfl⟩
  obtain ⟨W5, hW5⟩ : ∃ W5, W5 = W1.alloc (.cells #[.map (some bs)] (Try.keysM_ren.t 23)) := ⟨_, rfl⟩
  have hB5 : Below W1.heap.size W1 W5 := by rw [hW5]; exact (Below.refl _ W1).alloc (Nat.le_refl _) _
  have hz5 : W5.heap.size = W.heap.size + 1 + 1 := by rw [hW5, ← hz1]; simp
  have k5 : W5.heap[W.heap.size + 1]? = some (.cells #[.map (some bs)] (Try.keysM_ren.t 23)) := by
    rw [hW5, ← hz1]
    exact heap_alloc_new W1 _
  have b5 : W5.cell? ⟨W.heap.size + 1, 0, none⟩ = some (.map (some bs)) := by simp [World.cell?, k5]
  have hD5 : DecAt W5 cb bs hf cnt S R := hD1.keep (Keeps.ofBelow hB5 (fun _ => False)) (fun _ _ h => h)
  have hJ5 : J [] W5 := by rw [hW5]; exact hJ.alloc _ hJ1
  have y5 : W5.heap[W.heap.size]? = some (.cells #[.func (.yield l) #[] #[]] 88 (0, 0)) := (hB5.block _ (by omega)).trans y1
  have c5 : W5.heap[Bc]? = some (.cells #[.pointer (some ⟨cb, 0, none⟩)] 27 (0, 0)) := (hB5.block _ (Array.getElem?_eq_some_iff.1 c1).1).trans c1
  have n5 : W5.heap[Bn]? = some (.cells #[.int .i64 now] 3 (0, 0)) := (hB5.block _ (Array.getElem?_eq_some_iff.1 n1).1).trans n1
  have hO5 : DecObj W5 cb (decFoot cb bs S) hf cnt hist := ⟨bs, S, R, hD5, hI, rfl, h1, h2⟩
  have hS5 := hD5.sums
  rw [← hW5]
  clear hW5 hW1 d0 d1 d2 e1c e2c k5 hB5 hD1 c1 n1 y1 hJ1 hB1 hWW1 hc hnb hD
  rw [hz1]
  have HD5 := Lib.hid hD5
  have HO5 := Lib.hid hO5
  have HY := Lib.hid hY
  have HJ := Lib.hid hJ
  have HI := Lib.hid hI
  clear hD5 hO5 hY hJ hI
  gi_wp2
  apply wpIn_rangeFunc_ownG (hro := rfl) (h1 := by omega) (gf := Try.keysM_ren.f 10) (lb := #[.pointer (some ⟨W.heap.size + 1, 0, none⟩)]) (hg := rfl) (hFg := trivial) (eg := enters_of Try.func49 (by kernel_rfl) rfl)
    (hseq := keysIn_stops (ρ := Try.keysM_ren) { Try.keysM with } Fence.wide _ trivial rfl (by omega) (W.heap.size + 1) bs S W5 (by omega) b5 hS5) (hKt := walksK_t) (hKb := walksK_b) (hb0 := Below.refl _ _) (hps := fun _ => rfl)
    (I := fun pre W' => J (weighs hf hist now (pre.map (·.1))) W' ∧ KeepsTy (w.heap.size + 2) T W5 W')
    (Ix := fun _ _ _ => False)
    (hI := OwnFrom.and (fun s A B row hs hg hr => HJ.out _ A B row hs hg (fun r e => ⟨by have := (hr r e).1; omega, (hr r e).2⟩)) (ownFrom_keepsTy (Nat.le_refl _)))
    (hIx := fun _ _ _ _ _ hs _ _ => hs)
    (h0 := ⟨hJ5, KeepsTy.refl _ _ _⟩)
  case hassign =>
    intro l x W K hK
    gi_wp2
    exact hK
  case hstop =>
    rintro D c pre W _ _ h _
    exact h.elim
  case hbody =>
    rintro l2 pre x W3 ⟨hj, hk⟩ hlt
    have hO3 := HO5.out.keepTy hk hT1
    have c3 : W3.heap[Bc]? = some (.cells #[.pointer (some ⟨cb, 0, none⟩)] 27 (0, 0)) := hk.same _ _ c5 (.inr (.inr ⟨_, _, _, rfl, hT2⟩))
    have n3 : W3.heap[Bn]? = some (.cells #[.int .i64 now] 3 (0, 0)) := hk.same _ _ n5 (.inr (.inr ⟨_, _, _, rfl, hT3⟩))
    have y3 : W3.heap[W.heap.size]? = some (.cells #[.func (.yield l) #[] #[]] 88 (0, 0)) := hk.same _ _ y5 (.inr (.inr ⟨_, _, _, rfl, hT4⟩))
    have c3c : W3.cell? ⟨Bc, 0, none⟩ = some (.pointer (some ⟨cb, 0, none⟩)) := by simp [World.cell?, c3]
    have n3c : W3.cell? ⟨Bn, 0, none⟩ = some (.int .i64 now) := by simp [World.cell?, n3]
    have hx : x.1.size ≤ maxLen := HD5.out.sums.okS x.2
    have HO3 := Lib.hid hO3
    have HX := Lib.hid hx
    have HWK := Lib.hid hk
    have HSN := Lib.hid (weighs_snoc hf hist now (pre.map (·.1)) x.1)
    have HPL := Lib.hid (weighs_len hf hist now (pre.map (·.1)))
    clear hO3 hx hk c3 n3 c5 n5 y5
    gi_wp2
    refine ⟨trivial, fun _ => by omega, (CallsIn.inRound l2 (callsIn_wide.2 (dat_any cb _ hf cnt hist x.1 now W3 HO3.out HX.out hnow))).mono ?_⟩
    rintro e W4 ⟨rfl, hb4⟩
    have y4 : W4.heap[W.heap.size]? = some (.cells #[.func (.yield l) #[] #[]] 88 (0, 0)) := (hb4.block _ (Array.getElem?_eq_some_iff.1 y3).1).trans y3
    have y4c : W4.cell? ⟨W.heap.size, 0, none⟩ = some (.func (.yield l) #[] #[]) := by simp [World.cell?, y4]
    have hJ4 : J (weighs hf hist now (pre.map (·.1))) W4 := HJ.out _ W3 W4 none hj ⟨hb4.os, hb4.tape, hb4.output, hb4.size, fun k hk _ => hb4.block k hk⟩ (fun r e => by cases e)
    have hk4 : KeepsTy (w.heap.size + 2) T W3 W4 := KeepsTy.below hb4
    have hlt2 : (weighs hf hist now (pre.map (·.1))).length < S.length := Nat.lt_of_le_of_lt HPL.out (by rw [List.length_map]; exact hlt)
    have HK4 := Lib.hid hk4
    have HLT := Lib.hid hlt2
    clear hk4 hlt2 c3c n3c y3 y4 hb4
    generalize hcv : cntV hf hist x.1 now = cv at *
    have HCV := Lib.hid hcv
    clear hcv
    by_cases hp : 0 < cv
    · obtain ⟨fn, tmps, assign, body, hy, hR⟩ := HY.out _ (x.1, cv) W4 hJ4 HLT.out
      dsimp only [cntEncs] at hy
      clear hJ4
      gi_wp2
      refine ⟨fun h => by simp [Fence.wide] at h, (roundInE rfl hR).mono ?_⟩
      rintro e W7 ⟨rfl, hJ7, hk7⟩
      have hk47 := HK4.out.trans hk7
      have hall : J (weighs hf hist now ((pre ++ [x]).map (·.1))) W7 := by
        rw [List.map_append, List.map_cons, List.map_nil, HSN.out, if_pos hp]
        exact hJ7
      have HA := Lib.hid hall
      have HK7 := Lib.hid hk47
      clear hJ7 hk7 hk47 hall hy hR
      gi_wp2
      exact ⟨HK7.out.keepsFrom (by omega), HK7.out.walks, HA.out, HWK.out.trans HK7.out⟩
    · have hnp : decide (0 < cv) = false := by simpa using hp
      have hall : J (weighs hf hist now ((pre ++ [x]).map (·.1))) W4 := by
        rw [List.map_append, List.map_cons, List.map_nil, HSN.out, if_neg hp, List.append_nil]
        exact hJ4
      have HA := Lib.hid hall
      clear hJ4 hall
      gi_wp2
      refine ⟨fun _ h => (by cases h), ?_⟩
      gi_wp2
      exact ⟨HK4.out.keepsFrom (by omega), HK4.out.walks, HA.out, HWK.out.trans HK4.out⟩
  case hdone =>
    rintro D ys W3 hD hS ⟨hj, hk⟩ hK
    have hj2 : J (weighs hf hist now (ys.map (·.1))) (W3.putObj D (.deferred none)) := HJ.out.putObj _ hj (by omega) hK rfl
    gi_wp2
    refine ⟨by simp, .inl ⟨_, _, rfl, run_takeDeferred hK, ?_⟩⟩
    exact ⟨_, results_none rfl _ _ _, ⟨_, rfl⟩, _, ⟨_, hS, rfl⟩, hj2⟩
end Go.Proofs.Ytgahopkbgefjdaa
