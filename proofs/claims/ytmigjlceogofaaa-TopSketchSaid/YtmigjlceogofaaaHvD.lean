/- Counts: their order, plainly; the comparison that heavy.Top sorts by; sorting them. -/
import Derived.Test.YtmigjlceogofaaaCmpI
import Derived.Test.YtmigjlceogofaaaCmpS
import Derived.Test.YtmigjlceogofaaaCmpO
import Derived.Test.YtmigjlceogofaaaKitU
import Derived.Test.YtmigjlceogofaaaKitT
import Derived.Test.YtmigjlceogofaaaKitX
import Derived.Test.YtmigjlceogofaaaKitP
import Derived.Test.YtmigjlceogofaaaLayH
import Derived.Test.YtmigjlceogofaaaKitC
namespace Go.Proofs.Ytmigjlceogofaaa
open Go.ChangeShapes Go.WideShapes Go.ChangeAt Go.RowKit Go.Shelf Go.Lib Go.Sort Go.Proofs
set_option linter.unusedVariables false
set_option linter.unusedSimpArgs false

structure CntV where
  key : ByteArray
  n : Int
theorem CntV.same {a b : CntV} (h : a.key = b.key ∧ a.n = b.n) : a = b := by
  obtain ⟨k, n⟩ := a
  obtain ⟨k', n'⟩ := b
  obtain ⟨h1, h2⟩ := h
  simp at h1 h2
  subst h1 h2
  rfl
instance : DecidableEq CntV := fun a b => if h : a.key = b.key ∧ a.n = b.n then isTrue (CntV.same h) else isFalse (fun e => h (by subst e; exact ⟨rfl, rfl⟩))
instance : Inhabited CntV := ⟨⟨ByteArray.empty, 0⟩⟩
def cntEnc (r : CntV) : List Value := [.string r.key, .int .i64 r.n]

theorem cmpInt_cs (a b : Int) : (a < b ∧ cmpInt a b = -1) ∨ (a = b ∧ cmpInt a b = 0) ∨ (b < a ∧ cmpInt a b = 1) := by
  unfold cmpInt
  by_cases h1 : a < b
  · left; exact ⟨h1, by rw [if_pos h1]⟩
  · right
    by_cases h2 : b < a
    · right; exact ⟨h2, by rw [if_neg h1, if_pos h2]⟩
    · left; exact ⟨by omega, by rw [if_neg h1, if_neg h2]⟩
theorem cmpStr_cs (a b : ByteArray) : (sLt a b = true ∧ cmpStr a b = -1) ∨ (a = b ∧ cmpStr a b = 0) ∨ (sLt b a = true ∧ cmpStr a b = 1) := by
  unfold cmpStr
  by_cases h1 : sLt a b = true
  · left; exact ⟨h1, by rw [if_pos h1]⟩
  · right
    by_cases h2 : sLt b a = true
    · right; exact ⟨h2, by rw [if_neg h1, if_pos h2]⟩
    · left; exact ⟨sLt_total (by simpa using h1) (by simpa using h2), by rw [if_neg h1, if_neg h2]⟩

/-- The greater number first; then by the key. -/
def cntCmp (x y : CntV) : Int := orV [cmpInt y.n x.n, cmpStr x.key y.key]
def cntLt (x y : CntV) : Bool := decide (cntCmp x y < 0)
theorem cntLt_iff (x y : CntV) : cntLt x y = true ↔ (y.n < x.n ∨ (y.n = x.n ∧ sLt x.key y.key = true)) := by
  unfold cntLt cntCmp
  rw [decide_eq_true_eq]
  rcases cmpInt_cs y.n x.n with ⟨h2, e2⟩ | ⟨h2, e2⟩ | ⟨h2, e2⟩
  · simp only [orV, e2]
    simp [h2]
  · rcases cmpStr_cs x.key y.key with ⟨h3, e3⟩ | ⟨h3, e3⟩ | ⟨h3, e3⟩
    · simp only [orV, e2, e3]
      exact ⟨fun _ => .inr ⟨h2, h3⟩, fun _ => by simp⟩
    · simp only [orV, e2, e3]
      rw [h2, h3, sLt_irrefl]
      simp
    · simp only [orV, e2, e3]
      rw [h2, sLt_asymm h3]
      simp
  · simp only [orV, e2]
    have h4 : ¬ y.n < x.n := by omega
    have h5 : ¬ y.n = x.n := by omega
    simp [h4, h5]
theorem cntLt_irr (x : CntV) : cntLt x x = false := by
  rw [← Bool.not_eq_true, cntLt_iff, sLt_irrefl]
  simp
theorem cntLt_tr (x y z : CntV) (h1 : cntLt x y = true) (h2 : cntLt y z = true) : cntLt x z = true := by
  rw [cntLt_iff] at *
  rcases h1 with h1 | ⟨h1, k1⟩
  · left; omega
  · rcases h2 with h2 | ⟨h2, k2⟩
    · left; omega
    · right; exact ⟨by omega, sLt_trans k1 k2⟩
theorem cntLt_tot (x y : CntV) (h1 : cntLt x y = false) (h2 : cntLt y x = false) : x = y := by
  rw [← Bool.not_eq_true, cntLt_iff] at h1 h2
  have e2 : y.n = x.n := by
    rcases Int.lt_trichotomy y.n x.n with h | h | h
    · exact absurd (.inl h) h1
    · exact h
    · exact absurd (.inl h) h2
  have e3 : x.key = y.key := sLt_total (Bool.eq_false_iff.2 (fun h => h1 (.inr ⟨e2, h⟩))) (Bool.eq_false_iff.2 (fun h => h2 (.inr ⟨e2.symm, h⟩)))
  exact CntV.same ⟨e3, e2.symm⟩
theorem cntLt_nodup {l : List CntV} (h : l.Pairwise (fun x y => cntLt x y = true)) : l.Nodup := h.imp (fun {x y} h e => by subst e; rw [cntLt_irr] at h; cases h)

theorem keep4 {W0 W : World} (h : Grew W0 W) {a b : Nat} (ha : a < W0.heap.size) (hb : b < W0.heap.size) {v0 v1 v3 v4 : Option Value} (d0 : W0.cell? ⟨a, 0, none⟩ = v0) (d1 : W0.cell? ⟨a, 1, none⟩ = v1) (d3 : W0.cell? ⟨b, 0, none⟩ = v3) (d4 : W0.cell? ⟨b, 1, none⟩ = v4) :
    W.cell? ⟨a, 0, none⟩ = v0 ∧ W.cell? ⟨a, 1, none⟩ = v1 ∧ W.cell? ⟨b, 0, none⟩ = v3 ∧ W.cell? ⟨b, 1, none⟩ = v4 :=
  ⟨(h.below.cell (p := ⟨a, 0, none⟩) ha).trans d0, (h.below.cell (p := ⟨a, 1, none⟩) ha).trans d1, (h.below.cell (p := ⟨b, 0, none⟩) hb).trans d3, (h.below.cell (p := ⟨b, 1, none⟩) hb).trans d4⟩

set_option maxRecDepth 20000 in
set_option maxHeartbeats 2000000 in
theorem ccmp_any (kx ky : ByteArray) (nx ny : Int) (w : World) :
    Calls Try.prog 101 #[.agg #[.string kx, .int .i64 nx], .agg #[.string ky, .int .i64 ny]] w fun e w' => e = .returned (.int .i64 (cntCmp ⟨kx, nx⟩ ⟨ky, ny⟩)) ∧ Grew w w' := by
  unfold cntCmp
  simp only
  have q4 := fun W => cmpI_any ny nx W
  generalize cmpInt ny nx = d2 at *
  have q5 := fun W => cmpS_any kx ky W
  generalize cmpStr kx ky = d3 at *
  have q6 := fun b W h => or_any b 0 2 [d2, d3] W (by simp) h
  generalize orV [d2, d3] = r at *
  have Q4 := Lib.hid q4
  have Q5 := Lib.hid q5
  have Q6 := Lib.hid q6
  clear q4 q5 q6
  go_enter Try.func101, Try.ntmps101
  go_wp2
  obtain ⟨W0, hW0⟩ : ∃ W0, W0 = (w.alloc (Obj.cells #[Value.string kx, Value.int .i64 nx] 140)).alloc (Obj.cells #[Value.string ky, Value.int .i64 ny] 140) := ⟨_, rfl⟩
  have d0 : W0.cell? ⟨w.heap.size, 0, none⟩ = some (.string kx) := by rw [hW0]; simp
  have d1' : W0.cell? ⟨w.heap.size, 1, none⟩ = some (.int .i64 nx) := by rw [hW0]; simp
  have d3' : W0.cell? ⟨w.heap.size + 1, 0, none⟩ = some (.string ky) := by rw [hW0]; simp
  have d4 : W0.cell? ⟨w.heap.size + 1, 1, none⟩ = some (.int .i64 ny) := by rw [hW0]; simp
  have hz0 : w.heap.size < W0.heap.size := by rw [hW0]; simp; omega
  have hz1 : w.heap.size + 1 < W0.heap.size := by rw [hW0]; simp
  have HG : Hid (Grew w W0) := Lib.hid (by rw [hW0]; exact ((Grew.refl _).alloc _).alloc _)
  rw [← hW0]
  clear hW0
  have hKe : Grew W0 W0.drew := (Grew.refl _).drew
  refine heldStart 12 (S := fun W => W.cell? ⟨w.heap.size, 0, none⟩ = some (.string kx) ∧ W.cell? ⟨w.heap.size, 1, none⟩ = some (.int .i64 nx) ∧ W.cell? ⟨w.heap.size + 1, 0, none⟩ = some (.string ky) ∧ W.cell? ⟨w.heap.size + 1, 1, none⟩ = some (.int .i64 ny)) (by kernel_rfl) ?_ (fun hHeld => ?_)
  · exact keep4 (by first | exact hKe | exact hKe.alloc _) hz0 hz1 d0 d1' d3' d4
  refine heldTake 0 (v := ?_) (by simp only [List.getElem?_toArray, List.getElem?_cons_succ, List.getElem?_cons_zero]; rfl) (by kernel_rfl) (by intro _ _ _ h; exact h) (by rfl) (by assumption) ?_ ?_
  rotate_left
  · intro W hSw; (try dsimp only at hSw); go_simp; try with_reducible rfl
  simp only [Act.put, List.setIfInBounds_toArray, List.set_cons_zero, List.set_cons_succ]
  refine heldTake 1 (v := ?_) (by simp only [List.getElem?_toArray, List.getElem?_cons_succ, List.getElem?_cons_zero]; rfl) (by kernel_rfl) (by intro _ _ _ h; exact h) (by rfl) (by assumption) ?_ ?_
  rotate_left
  · intro W hSw; (try dsimp only at hSw); go_simp; try with_reducible rfl
  simp only [Act.put, List.setIfInBounds_toArray, List.set_cons_zero, List.set_cons_succ]
  refine heldTake 2 (v := ?_) (by simp only [List.getElem?_toArray, List.getElem?_cons_succ, List.getElem?_cons_zero]; rfl) (by kernel_rfl) (by intro _ _ _ h; exact h) (by rfl) (by assumption) ?_ ?_
  rotate_left
  · intro W hSw; (try dsimp only at hSw); go_simp; try with_reducible rfl
  simp only [Act.put, List.setIfInBounds_toArray, List.set_cons_zero, List.set_cons_succ]
  refine heldTake 3 (v := ?_) (by simp only [List.getElem?_toArray, List.getElem?_cons_succ, List.getElem?_cons_zero]; rfl) (by kernel_rfl) (by intro _ _ _ h; exact h) (by rfl) (by assumption) ?_ ?_
  rotate_left
  · intro W hSw; (try dsimp only at hSw); go_simp; try with_reducible rfl
  simp only [Act.put, List.setIfInBounds_toArray, List.set_cons_zero, List.set_cons_succ]
  refine heldTake 5 (v := ?_) (by simp only [List.getElem?_toArray, List.getElem?_cons_succ, List.getElem?_cons_zero]; rfl) (by kernel_rfl) (by intro _ _ _ h; exact h) (by rfl) (by assumption) ?_ ?_
  rotate_left
  · intro W hSw; (try dsimp only at hSw); go_simp; try with_reducible rfl
  simp only [Act.put, List.setIfInBounds_toArray, List.set_cons_zero, List.set_cons_succ]
  refine heldTake 6 (v := ?_) (by simp only [List.getElem?_toArray, List.getElem?_cons_succ, List.getElem?_cons_zero]; rfl) (by kernel_rfl) (by intro _ _ _ h; exact h) (by rfl) (by assumption) ?_ ?_
  rotate_left
  · intro W hSw; (try dsimp only at hSw); go_simp; try with_reducible rfl
  simp only [Act.put, List.setIfInBounds_toArray, List.set_cons_zero, List.set_cons_succ]
  refine heldTake 7 (v := ?_) (by simp only [List.getElem?_toArray, List.getElem?_cons_succ, List.getElem?_cons_zero]; rfl) (by kernel_rfl) (by intro _ _ _ h; exact h) (by rfl) (by assumption) ?_ ?_
  rotate_left
  · intro W hSw; (try dsimp only at hSw); go_simp; try with_reducible rfl
  simp only [Act.put, List.setIfInBounds_toArray, List.set_cons_zero, List.set_cons_succ]
  refine heldTake 8 (v := ?_) (by simp only [List.getElem?_toArray, List.getElem?_cons_succ, List.getElem?_cons_zero]; rfl) (by kernel_rfl) (by intro _ _ _ h; exact h) (by rfl) (by assumption) ?_ ?_
  rotate_left
  · intro W hSw; (try dsimp only at hSw); go_simp; try with_reducible rfl
  simp only [Act.put, List.setIfInBounds_toArray, List.set_cons_zero, List.set_cons_succ]
  refine heldCall 4 (by simp only [List.getElem?_toArray, List.getElem?_cons_succ, List.getElem?_cons_zero]; rfl) (by kernel_rfl) (fun K hK => ?_)
  go_simp
  refine (Q4.out _).mono ?_
  rintro e w4 ⟨rfl, rfl⟩
  go_wp2_with fail
  refine hK.out _ _ ?_ (fun hHeld => ?_)
  · exact keep4 (by first | exact hKe | exact hKe.alloc _) hz0 hz1 d0 d1' d3' d4
  clear hK K
  (try simp only [Act.put, List.setIfInBounds_toArray, List.set_cons_zero, List.set_cons_succ])
  refine heldCall 9 (by simp only [List.getElem?_toArray, List.getElem?_cons_succ, List.getElem?_cons_zero]; rfl) (by kernel_rfl) (fun K hK => ?_)
  go_simp
  refine (Q5.out _).mono ?_
  rintro e w5 ⟨rfl, rfl⟩
  go_wp2_with fail
  refine hK.out _ _ ?_ (fun hHeld => ?_)
  · exact keep4 (by first | exact hKe | exact hKe.alloc _) hz0 hz1 d0 d1' d3' d4
  clear hK K
  (try simp only [Act.put, List.setIfInBounds_toArray, List.set_cons_zero, List.set_cons_succ])
  refine heldCall 10 (by simp only [List.getElem?_toArray, List.getElem?_cons_succ, List.getElem?_cons_zero]; rfl) (by kernel_rfl) (fun K hK => ?_)
  go_simp
  refine hK.out _ _ ?_ (fun hHeld => ?_)
  · exact keep4 (by first | exact hKe | exact hKe.alloc _) hz0 hz1 d0 d1' d3' d4
  clear hK K
  (try simp only [Act.put, List.setIfInBounds_toArray, List.set_cons_zero, List.set_cons_succ])
  refine heldCall 11 (by simp only [List.getElem?_toArray, List.getElem?_cons_succ, List.getElem?_cons_zero]; rfl) (by kernel_rfl) (fun K hK => ?_)
  go_simp
  refine (Q6.out _ _ (fun j hj => ?_)).mono ?_
  · match j, hj with
    | 0, _ => go_simp
    | 1, _ => go_simp
  rintro e w6 ⟨rfl, rfl⟩
  go_wp2_with fail
  refine hK.out _ _ ?_ (fun hHeld => ?_)
  · exact keep4 (by first | exact hKe | exact hKe.alloc _) hz0 hz1 d0 d1' d3' d4
  clear hK K
  (try simp only [Act.put, List.setIfInBounds_toArray, List.set_cons_zero, List.set_cons_succ])
  refine heldTake 12 (v := ?_) (by simp only [List.getElem?_toArray, List.getElem?_cons_succ, List.getElem?_cons_zero]; rfl) (by kernel_rfl) (by intro _ _ _ h; exact h) (by rfl) (by assumption) ?_ ?_
  rotate_left
  · intro W hSw; (try dsimp only at hSw); go_simp; try with_reducible rfl
  simp only [Act.put, List.setIfInBounds_toArray, List.set_cons_zero, List.set_cons_succ]
  refine heldDone (by kernel_rfl) ?_ _
  go_wp2
  go_ret
  exact ⟨rfl, HG.out.trans (by first | exact hKe | exact hKe.alloc _)⟩
theorem enters_ccmp : ∀ args w, (callFunc 101 args).run Try.prog w = .ok (.enter 101 args) w := by
  intro args w; kernel_rfl

/-- slices.SortFunc of counts. -/
theorem csort_any (base : Nat) (A : Option Addr) (cap : Nat) (rs : List CntV) (w : World) (hnd : rs.Nodup) (hown : w.ownsRow base 140 2 (.slice A rs.length cap) rs.length (rs.flatMap cntEnc)) (hsz : (rs.length : Int) ≤ 1048576) :
    Calls Try.prog 100 #[.slice A rs.length cap, .func (.func 101) #[] #[]] w fun r w' => r = .returned (.tuple #[]) ∧ ∃ ms : List CntV, rs.Perm ms ∧ ms.Pairwise (fun x y => cntLt x y = true) ∧
      w'.ownsRow base 140 2 (.slice A rs.length cap) rs.length (ms.flatMap cntEnc) ∧ Keeps (fun j => (Value.slice A rs.length cap).ownBlock = some j) w w' := by
  obtain ⟨M, hM, hMs⟩ := sort_ex (lt := ltOf cntCmp) cntLt_irr cntLt_tr cntLt_tot hnd
  have q := sortK (P := Try.prog) Try.sortC 2 (fun w => by kernel_rfl) (fun w => by kernel_rfl) cntEnc (fun _ => rfl) (fun x v hv => by
      simp [cntEnc] at hv
      rcases hv with rfl | rfl <;> rfl) cntCmp (swo_of cntLt_irr cntLt_tr cntLt_tot) cntLt_tot 101 #[] enters_ccmp base 140 A rs.length cap rs rfl w hown
      (fun W x y _ => ccmp_any x.key y.key x.n y.n W) (by omega)
  refine Calls.mono q ?_
  rintro r w' ⟨rfl, ho, hk⟩
  rw [mergeSort_is (lt := ltOf cntCmp) cntLt_irr cntLt_tr cntLt_tot hM hMs] at ho
  exact ⟨rfl, M, hM, hMs, ho, hk⟩

/-- Counts in memory. -/
def CntsAt (w : World) (B : Nat) (A : Option Addr) (l : List CntV) : Prop := Reads w B 2 A l.length (l.flatMap cntEnc)
theorem CntsAt.one {w : World} {B : Nat} {A : Option Addr} {l : List CntV} (h : CntsAt w B A l) {k : Nat} (hk : k < l.length) :
    ∃ b o, A = some ⟨b, o, none⟩ ∧ b < B ∧ w.cell? ⟨b, o + k * 2, none⟩ = some (.string l[k].key) ∧ w.cell? ⟨b, o + k * 2 + 1, none⟩ = some (.int .i64 l[k].n) := by
  obtain ⟨b, o, e, hb, hc⟩ := h.2 (by omega)
  have f := fun j (hj : j < 2) => flat_getE (e := cntEnc) (k := 2) (fun _ => rfl) l k j hk hj
  refine ⟨b, o, e, hb, ?_, ?_⟩
  · have := hc (k * 2 + 0) _ (by rw [f 0 (by omega)]; rfl)
    simpa using this
  · have := hc (k * 2 + 1) _ (by rw [f 1 (by omega)]; rfl)
    simpa [Nat.add_assoc] using this
theorem CntsAt.below {w w' : World} {B : Nat} {A : Option Addr} {l : List CntV} (h : CntsAt w B A l) (hb : Below B w w') : CntsAt w' B A l := Reads.below h hb
theorem flat_take2 {α : Type} (f : α → List Value) (hf : ∀ a, (f a).length = 2) (l : List α) (m : Nat) : (l.flatMap f).take (m * 2) = (l.take m).flatMap f := by
  induction l generalizing m with
  | nil => simp
  | cons a l ih =>
    cases m with
    | zero => simp
    | succ m =>
      rw [List.flatMap_cons, List.take_succ_cons, List.flatMap_cons, List.take_append, hf a, show (m + 1) * 2 - 2 = m * 2 by omega, ih]
      rw [List.take_of_length_le (by rw [hf a]; omega)]
theorem CntsAt.take {w : World} {B : Nat} {A : Option Addr} {l : List CntV} (h : CntsAt w B A l) (m : Nat) (hm : m ≤ l.length) : Reads w B 2 A m ((l.take m).flatMap cntEnc) := by
  have := Reads.take h hm
  rw [flat_take2 cntEnc (fun _ => rfl)] at this
  exact this
theorem cnts_one (rs : List CntV) : ∀ u ∈ rs.flatMap cntEnc, u.oneCell' = true := by
  intro u hu
  obtain ⟨r, _, hr⟩ := List.mem_flatMap.1 hu
  simp [cntEnc] at hr
  rcases hr with rfl | rfl <;> rfl
theorem own_capC {w : World} {base size : Nat} {e : TypeId} {A : Option Addr} {n c : Nat} {xs : List Value} (h : w.ownsRow base e size (.slice A n c) n xs) : n ≤ c := by
  rcases h.2 with ⟨h0, h1⟩ | ⟨g, cap, cur, hv, _, _, hle, _⟩
  · injection h0 with e1 e2 e3
    omega
  · injection hv with e1 e2 e3
    subst e1 e3
    exact hle
theorem cnt_info : (Try.prog.info? 140).map (fun i => (i.zero, i.size, i.bytes)) = some (some (.agg #[.string ByteArray.empty, .int .i64 0]), 2, 24) := by kernel_rfl
theorem clone_cnt (A : Option Addr) (B n c : Nat) (l : List CntV) (w : World) (hr : Reads w B 2 A n (l.flatMap cntEnc)) (hl : (n : Int) ≤ 1048576) :
    Calls Try.prog 102 #[.slice A n c] w fun e w' => ∃ A' c', e = .returned (.slice A' n c') ∧ w'.ownsRow w.heap.size 140 2 (.slice A' n c') n (l.flatMap cntEnc) ∧ Below w.heap.size w w' := by
  have := clone_all Try.cloneC (z := .agg #[.string ByteArray.empty, .int .i64 0]) (size := 2) (bytes := 24) (by kernel_rfl) rfl (by omega) (fun w => by kernel_rfl) A B n c (l.flatMap cntEnc) w hr (by unfold maxLen; omega) (by omega) (cnts_one l)
  exact this
/-- How many of n are asked for. -/
def topM (n : Int) (k : Nat) : Nat := (min (max n 0) (k : Int)).toNat
theorem topM_le (n : Int) (k : Nat) : topM n k ≤ k := by unfold topM; omega

theorem cnts_unique {ms ns : List CntV} (h1 : ms.Pairwise (fun x y => cntLt x y = true)) (h2 : ns.Pairwise (fun x y => cntLt x y = true)) (hm : ∀ r, r ∈ ms ↔ r ∈ ns) : ms = ns :=
  sorted_unique cntLt cntLt_irr cntLt_tr ((List.perm_ext_iff_of_nodup (cntLt_nodup h1) (cntLt_nodup h2)).2 hm) h1 h2
end Go.Proofs.Ytmigjlceogofaaa
