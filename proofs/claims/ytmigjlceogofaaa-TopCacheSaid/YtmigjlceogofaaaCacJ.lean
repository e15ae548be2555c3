/- Contract of the cache's Keys. -/
import Derived.Test.YtmigjlceogofaaaCacR
import Derived.Test.YtmigjlceogofaaaKitU
import Derived.Test.YtmigjlceogofaaaKitI
import Derived.Test.YtmigjlceogofaaaCmpU
import Derived.Test.YtmigjlceogofaaaLayB
namespace Go.Proofs.Ytmigjlceogofaaa
open Go.ChangeShapes Go.WideShapes Go.ChangeAt Go.RowKit Go.Shelf Go.Lib Go.Sort Go.Proofs
set_option linter.unusedVariables false
set_option linter.unusedSimpArgs false

theorem cmpInt_lt (x y : Int) : (cmpInt x y < 0 ↔ x < y) := by
  unfold cmpInt
  split
  · simp; omega
  · split <;> simp <;> omega

set_option maxHeartbeats 1000000 in
theorem kcmp_any {w : World} {cb bs pb : Nat} {sz us : Int} {S : EntL} {E : Nat → EntV} (h : CacAt w cb bs sz us S E) (hp : w.cell? ⟨pb, 0, none⟩ = some (.pointer (some ⟨cb, 0, none⟩))) {x y : ByteArray} {bx yb : Nat} (hx : (x, bx) ∈ S) (hy : (y, yb) ∈ S) :
    Calls Try.prog 61 #[.string x, .string y, .pointer (some ⟨pb, 0, none⟩)] w fun e w' => e = .returned (.int .i64 (cmpInt (E bx).used (E yb).used)) ∧ Grew w w' := by
  obtain ⟨c0, c1, c2⟩ := cell_of_cac h
  obtain ⟨x0, x1, x2⟩ := cell_of_ent h hx
  obtain ⟨y0, y1, y2⟩ := cell_of_ent h hy
  have lx := fun m => look_ent (h.drewN m) hx
  have ly := fun m => look_ent (h.drewN m) hy
  have q := fun W => (cmpU_any (E bx).used (E yb).used W).mono (R' := fun e w' => e = .returned (.int .i64 (cmpInt (E bx).used (E yb).used)) ∧ w' = W) (fun e w' h => ⟨h.1, h.2.symm⟩)
  generalize cmpInt (E bx).used (E yb).used = r at *
  have Q := Lib.hid q
  clear q
  go_enter Try.func61, Try.ntmps61
  go_wp2_with fail
  go_quiet ((go_at_call 62; exact Calls.quiet_of_same (Q.out _)))
  go_wp2
  go_ret
  exact ⟨rfl, (Grew.refl _).drewN _⟩

/-- An entry of a view. -/
abbrev EntOf (V : CView) := { p : ByteArray × PEnt // p ∈ V }
def entEnc {V : CView} (p : EntOf V) : Value := .string p.1.1
def entCmp {V : CView} (p q : EntOf V) : Int := cmpInt p.1.2.used q.1.2.used
def UsesApart (V : CView) : Prop := ∀ p ∈ V, ∀ q ∈ V, p.2.used = q.2.used → p.1 = q.1
theorem entLt {V : CView} (p q : EntOf V) : ltOf (entCmp (V := V)) p q = true ↔ p.1.2.used < q.1.2.used := by
  show decide (entCmp p q < 0) = true ↔ _
  rw [decide_eq_true_eq]
  exact cmpInt_lt _ _
theorem ent_irr {V : CView} (p : EntOf V) : ltOf (entCmp (V := V)) p p = false := by
  rw [← Bool.not_eq_true, entLt]; omega
theorem ent_tr {V : CView} (x y z : EntOf V) (h1 : ltOf (entCmp (V := V)) x y = true) (h2 : ltOf (entCmp (V := V)) y z = true) : ltOf (entCmp (V := V)) x z = true := by
  rw [entLt] at *; omega
theorem ent_tot {V : CView} (hn : (V.map (·.1)).Nodup) (hu : UsesApart V) (x y : EntOf V) (h1 : ltOf (entCmp (V := V)) x y = false) (h2 : ltOf (entCmp (V := V)) y x = false) : x = y := by
  rw [← Bool.not_eq_true, entLt] at h1 h2
  have e := hu x.1 x.2 y.1 y.2 (by omega)
  apply Subtype.ext
  have a1 := mget_of_mem hn (x := x.1.1) (v := x.1.2) (by simpa using x.2)
  have a2 := mget_of_mem hn (x := y.1.1) (v := y.1.2) (by simpa using y.2)
  rw [e, a2] at a1
  injection a1 with a1
  exact Prod.ext e a1.symm
/-- A row of keys is a row of entries. -/
theorem ents_of {V : CView} : ∀ (ks : List ByteArray), (∀ k ∈ ks, k ∈ V.map (·.1)) → ∃ L : List (EntOf V), L.map (fun p => p.1.1) = ks
  | [], _ => ⟨[], rfl⟩
  | k :: ks, h => by
    obtain ⟨L, hL⟩ := ents_of ks (fun x hx => h x (by simp [hx]))
    obtain ⟨p, hp, e⟩ := List.mem_map.1 (h k (by simp))
    exact ⟨⟨p, hp⟩ :: L, by simp [hL, e]⟩
theorem perm_of_map {α β : Type} [DecidableEq α] [DecidableEq β] (f : α → β) (inj : ∀ x y, f x = f y → x = y) {l m : List α} (h : (l.map f).Perm (m.map f)) : l.Perm m := by
  rw [List.perm_iff_count]
  intro a
  have h1 := List.perm_iff_count.1 h (f a)
  have hc : ∀ k : List α, (k.map f).count (f a) = k.count a := by
    intro k
    induction k with
    | nil => rfl
    | cons b k ih =>
      rw [List.map_cons, List.count_cons, List.count_cons, ih]
      by_cases e : b = a
      · subst e; simp
      · have : f b ≠ f a := fun e' => e (inj _ _ e')
        simp [e, this]
  rw [hc, hc] at h1
  exact h1

set_option maxHeartbeats 1000000 in
theorem ksort_any {w : World} {cb bs pb : Nat} {sz us : Int} {S : EntL} {E : Nat → EntV} (h : CacAt w cb bs sz us S E) (hp : w.cell? ⟨pb, 0, none⟩ = some (.pointer (some ⟨cb, 0, none⟩))) (hpb : pb < w.heap.size) (hua : UsesApart (viewOf S E)) (base : Nat) (A : Option Addr) (cap : Nat) (ks : List ByteArray) (hks : ks.Perm (S.map (·.1)))
    (hown : w.ownsRow base 9 1 (.slice A ks.length cap) ks.length (ks.map Value.string)) (hbF : ∀ k, cacFoot cb bs S E k → k < base) (hpb2 : pb < base) (M : CView) (hM : M.Perm (viewOf S E)) (hMs : M.Pairwise (fun p q => p.2.used < q.2.used)) (hSl : (S.length : Int) ≤ 1000000) :
    Calls Try.prog 60 #[.slice A ks.length cap, .func (.func 61) #[] #[.pointer (some ⟨pb, 0, none⟩)]] w fun r w' => r = .returned (.tuple #[]) ∧
      w'.ownsRow base 9 1 (.slice A ks.length cap) ks.length ((M.map (·.1)).map Value.string) ∧ Keeps (fun j => (Value.slice A ks.length cap).ownBlock = some j) w w' := by
  have hnd : ((viewOf S E).map (·.1)).Nodup := by rw [keys_view]; exact h.ents.nodup
  have hblk : ∀ j, (Value.slice A ks.length cap).ownBlock = some j → base ≤ j := fun j hj => (hown.lt j hj).1
  cases hS : S with
  | nil =>
    subst hS
    have hk0 : ks = [] := by simpa using hks
    subst hk0
    have hM0 : M = [] := by have : viewOf [] E = [] := rfl; rw [this] at hM; simpa using hM
    subst hM0
    refine (AnyF.slices_SortFunc_none (P := Try.prog) { Try.sortS with } A cap (.func (.func 61) #[] #[.pointer (some ⟨pb, 0, none⟩)]) w).mono ?_
    rintro r w' ⟨rfl, rfl⟩
    exact ⟨rfl, hown, Keeps.refl _ _⟩
  | cons p0 S0 =>
    have hmem0 : (p0.1, (E p0.2).plain) ∈ viewOf S E := List.mem_map.2 ⟨p0, by rw [hS]; simp, rfl⟩
    haveI : Inhabited (EntOf (viewOf S E)) := ⟨⟨_, hmem0⟩⟩
    obtain ⟨L, hL⟩ := ents_of (V := viewOf S E) ks (fun k hk => by rw [keys_view]; exact hks.subset hk)
    have hLlen : L.length = ks.length := by rw [← hL]; simp
    have hLe : L.map entEnc = ks.map Value.string := by rw [← hL, List.map_map]; rfl
    have eg : ∀ args w, (callFunc 61 args).run Try.prog w = .ok (.enter 61 args) w := enters_of Try.func61 (by kernel_rfl) rfl
    have q := sort1 (P := Try.prog) Try.sortS (entEnc (V := viewOf S E)) (fun _ => rfl) entCmp (swo_of ent_irr ent_tr (ent_tot hnd hua)) (ent_tot hnd hua) 61 #[.pointer (some ⟨pb, 0, none⟩)] eg base 9 A ks.length cap L hLlen w (by rw [hLe]; exact hown)
      (fun W x y hk => by
        have hC := h.keep hk (fun k hf hj => by have := hbF k hf; have := hblk k hj; omega)
        have hpW : W.cell? ⟨pb, 0, none⟩ = some (.pointer (some ⟨cb, 0, none⟩)) := (hk.cell (p := ⟨pb, 0, none⟩) hpb (fun hj => by have := hblk pb hj; omega)).trans hp
        obtain ⟨x1, hx1, e1⟩ := List.mem_map.1 x.2
        obtain ⟨y1, hy1, e2⟩ := List.mem_map.1 y.2
        have := kcmp_any hC hpW (x := x1.1) (bx := x1.2) (y := y1.1) (yb := y1.2) (by simpa using hx1) (by simpa using hy1)
        have ex : entEnc x = .string x1.1 := by unfold entEnc; rw [← e1]
        have ey : entEnc y = .string y1.1 := by unfold entEnc; rw [← e2]
        have ec : entCmp x y = cmpInt (E x1.2).used (E y1.2).used := by unfold entCmp; rw [← e1, ← e2]; rfl
        rw [ex, ey, ec]
        exact this) (by have := hks.length_eq; simp at this; omega)
    refine Calls.mono q ?_
    rintro r w' ⟨rfl, ho, hk⟩
    refine ⟨rfl, ?_, hk⟩
    -- the sorted row
    have hMm : ∀ p ∈ M, p ∈ viewOf S E := fun p hp => hM.subset hp
    have hML : ∃ M' : List (EntOf (viewOf S E)), M'.map (·.1) = M := ⟨M.attach.map (fun p => ⟨p.1, hMm p.1 p.2⟩), by rw [List.map_map]; exact List.attach_map_subtype_val M⟩
    obtain ⟨M', hM'⟩ := hML
    have hperm : L.Perm M' := by
      haveI : DecidableEq (EntOf (viewOf S E)) := fun a b => Classical.propDecidable (a = b)
      refine perm_of_map (fun p : EntOf (viewOf S E) => p.1.1) (fun x y e => ?_) ?_
      · apply Subtype.ext
        have a1 := mget_of_mem hnd (x := x.1.1) (v := x.1.2) (by simpa using x.2)
        have a2 := mget_of_mem hnd (x := y.1.1) (v := y.1.2) (by simpa using y.2)
        rw [show x.1.1 = y.1.1 from e, a2] at a1
        injection a1 with a1
        exact Prod.ext e a1.symm
      · rw [hL]
        have : M'.map (fun p : EntOf (viewOf S E) => p.1.1) = M.map (·.1) := by rw [← hM', List.map_map]; rfl
        rw [this]
        refine hks.trans ?_
        have := (hM.map (·.1)).symm
        rw [keys_view] at this
        exact this
    have hsorted : M'.Pairwise (fun x y => ltOf (entCmp (V := viewOf S E)) x y = true) := by
      have : (M'.map (·.1)).Pairwise (fun p q => p.2.used < q.2.used) := by rw [hM']; exact hMs
      rw [List.pairwise_map] at this
      exact this.imp (fun {a b} h => (entLt a b).2 h)
    rw [mergeSort_is ent_irr ent_tr (ent_tot hnd hua) hperm hsorted] at ho
    have e3 : M'.map entEnc = (M.map (·.1)).map Value.string := by rw [← hM', List.map_map, List.map_map]; rfl
    rw [e3] at ho
    exact ho

/-- What Keys hands back: a new row. -/
def RowNew (w : World) (l : List ByteArray) (e : Ending) (w' : World) : Prop := ∃ A c, e = .returned (.slice A l.length c) ∧ w'.ownsRow w.heap.size 9 1 (.slice A l.length c) l.length (l.map Value.string) ∧ Below w.heap.size w w'

set_option maxHeartbeats 1000000 in
theorem ckeys_any {w : World} {cb bs : Nat} {sz us : Int} {S : EntL} {E : Nat → EntV} (h : CacAt w cb bs sz us S E) (hua : UsesApart (viewOf S E)) (M : CView) (hM : M.Perm (viewOf S E)) (hMs : M.Pairwise (fun p q => p.2.used < q.2.used)) (hSl : (S.length : Int) ≤ 1000000) :
    Calls Try.prog 21 #[.pointer (some ⟨cb, 0, none⟩)] w (RowNew w (M.map (·.1))) := by
  have eg : ∀ args w, (callFunc 92 args).run Try.prog w = .ok (.enter 92 args) w := enters_of Try.func92 (by kernel_rfl) rfl
  have h1 := h.below ((Below.refl _ w).alloc (Nat.le_refl _) (.cells #[.pointer (some ⟨cb, 0, none⟩)] 39))
  obtain ⟨c0, c1, c2⟩ := cell_of_cac h1
  have hlen : (M.map (·.1)).length = S.length := by simpa [viewOf] using hM.length_eq
  have HH := Lib.hid h1
  have HL := Lib.hid hlen
  have HM := Lib.hid hM
  have HMS := Lib.hid hMs
  have HU := Lib.hid hua
  have HLT := Lib.hid h.lt
  clear h h1 hlen hM hMs hua
  have EG := Lib.hid eg
  clear eg
  go_enter Try.func21, Try.ntmps21
  go_wp2_with fail
  refine (mapsKeys_any (P := Try.prog) Try.keysE (some bs) _).mono ?_
  rintro e w2 ⟨rfl, rfl⟩
  have hC2 := HH.out.below ((Below.refl _ _).alloc (Nat.le_refl _) (.cells #[.map (some bs)] 94))
  go_wp2_with fail
  refine (collectKeys_any (P := Try.prog) (ρ := Try.keysE_ren) { Try.keysE with } Try.collS EG.out (w.heap.size + 1) bs S _ (by simp) (by simp) hC2.ents hSl).mono ?_
  rintro e w3 ⟨A, c, ks, rfl, hks, hown, hb3⟩
  have hC3 := hC2.below hb3
  have hp3 : w3.cell? ⟨w.heap.size, 0, none⟩ = some (.pointer (some ⟨cb, 0, none⟩)) := (hb3.cell (p := ⟨w.heap.size, 0, none⟩) (by simp; omega)).trans (by simp)
  have hz3 := hb3.size
  have hkl : ks.length = S.length := by simpa using hks.length_eq
  have hown' : w3.ownsRow (w.heap.size + 2) 9 1 (.slice A ks.length c) ks.length (ks.map Value.string) := by
    have e2 : ((w.alloc (.cells #[.pointer (some ⟨cb, 0, none⟩)] 39)).alloc (.cells #[.map (some bs)] 94)).heap.size = w.heap.size + 2 := by simp
    have := hown
    rw [e2] at this
    exact this
  have q := ksort_any hC3 hp3 (by simp at hz3; omega) HU.out (w.heap.size + 2) A c ks hks hown' (fun k hk => by have := HLT.out k hk; omega) (by omega) M HM.out HMS.out hSl
  have Q := Lib.hid q
  have HKS := Lib.hid hkl
  clear q hC2 hC3 hown hown' hkl
  go_wp2_with fail
  refine Q.out.mono ?_
  rintro e w4 ⟨rfl, ho4, hk4⟩
  have HB4 : Hid (Below w.heap.size w w4) := Lib.hid (by
    have hb : Below w.heap.size w w3 := (((Below.refl _ w).alloc (Nat.le_refl _) _).alloc (by simp) _).trans (hb3.mono (by simp; omega))
    refine hb.trans (hk4.toBelow hb.size (fun j hj => ?_))
    rcases ho4.2 with ⟨h0, _⟩ | ⟨g, cap, cur, hv, hbase, _⟩
    · rw [h0] at hj; cases hj
    · rw [hv] at hj
      have : g = j := by simpa [Value.ownBlock] using hj
      omega)
  have HO : Hid (w4.ownsRow w.heap.size 9 1 (.slice A (M.map (·.1)).length c) (M.map (·.1)).length ((M.map (·.1)).map Value.string)) := Lib.hid (by
    have := own_base ho4 (base' := w.heap.size) (by omega)
    rw [HL.out, ← HKS.out]
    exact this)
  have HKL : Hid (ks.length = (M.map (·.1)).length) := Lib.hid (by rw [HL.out, HKS.out])
  clear ho4 hk4
  go_wp2
  refine bodyPost_ret (results_tmp rfl _ _ _) rfl ?_
  exact ⟨A, c, by rw [← HKL.out]; rfl, HO.out, HB4.out⟩
end Go.Proofs.Ytmigjlceogofaaa
