/- Contract of (*decay.Counter).Merge. -/
import Derived.Test.YtgahopkbgefjdaaDecL
import Derived.Test.YtgahopkbgefjdaaKitC
import Derived.Test.YtgahopkbgefjdaaKitH
import Derived.RegionTactic
import Derived.BigRegion
namespace Go.Proofs.Ytgahopkbgefjdaa
open Go.ChangeShapes Go.WideShapes Go.ChangeAt Go.RowKit
set_option linter.unusedVariables false
set_option linter.unusedSimpArgs false

/-- The rows that are still to come: one's own (not turned yet), or another one's. -/
def Lft (w : World) (cb bs : Nat) (S : KeysL) (R Ro : Nat → RowL) (left : KeysL) : Prop :=
  ∀ p ∈ left, (p ∈ S ∧ R p.2 = Ro p.2) ∨ (¬ decFoot cb bs S p.2 ∧ MapIs w intVf intVf intOk p.2 (Ro p.2))
theorem Lft.at_ {w : World} {cb bs : Nat} {hf ct : Int} {S : KeysL} {R Ro : Nat → RowL} {left : KeysL} (h : Lft w cb bs S R Ro left) (hD : DecAt w cb bs hf ct S R) {p : ByteArray × Nat} (hp : p ∈ left) : MapIs w intVf intVf intOk p.2 (Ro p.2) := by
  rcases h p hp with ⟨h1, h2⟩ | ⟨_, h2⟩
  · rw [← h2]; exact hD.rows p h1
  · exact h2
theorem Lft.sub {w : World} {cb bs : Nat} {S : KeysL} {R Ro : Nat → RowL} {left left' : KeysL} (h : Lft w cb bs S R Ro left) (hs : ∀ p ∈ left', p ∈ left) : Lft w cb bs S R Ro left' := fun p hp => h p (hs p hp)
theorem Lft.keep {w w' : World} {cb bs : Nat} {S : KeysL} {R Ro : Nat → RowL} {left : KeysL} {G : Nat → Prop} (h : Lft w cb bs S R Ro left) (hk : Keeps G w w') (hG : ∀ p ∈ left, ¬ G p.2) : Lft w' cb bs S R Ro left := fun p hp => by
  rcases h p hp with h1 | ⟨h1, h2⟩
  · exact .inl h1
  · exact .inr ⟨h1, h2.keep hk (hG p hp)⟩
theorem Lft.put {w w' : World} {cb bs : Nat} {S S' : KeysL} {R R' Ro : Nat → RowL} {left : KeysL} {key : ByteArray} (h : Lft w cb bs S R Ro left) (hk : Keeps (decFoot cb bs S) w w') (hf : ∀ k, decFoot cb bs S' k → decFoot cb bs S k ∨ w.heap.size ≤ k) (ho : ∀ p ∈ S, p ∈ S' ∧ (p.1 ≠ key → R' p.2 = R p.2)) (hl : ∀ p ∈ left, p.1 ≠ key) : Lft w' cb bs S' R' Ro left := fun p hp => by
  rcases h p hp with ⟨h1, h2⟩ | ⟨h1, h2⟩
  · exact .inl ⟨(ho p h1).1, ((ho p h1).2 (hl p hp)).trans h2⟩
  · refine .inr ⟨fun hf' => ?_, h2.keep hk h1⟩
    rcases hf _ hf' with h3 | h3
    · exact h1 h3
    · have := h2.lt; omega

/-- What holds between two of the rows. -/
structure MgOut (w : World) (cb bs : Nat) (hf ct : Int) (S : KeysL) (hist : List AddD) (Ro : Nat → RowL) (So : KeysL) (histo : List AddD) (r1 cm : Nat) (left Si : KeysL) (Ri : Nat → RowL) (P : List AddD) (wr : World) : Prop where
  rg : RangeAt wr strKf mapVf r1 (some cm) left
  sub : ∀ p ∈ left, p ∈ So
  dec : DecAt wr cb bs hf ct Si Ri
  inv : DecInv Si Ri (hist ++ P) ct
  lft : Lft wr cb bs Si Ri Ro left
  sums : ∀ key f, histSum f key P + leftSum Ro f key left = histSum f key histo
  tot : (P.map (·.n)).sum + leftAll Ro left ≤ (histo.map (·.n)).sum
  r1w : w.heap.size ≤ r1
  n1 : ¬ decFoot cb bs Si r1
  n2 : ¬ decFoot cb bs Si cm
  keeps : Keeps (decFoot cb bs S) w wr
  foot : ∀ k, decFoot cb bs Si k → decFoot cb bs S k ∨ w.heap.size ≤ k
/-- What holds inside a row. -/
structure MgIn (w : World) (cb bs : Nat) (hf ct : Int) (S : KeysL) (hist : List AddD) (Ro : Nat → RowL) (So : KeysL) (histo : List AddD) (r1 cm : Nat) (left : KeysL) (k : ByteArray) (r2 cm2 : Nat) (leftr : RowL) (Si : KeysL) (Ri : Nat → RowL) (P : List AddD) (wr : World) : Prop where
  rg : RangeAt wr strKf mapVf r1 (some cm) left
  sub : ∀ p ∈ left, p ∈ So
  lk : ∀ p ∈ left, p.1 ≠ k
  rg2 : RangeAt wr intVf intVf r2 (some cm2) leftr
  dec : DecAt wr cb bs hf ct Si Ri
  inv : DecInv Si Ri (hist ++ P) ct
  lft : Lft wr cb bs Si Ri Ro left
  sums : ∀ key f, histSum f key P + (if key = k then rowSum f leftr else 0) + leftSum Ro f key left = histSum f key histo
  tot : (P.map (·.n)).sum + rowSum (fun _ => 1) leftr + leftAll Ro left ≤ (histo.map (·.n)).sum
  r1w : w.heap.size ≤ r1
  n1 : ¬ decFoot cb bs Si r1
  n2 : ¬ decFoot cb bs Si cm
  m1 : ¬ decFoot cb bs Si r2
  m2 : ¬ decFoot cb bs Si cm2
  keeps : Keeps (decFoot cb bs S) w wr
  foot : ∀ k, decFoot cb bs Si k → decFoot cb bs S k ∨ w.heap.size ≤ k
  pos : ∀ q ∈ leftr, 0 < q.2 ∧ 0 ≤ q.1 ∧ q.1 ≤ 1099511627776

section
variable {w : World} {cb bs : Nat} {hf ct : Int} {S So : KeysL} {hist histo : List AddD} {Ro : Nat → RowL} {r1 cm : Nat} {left Si : KeysL} {Ri : Nat → RowL} {P : List AddD} {wr : World}
theorem rowSum1_nonneg : ∀ r : RowL, (∀ q ∈ r, 0 < q.2) → 0 ≤ rowSum (fun _ => 1) r
  | [], _ => by simp [rowSum]
  | q :: r, h => by
    have ih := rowSum1_nonneg r (fun z hz => h z (by simp [hz]))
    have h0 := h q (by simp)
    have e : rowSum (fun _ => 1) (q :: r) = q.2 * 1 + rowSum (fun _ => 1) r := rfl
    omega
theorem leftAll_nonneg {cnto : Int} (oI : DecInv So Ro histo cnto) : ∀ l : KeysL, (∀ p ∈ l, p ∈ So) → 0 ≤ leftAll Ro l
  | [], _ => by simp [leftAll]
  | p :: l, h => by
    have ih := leftAll_nonneg oI l (fun q hq => h q (by simp [hq]))
    have h0 := rowSum1_nonneg (Ro p.2) (fun q hq => (oI.pos p (h p (by simp)) q hq).1)
    rw [leftAll_cons]
    omega

/-- A row begins. -/
theorem MgOut.into (h : MgOut w cb bs hf ct S hist Ro So histo r1 cm left Si Ri P wr) {cnto : Int} (oI : DecInv So Ro histo cnto) {k : ByteArray} {b : Nat} (hm : (k, b) ∈ left) {w2 w3 w4 : World} (hrg2 : RangeAt w2 strKf mapVf r1 (some cm) (mdel left k)) (hk2 : Keeps (fun q => q = r1) wr w2)
    {cm2 : Nat} (hm3 : MapIs w3 intVf intVf intOk cm2 (Ro b)) (hb3 : Below w2.heap.size w2 w3) (hcm : cm2 = w2.heap.size) {r2 : Nat} (hr4 : RangeAt w4 intVf intVf r2 (some cm2) (Ro b)) (hb4 : Below w3.heap.size w3 w4) (hr2 : r2 = w3.heap.size) (hrb : ∀ p ∈ left, p.2 ≠ r1) :
    MgIn w cb bs hf ct S hist Ro So histo r1 cm (mdel left k) k r2 cm2 (Ro b) Si Ri P w4 := by
  have hnd := h.rg.nodup
  have hz2 := hk2.size
  have hz3 := hb3.size
  have hlt := h.dec.foot_lt
  have hk4 : Keeps (fun q => q = r1) wr w4 := (hk2.trans (Keeps.ofBelow hb3 (fun _ => False)) (fun _ _ e => e.elim)).trans (Keeps.ofBelow hb4 (fun _ => False)) (fun _ _ e => e.elim)
  have hsub : ∀ p ∈ mdel left k, p ∈ left := fun p hp => (List.mem_filter.1 hp).1
  have hperm := mdel_perm hnd hm
  have hr1l : r1 < wr.heap.size := h.rg.lt
  refine ⟨?_, fun p hp => h.sub p (hsub p hp), fun p hp => by simpa using (List.mem_filter.1 hp).2, hr4, h.dec.keep hk4 (fun q hq e => h.n1 (e ▸ hq)), h.inv, ?_, ?_, ?_, h.r1w, h.n1, h.n2, ?_, ?_, ?_, h.foot, ?_⟩
  · refine (hrg2.keep (Keeps.ofBelow hb3 (fun _ => False)) (fun e => e) (fun _ _ e => e)).keep (Keeps.ofBelow hb4 (fun _ => False)) (fun e => e) (fun _ _ e => e)
  · exact (h.lft.sub hsub).keep hk4 (fun p hp => hrb p (hsub p hp))
  · intro key f
    have := h.sums key f
    rw [leftSum_perm hperm, leftSum_cons] at this
    simp only at this
    by_cases e : key = k
    · subst e
      rw [if_pos rfl] at this ⊢
      omega
    · rw [if_neg (Ne.symm e)] at this
      rw [if_neg e]
      omega
  · have := h.tot
    rw [leftAll_perm hperm, leftAll_cons] at this
    simp only at this
    omega
  · intro hq
    have := hlt _ hq
    omega
  · intro hq
    have := hlt _ hq
    omega
  · exact h.keeps.trans hk4 (fun q hq e => by
      have := h.r1w
      omega)
  · exact fun q hq => oI.pos (k, b) (h.sub _ hm) q hq

variable {k : ByteArray} {r2 cm2 : Nat} {leftr : RowL}
/-- A tick of a row is put. -/
theorem MgIn.step (h : MgIn w cb bs hf ct S hist Ro So histo r1 cm left k r2 cm2 leftr Si Ri P wr) {x v : Int} (hm : (x, v) ∈ leftr) {w2 w3 : World} (hrg : RangeAt w2 intVf intVf r2 (some cm2) (mdel leftr x)) (hk2 : Keeps (fun q => q = r2) wr w2)
    {S' : KeysL} {R' : Nat → RowL} (hD : DecAt w3 cb bs hf ct S' R') (hI : DecInv S' R' (hist ++ P ++ [⟨k, x, v⟩]) ct) (hk3 : Keeps (decFoot cb bs Si) w2 w3) (hf3 : ∀ j, decFoot cb bs S' j → decFoot cb bs Si j ∨ w2.heap.size ≤ j) (ho3 : ∀ p ∈ Si, p ∈ S' ∧ (p.1 ≠ k → R' p.2 = Ri p.2)) (hr2w : w.heap.size ≤ r2) (h12 : r2 ≠ r1 ∧ r2 ≠ cm) (hlr : ∀ p ∈ left, p.2 ≠ r2) :
    MgIn w cb bs hf ct S hist Ro So histo r1 cm left k r2 cm2 (mdel leftr x) S' R' (P ++ [⟨k, x, v⟩]) w3 := by
  have hz2 := hk2.size
  have hr1l : r1 < wr.heap.size := h.rg.lt
  have hcml : cm < wr.heap.size := by
    obtain ⟨es, clock, since, seen, c0, q1, _⟩ := h.rg
    exact (Array.getElem?_eq_some_iff.1 q1).1
  have hcm2l : cm2 < wr.heap.size := by
    obtain ⟨es, clock, since, seen, c0, q1, _⟩ := h.rg2
    exact (Array.getElem?_eq_some_iff.1 q1).1
  have hr2l : r2 < wr.heap.size := h.rg2.lt
  have hdel := fun f => rowSum_del f h.rg2.nodup hm
  have hno : ∀ {j : Nat}, j < wr.heap.size → ¬ decFoot cb bs Si j → ¬ decFoot cb bs S' j := fun {j} hj hn hq => by
    rcases hf3 j hq with h1 | h1
    · exact hn h1
    · omega
  refine ⟨?_, h.sub, h.lk, ?_, hD, by rw [← List.append_assoc]; exact hI, ?_, ?_, ?_, h.r1w, hno hr1l h.n1, hno hcml h.n2, hno hr2l h.m1, hno hcm2l h.m2, ?_, ?_, fun q hq => h.pos q (List.mem_filter.1 hq).1⟩
  · refine (h.rg.keep hk2 (fun e => h12.1 e.symm) (fun b e => by cases e; exact fun e2 => h12.2 e2.symm)).keep hk3 h.n1 (fun b e => by cases e; exact h.n2)
  · exact hrg.keep hk3 h.m1 (fun b e => by cases e; exact h.m2)
  · have h2 : Lft w2 cb bs Si Ri Ro left := h.lft.keep hk2 hlr
    exact h2.put hk3 hf3 ho3 h.lk
  · intro key f
    have h1 := h.sums key f
    rw [histSum_snoc]
    by_cases e : key = k
    · subst e
      rw [if_pos rfl, hdel f] at h1
      rw [if_pos rfl]
      have : histN f key ⟨key, x, v⟩ = v * f x := by unfold histN; rw [if_pos rfl]
      rw [this]
      omega
    · rw [if_neg e] at h1
      rw [if_neg e]
      have : histN f key ⟨k, x, v⟩ = 0 := by unfold histN; rw [if_neg (Ne.symm e)]
      rw [this]
      omega
  · have h1 := h.tot
    rw [hdel (fun _ => 1)] at h1
    rw [List.map_append, List.sum_append]
    simp only [List.map_cons, List.map_nil, List.sum_cons, List.sum_nil]
    omega
  · refine (h.keeps.trans hk2 (fun q hq e => by omega)).trans hk3 (fun q hq e => ?_)
    rcases h.foot q e with h1 | h1
    · exact h1
    · omega
  · intro j hj
    rcases hf3 j hj with h1 | h1
    · exact h.foot j h1
    · have := h.keeps.size
      exact .inr (by omega)
/-- A row ends. -/
theorem MgIn.out (h : MgIn w cb bs hf ct S hist Ro So histo r1 cm left k r2 cm2 [] Si Ri P wr) : MgOut w cb bs hf ct S hist Ro So histo r1 cm left Si Ri P wr :=
  { h with
    sums := fun key f => by
      have := h.sums key f
      have e : (if key = k then rowSum f [] else 0) = 0 := by split <;> rfl
      rw [e] at this
      omega
    tot := by
      have := h.tot
      have e : rowSum (fun _ => 1) [] = 0 := rfl
      omega }
/-- All is over. -/
theorem MgOut.fin (h : MgOut w cb bs hf ct S hist Ro So histo r1 cm [] Si Ri P wr) {cnt cnto : Int} (oI : DecInv So Ro histo cnto) (ht : (hist.map (·.n)).sum ≤ 1048576 * cnt) (hct : ct = cnt + cnto) : DecInv Si Ri (hist ++ histo) ct := by
  refine h.inv.rehist (fun key f => ?_) oI.good ?_
  · have := h.sums key f
    have e : leftSum Ro f key [] = 0 := rfl
    omega
  · have := oI.total
    rw [List.map_append, List.sum_append, hct]
    omega
end

/-- What Merge leaves. -/
def DMerge (w : World) (cb bs : Nat) (hf ct : Int) (S : KeysL) (H : List AddD) (e : Ending) (w' : World) : Prop :=
  e = .returned (.bool true) ∧ ∃ S' R', DecAt w' cb bs hf ct S' R' ∧ DecInv S' R' H ct ∧ Keeps (decFoot cb bs S) w w' ∧ (∀ k, decFoot cb bs S' k → decFoot cb bs S k ∨ w.heap.size ≤ k)

set_option maxRecDepth 20000 in
set_option maxHeartbeats 4000000 in
theorem dmerge_any (cb bs ob bo : Nat) (hf cnt cnto : Int) (S So : KeysL) (R Ro : Nat → RowL) (hist histo : List AddD) (w : World) (h : DecAt w cb bs hf cnt S R) (hI : DecInv S R hist cnt) (o0 : w.cell? ⟨ob, 0, none⟩ = some (.int .i64 hf)) (o1 : w.cell? ⟨ob, 1, none⟩ = some (.int .i64 cnto)) (o2 : w.cell? ⟨ob, 2, none⟩ = some (.map (some bo)))
    (hso : MapIs w strKf mapVf strOk bo So) (oI : DecInv So Ro histo cnto) (hL : Lft w cb bs S R Ro So) (hct : cnt + cnto ≤ 1048576) (h1 : 1 ≤ hf) (h2 : hf ≤ 1099511627776) (hbo : bo ≠ cb) (hsoc : ∀ p ∈ So, p.2 ≠ cb) :
    Calls Try.prog 18 #[.pointer (some ⟨cb, 0, none⟩), .pointer (some ⟨ob, 0, none⟩)] w (DMerge w cb bs hf (cnt + cnto) S (hist ++ histo)) := by
  obtain ⟨c0, c1, c2⟩ := cell_of_dec h
  have hc0 := hI.cnt0
  have hc1 := oI.cnt0
  have hfz := dfrozen_of_blk h.blk 1
  have hne1 : (hf != hf) = false := by simp
  have hgt : decide (1048576 < cnt + cnto) = false := by simp; omega
  have hw1 : IntKind.i64.wrap (cnt + cnto) = cnt + cnto := IntWalk.i64_in _ (by omega)
  have HH := Lib.hid h
  have HI := Lib.hid hI
  have HSO := Lib.hid hso
  have HOI := Lib.hid oI
  have HL := Lib.hid hL
  have HSC := Lib.hid hsoc
  clear h hI hso oI hL hsoc
  go_enter Try.func18, Try.ntmps18
  go_wp2_with fail
  go_quiet (fail)
  go_wp2_with fail
  have hD1 := HH.out.keep ((Keeps.refl (fun _ => False) w).drewN nq) (fun _ _ e => e)
  have hso1 := HSO.out.drewN nq
  have hL1 : Lft (w.drewN nq) cb bs S R Ro So := HL.out.keep ((Keeps.refl (fun _ => False) w).drewN nq) (fun _ _ e => e)
  have hk1 : Keeps (decFoot cb bs S) w (w.drewN nq) := (Keeps.refl _ _).drewN nq
  replace o1 : (w.drewN nq).cell? ⟨ob, 1, none⟩ = some (.int .i64 cnto) := o1
  replace o2 : (w.drewN nq).cell? ⟨ob, 2, none⟩ = some (.map (some bo)) := o2
  replace hfz : (w.drewN nq).frozen? ⟨cb, 1, none⟩ = false := hfz
  replace c1 : (w.drewN nq).cell? ⟨cb, 1, none⟩ = some (.int .i64 cnt) := c1
  generalize w.drewN nq = w1 at *
  go_region
  have hD2 : DecAt (w1.setCell ⟨cb, 1, none⟩ (.int .i64 (cnt + cnto))).drew cb bs hf (cnt + cnto) S R := (hD1.bump (cnt + cnto)).keep (Keeps.refl (fun _ => False) _).drew (fun _ _ e => e)
  have hks : Keeps (fun q => q = cb) w1 (w1.setCell ⟨cb, 1, none⟩ (.int .i64 (cnt + cnto))).drew := ((Keeps.refl (fun q => q = cb) w1).setCell (p := ⟨cb, 1, none⟩) (.inr rfl) _).drew
  have hso2 := hso1.keep hks hbo
  have hL2 := hL1.keep hks HSC.out
  have hk2 : Keeps (decFoot cb bs S) w (w1.setCell ⟨cb, 1, none⟩ (.int .i64 (cnt + cnto))).drew := hk1.trans hks (fun q _ e => .inl e)
  have p2 : (w1.setCell ⟨cb, 1, none⟩ (.int .i64 (cnt + cnto))).drew.cell? ⟨ob, 2, none⟩ = some (.map (some bo)) := (World.cell?_setCell_other w1 ⟨cb, 1, none⟩ ⟨ob, 2, none⟩ _ (by intro e; injection e with _ e; cases e)).trans o2
  clear hD1 hso1 hL1 hk1 hks o0 o1 o2 c0 c1 c2 hfz hne1 hgt hw1
  go_wp2_with fail
  generalize (w1.setCell ⟨cb, 1, none⟩ (.int .i64 (cnt + cnto))).drew = w2 at *
  refine (mapsClone_any (P := Try.prog) Try.cloM hso2).mono ?_
  rintro e w3 ⟨rfl, hm3, hb3, hz3⟩
  have HZ3 := Lib.hid hz3
  clear hz3
  have hlt2 := hD2.foot_lt
  have hD3 := hD2.keep (Keeps.ofBelow hb3 (fun _ => False)) (fun _ _ e => e)
  have hL3 : Lft w3 cb bs S R Ro So := hL2.keep (Keeps.ofBelow hb3 (fun _ => False)) (fun _ _ e => e)
  have hk3 : Keeps (decFoot cb bs S) w w3 := hk2.trans (Keeps.ofBelow hb3 (fun _ => False)) (fun _ _ e => e.elim)
  have hzw := hk2.size
  go_wp2_with (at_range; refine wpList_range_is rfl _ _ rfl Try.underlying50 rfl hm3 ?_; intro w4 hrg4 hb4 hz4)
  have hz3 := HZ3.out
  have hD4 := hD3.keep (Keeps.ofBelow hb4 (fun _ => False)) (fun _ _ e => e)
  have hL4 : Lft w4 cb bs S R Ro So := hL3.keep (Keeps.ofBelow hb4 (fun _ => False)) (fun _ _ e => e)
  have hk4 : Keeps (decFoot cb bs S) w w4 := hk3.trans (Keeps.ofBelow hb4 (fun _ => False)) (fun _ _ e => e.elim)
  have hso_lt : ∀ p ∈ So, p.2 < w2.heap.size := fun p hp => (hL2.at_ hD2 hp).lt
  have HSL := Lib.hid hso_lt
  have hst : MgOut w cb bs hf (cnt + cnto) S hist Ro So histo w3.heap.size w2.heap.size So S R [] w4 :=
    ⟨hrg4, fun _ h => h, hD4, by simpa using HI.out.moreC (cnt' := cnt + cnto) (by omega) hct, hL4, fun key f => by
      have := HOI.out.eqs key f
      rw [← leftSum_all HSO.out.nodup] at this
      have e : histSum f key [] = 0 := rfl
      omega, by have := HOI.out.leftAll HSO.out.nodup; simp; exact this, by omega, fun hq => by have := hlt2 _ hq; omega, fun hq => by have := hlt2 _ hq; omega, hk4, fun _ h => .inl h⟩
  have HKO := Lib.hid HSO.out.ok
  clear hD2 hso2 hL2 hk2 p2 hm3 hb3 hD3 hL3 hk3 hrg4 hb4 hD4 hL4 hk4 hso_lt hlt2
  go_frame
  obtain ⟨r1, hr1⟩ : ∃ r1, r1 = w3.heap.size := ⟨_, rfl⟩
  obtain ⟨cm, hcm⟩ : ∃ cm, cm = w2.heap.size := ⟨_, rfl⟩
  rw [← hr1, ← hcm] at hst
  rw [← hcm] at HSL
  rw [← hr1]
  have hr1c : r1 = cm + 1 := by omega
  have HR1C := Lib.hid hr1c
  have HST := Lib.hid hst
  clear hst hr1 hcm hz3 hz4 hzw hr1c
  go_loopg [] So.length (fun rest wr => ∃ left Si Ri P, Hid (rest = List.length left) ∧ Hid (MgOut w cb bs hf (cnt + cnto) S hist Ro So histo r1 cm left Si Ri P wr))
  case atStart => exact ⟨So, S, R, [], Lib.hid rfl, HST⟩
  case round =>
    obtain ⟨left, Si, Ri, P, HLN, HM⟩ := hrel
    obtain ⟨w5, rfl⟩ : ∃ w5 : World, w5 = wr := ⟨_, rfl⟩
    go_wp2_with (at_next; refine wpList_next_is rfl _ rfl rfl HM.out.rg ?_ ?_)
    · intro h0
      subst h0
      have hfin := HM.out.fin HOI.out HI.out.total rfl
      (try go_frame)
      go_wp2
      go_ret
      exact ⟨rfl, Si, Ri, HM.out.dec, hfin, HM.out.keeps, HM.out.foot⟩
    · intro k b w6 hmem hrg6 hk6 hz6 hen
      have hml := mdel_len HM.out.rg.nodup (p := (k, b)) hmem
      simp only at hml
      have HML := Lib.hid hml
      have hmap5 := HM.out.lft.at_ HM.out.dec hmem
      simp only at hmap5
      have hbr : b ≠ r1 := fun e => by have h1 := HSL.out _ (HM.out.sub _ hmem); have := HR1C.out; simp only at h1; omega
      have hmap6 := hmap5.keep hk6 hbr
      have hkok := HKO.out _ (HM.out.sub _ hmem)
      simp only [strKf, mapVf] at hen
      have HZ6 := Lib.hid hz6
      clear hml hmap5 hz6
      (try go_frame)
      go_wp2_with fail
      refine (mapsClone_any (P := Try.prog) Try.cloI hmap6).mono ?_
      rintro e w7 ⟨rfl, hm7, hb7, hz7⟩
      have HZ7 := Lib.hid hz7
      clear hz7
      go_wp2_with (at_range; refine wpList_range_is rfl _ _ rfl Try.underlying54 rfl hm7 ?_; intro w8 hrg8 hb8 hz8)
      have hz6 := HZ6.out
      have hz7 := HZ7.out
      have hin := HM.out.into HOI.out hmem hrg6 hk6 hm7 hb7 rfl hrg8 hb8 rfl (fun p hp e => by have := HSL.out _ (HM.out.sub _ hp); have := HR1C.out; omega)
      have hr2w : w.heap.size ≤ w7.heap.size := by have := HM.out.keeps.size; omega
      have hr1l : r1 < w5.heap.size := HM.out.rg.lt
      have hcml : cm < w5.heap.size := by have := HR1C.out; omega
      have h12 : w7.heap.size ≠ r1 ∧ w7.heap.size ≠ cm := ⟨by omega, by omega⟩
      have HLR : Hid (∀ p ∈ mdel left k, p.2 ≠ w7.heap.size) := Lib.hid (fun p hp e => by have := HSL.out _ (HM.out.sub _ (List.mem_filter.1 hp).1); omega)
      have HIN := Lib.hid hin
      clear hin hrg8 hb8 hm7 hb7 hrg6 hk6 hmap6 hz6 hz7 hz8
      go_frame
      obtain ⟨r2, hr2⟩ : ∃ r2, r2 = w7.heap.size := ⟨_, rfl⟩
      obtain ⟨cm2, hcm2⟩ : ∃ cm2, cm2 = w6.heap.size := ⟨_, rfl⟩
      rw [← hr2, ← hcm2] at HIN
      rw [← hr2] at hr2w h12 HLR ⊢
      clear hr2 hcm2
      have HLN0 := HLN
      go_loopg [] (Ro b).length (fun rest wr => ∃ leftr S' R' P', Hid (rest = List.length leftr) ∧ Hid (MgIn w cb bs hf (cnt + cnto) S hist Ro So histo r1 cm (mdel left k) k r2 cm2 leftr S' R' P' wr))
      case atStart => exact ⟨Ro b, Si, Ri, P, Lib.hid rfl, HIN⟩
      case round =>
        obtain ⟨leftr, S', R', P', HLR2, HN⟩ := hrel
        obtain ⟨w9, rfl⟩ : ∃ w9 : World, w9 = wr := ⟨_, rfl⟩
        go_wp2_with (at_next; refine wpList_next_is rfl _ rfl rfl HN.out.rg2 ?_ ?_)
        · intro h0
          subst h0
          have HO := Lib.hid HN.out.out
          (try go_frame)
          (try go_wp2)
          go_roundg (mdel left k).length
          case measure => have := HML.out; have := HLN0.out; omega
          case rel => exact ⟨mdel left k, S', R', P', Lib.hid rfl, HO⟩
        · intro x v wa hmx hrga hka hza hena
          have hmlx := mdel_len HN.out.rg2.nodup (p := (x, v)) hmx
          simp only at hmlx
          have HMX := Lib.hid hmlx
          have hpx := HN.out.pos _ hmx
          simp only at hpx
          have hDa := HN.out.dec.keep hka (fun q hq e => HN.out.m1 (e ▸ hq))
          have htot := HN.out.tot
          rw [rowSum_del (fun _ => 1) HN.out.rg2.nodup hmx] at htot
          have hn1 := rowSum1_nonneg (mdel leftr x) (fun q hq => (HN.out.pos q (List.mem_filter.1 hq).1).1)
          have hn2 := leftAll_nonneg HOI.out (mdel left k) HN.out.sub
          have hhT := HI.out.total
          have hoT := HOI.out.total
          have hP0 : 0 ≤ (P'.map (·.n)).sum := by
            have hg : ∀ a ∈ P', 0 ≤ a.n := fun a ha => (HN.out.inv.good a (by simp [ha])).1
            clear htot
            generalize P' = L at hg
            induction L with
            | nil => simp
            | cons a L ih =>
              have := ih (fun z hz => hg z (by simp [hz]))
              have := hg a (by simp)
              simp only [List.map_cons, List.sum_cons]
              omega
          have hbud : ((hist ++ P').map (·.n)).sum + v ≤ 1048576 * (cnt + cnto) := by rw [List.map_append, List.sum_append]; omega
          have hv2 : v ≤ 1099511627776 := by omega
          have HPUT := Lib.hid (dputG_any cb bs hf (cnt + cnto) S' R' (hist ++ P') (cnt + cnto) k x v wa hDa HN.out.inv hkok hpx.2.1 hpx.2.2 (by omega) hv2 hbud)
          simp only [intVf] at hena
          clear hmlx hDa htot hn1 hn2 hhT hoT hP0 hbud
          (try go_frame)
          go_wp2_with fail
          refine HPUT.out.mono ?_
          rintro e wb ⟨rfl, S2, R2, hDb, hIb, hkb, hfb, hob⟩
          have HS2 := Lib.hid (HN.out.step hmx hrga hka hDb hIb hkb hfb hob hr2w h12 HLR.out)
          clear hDb hIb hkb hfb hob
          go_wp2
          go_roundg (mdel leftr x).length
          case measure => have := HMX.out; have := HLR2.out; omega
          case rel => exact ⟨mdel leftr x, S2, R2, _, Lib.hid rfl, HS2⟩
end Go.Proofs.Ytgahopkbgefjdaa
