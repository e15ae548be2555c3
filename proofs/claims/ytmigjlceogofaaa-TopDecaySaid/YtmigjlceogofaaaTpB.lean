/- Three counters in a row; the plain law of TopDecay. -/
import Derived.Test.YtmigjlceogofaaaTpA
import Derived.Test.YtmigjlceogofaaaKitC
namespace Go.Proofs.Ytmigjlceogofaaa
open Go.ChangeShapes Go.WideShapes Go.ChangeAt Go.RowKit
set_option linter.unusedVariables false
set_option linter.unusedSimpArgs false

/-- Three counters that lie apart, and the row that holds them. -/
structure P3 (w0 w : World) (h : Int) (c : Nat → Nat) (pbk : Nat) (F : Nat → Nat → Prop) (H : Nat → List AddD) (n : Nat → Int) : Prop where
  o : ∀ i, i < 3 → DecObj w (c i) (F i) h (n i) (H i)
  ap : ∀ i j, i < 3 → j < 3 → i ≠ j → Apart (F i) (F j)
  b : ∀ i, i < 3 → ∀ k, F i k → w0.heap.size ≤ k
  p : ∀ i, i < 3 → w.cell? ⟨pbk, i, none⟩ = some (.pointer (some ⟨c i, 0, none⟩))
  lt : pbk < w.heap.size
  q : ∀ i, i < 3 → ¬ F i pbk
def set3 {α : Type} (f : Nat → α) (j : Nat) (x : α) (i : Nat) : α := if i = j then x else f i
theorem set3_same {α : Type} (f : Nat → α) (j : Nat) (x : α) : set3 f j x j = x := by simp [set3]
theorem set3_ne {α : Type} (f : Nat → α) {i j : Nat} (x : α) (h : i ≠ j) : set3 f j x i = f i := by simp [set3, h]
section
variable {w0 w w' : World} {h : Int} {c : Nat → Nat} {pbk : Nat} {F : Nat → Nat → Prop} {H : Nat → List AddD} {n : Nat → Int}
theorem P3.grow (p : P3 w0 w h c pbk F H n) (hb : Below w.heap.size w w') : P3 w0 w' h c pbk F H n :=
  { p with
    o := fun i hi => (p.o i hi).below hb
    p := fun i hi => (hb.cell (p := ⟨pbk, i, none⟩) p.lt).trans (p.p i hi)
    lt := Nat.lt_of_lt_of_le p.lt hb.size }
theorem P3.set (p : P3 w0 w h c pbk F H n) {j : Nat} (hj : j < 3) {F' : Nat → Prop} {H' : List AddD} {n' : Int} (hw : w0.heap.size ≤ w.heap.size) (ho : DecObj w' (c j) F' h n' H') (hu : Upd (F j) w F' w') : P3 w0 w' h c pbk (set3 F j F') (set3 H j H') (set3 n j n') where
  o := fun i hi => by
    by_cases e : i = j
    · subst e; rw [set3_same, set3_same, set3_same]; exact ho
    · rw [set3_ne _ _ e, set3_ne _ _ e, set3_ne _ _ e]
      exact ((DecObj.own _ _ _ _).frame hu (p.o i hi) (p.ap j i hj hi (Ne.symm e))).1
  ap := fun i k hi hk hne => by
    by_cases e : i = j
    · subst e
      rw [set3_same, set3_ne _ _ (Ne.symm hne)]
      exact ((DecObj.own _ _ _ _).frame hu (p.o k hk) (p.ap i k hi hk hne)).2
    · by_cases e2 : k = j
      · subst e2
        rw [set3_same, set3_ne _ _ e]
        exact ((DecObj.own _ _ _ _).frame hu (p.o i hi) (p.ap k i hk hi (Ne.symm hne))).2.symm
      · rw [set3_ne _ _ e, set3_ne _ _ e2]
        exact p.ap i k hi hk hne
  b := fun i hi => by
    by_cases e : i = j
    · subst e; rw [set3_same]; exact hu.base hw (p.b i hi)
    · rw [set3_ne _ _ e]; exact p.b i hi
  p := fun i hi => (hu.keeps.cell (p := ⟨pbk, i, none⟩) p.lt (p.q j hj)).trans (p.p i hi)
  lt := Nat.lt_of_lt_of_le p.lt hu.keeps.size
  q := fun i hi => by
    by_cases e : i = j
    · subst e; rw [set3_same]; intro hq; rcases hu.foot _ hq with h1 | h1
      · exact p.q i hi h1
      · have := p.lt; omega
    · rw [set3_ne _ _ e]; exact p.q i hi
end

/-- What was dealt to three counters is what was added. -/
def Dealt (H : Nat → List AddD) (l : List AddD) : Prop := ∀ key f, histSum f key (H 0) + histSum f key (H 1) + histSum f key (H 2) = histSum f key l
/-- From a tick on. -/
def DealtFrom (h last : Int) (H : Nat → List AddD) (l : List AddD) : Prop := ∀ key now, last ≤ now → histSum (fun a => wtV (now - a) h) key (H 0) + histSum (fun a => wtV (now - a) h) key (H 1) + histSum (fun a => wtV (now - a) h) key (H 2) = histSum (fun a => wtV (now - a) h) key l

theorem wt_old {h now a t : Int} (h1 : 1 ≤ h) (ha : a ≤ t - 21 * h) (ht : t ≤ now) : wtV (now - a) h = 0 := by
  unfold wtV
  split
  · rfl
  · have hm : max h 1 = h := by omega
    rw [hm]
    have : 21 ≤ (now - a) / h := by
      rw [Int.le_ediv_iff_mul_le (by omega)]
      omega
    rw [if_pos (by omega)]
/-- What is trimmed weighs nothing. -/
theorem hist_trim {h t now : Int} (h1 : 1 ≤ h) (ht : t ≤ now) (key : ByteArray) (H : List AddD) : histSum (fun a => wtV (now - a) h) key (H.filter (hk (t - 21 * h))) = histSum (fun a => wtV (now - a) h) key H := by
  rw [histSum_filter]
  unfold histSum
  congr 1
  apply List.map_congr_left
  intro a _
  unfold histN
  split
  · by_cases e : t - 21 * h < a.at_
    · simp [e]
    · have := wt_old (a := a.at_) h1 (by omega) ht
      simp [e, this]
  · rfl
theorem dealt_snoc {H : Nat → List AddD} {l : List AddD} {a : AddD} (hd : Dealt H l) {j : Nat} (hj : j < 3) : Dealt (set3 H j (H j ++ [a])) (l ++ [a]) := by
  intro key f
  have h0 := hd key f
  have : j = 0 ∨ j = 1 ∨ j = 2 := by omega
  rcases this with rfl | rfl | rfl <;> (simp [set3, histSum_snoc]; omega)
theorem dealt_trim {h t last : Int} {H : Nat → List AddD} {l : List AddD} (h1 : 1 ≤ h) (hd : DealtFrom h last H l) {j : Nat} (hj : j < 3) : DealtFrom h (max last t) (set3 H j ((H j).filter (hk (t - 21 * h)))) l := by
  intro key now hn
  have h0 := hd key now (by omega)
  have ht := fun H => hist_trim (h := h) (t := t) (now := now) h1 (by omega) key H
  have : j = 0 ∨ j = 1 ∨ j = 2 := by omega
  rcases this with rfl | rfl | rfl <;> (simp only [set3]; simp [ht]; omega)

theorem set3_all {P : Int → Prop} {n : Nat → Int} {x : Int} {j : Nat} (hx : P x) (hn : ∀ i, i < 3 → P (n i)) : ∀ i, i < 3 → P (set3 n j x i) := fun i hi => by
  unfold set3; split
  · exact hx
  · exact hn i hi
theorem set3_len {P : Int → Prop} {n : Nat → List AddD} {x : List AddD} {j : Nat} (hx : P (x.length : Int)) (hn : ∀ i, i < 3 → P ((n i).length : Int)) : ∀ i, i < 3 → P ((set3 n j x i).length : Int) := fun i hi => by
  unfold set3; split
  · exact hx
  · exact hn i hi
/-- The first loop's relation. -/
def Td1 (w0 : World) (h : Int) (c : Nat → Nat) (pbk : Nat) (l : List AddD) (rest : Nat) (ii : Value) (wr : World) : Prop :=
  ∃ (k : Nat) (F : Nat → Nat → Prop) (H : Nat → List AddD) (n : Nat → Int), ii = .int .i64 k ∧ Hid (k + rest = l.length) ∧ P3 w0 wr h c pbk F H n ∧ Dealt H (l.take k) ∧ (∀ i, i < 3 → n i ≤ k) ∧ (∀ i, i < 3 → ((H i).length : Int) ≤ k) ∧ Below w0.heap.size w0 wr
/-- The second loop's relation. -/
def Td2 (w0 : World) (h : Int) (c : Nat → Nat) (pbk : Nat) (l : List AddD) (ts : List Int) (rest : Nat) (ll ii : Value) (wr : World) : Prop :=
  ∃ (k : Nat) (last : Int) (F : Nat → Nat → Prop) (H : Nat → List AddD) (n : Nat → Int), ll = .int .i64 last ∧ ii = .int .i64 k ∧ Hid (k + rest = ts.length) ∧ P3 w0 wr h c pbk F H n ∧ DealtFrom h last H l ∧ (0 ≤ last ∧ last ≤ 65535) ∧ (∀ i, i < 3 → n i ≤ 60) ∧ (∀ i, i < 3 → ((H i).length : Int) ≤ 60) ∧ Below w0.heap.size w0 wr

/-- A row of ticks. -/
def U16sAt (w : World) (B : Nat) (A : Option Addr) (l : List Int) : Prop := Reads w B 1 A l.length (l.map (Value.int .u16)) ∧ ∀ n ∈ l, 0 ≤ n ∧ n ≤ 65535
theorem U16sAt.one {w : World} {B : Nat} {A : Option Addr} {l : List Int} (h : U16sAt w B A l) {k : Nat} (hk : k < l.length) : ∃ b o, A = some ⟨b, o, none⟩ ∧ b < B ∧ w.cell? ⟨b, o + k, none⟩ = some (.int .u16 l[k]) := h.1.one hk
theorem U16sAt.below {w w' : World} {B : Nat} {A : Option Addr} {l : List Int} (h : U16sAt w B A l) (hb : Below B w w') : U16sAt w' B A l := ⟨h.1.below hb, h.2⟩

theorem filter_len_le {H : List AddD} {p : AddD → Bool} {n : Int} (h : (H.length : Int) ≤ n) : ((H.filter p).length : Int) ≤ n := by
  have := List.length_filter_le p H
  omega
theorem mod3 (k : Nat) : ∃ j : Nat, j < 3 ∧ (k : Int).tmod 3 = (j : Int) := ⟨k % 3, by omega, by rw [Int.tmod_eq_emod_of_nonneg (by omega)]; omega⟩

/-- Halving as the code does it: m times, from 2^20, stopping at 0. -/
theorem half_pow (m : Nat) : (1048576 : Int) / 2 ^ m / 2 = 1048576 / 2 ^ (m + 1) := by
  rw [Int.ediv_ediv_of_nonneg (by exact Int.pow_nonneg (by omega))]
  congr 1
theorem half_wt {now a h : Int} (h1 : 1 ≤ h) (ha : a ≤ now) : wtV (now - a) h = 1048576 / 2 ^ ((now - a) / h).toNat := by
  unfold wtV
  have hm : max h 1 = h := by omega
  rw [hm, if_neg (by omega)]
  have h0 : 0 ≤ (now - a) / h := Int.ediv_nonneg (by omega) (by omega)
  split
  · rename_i h20
    symm
    apply Int.ediv_eq_zero_of_lt (by omega)
    have : (2 : Int) ^ 21 ≤ 2 ^ ((now - a) / h).toNat := by
      have : (2 : Nat) ^ 21 ≤ 2 ^ ((now - a) / h).toNat := Nat.pow_le_pow_right (by omega) (by omega)
      exact_mod_cast this
    have e : (2 : Int) ^ 21 = 2097152 := by decide
    omega
  · rfl
theorem half_bd (m : Nat) : 0 ≤ (1048576 : Int) / 2 ^ m ∧ (1048576 : Int) / 2 ^ m ≤ 1048576 := by
  have hp : (0 : Int) < 2 ^ m := Int.pow_pos (by omega)
  exact ⟨Int.ediv_nonneg (by omega) (by omega), Int.ediv_le_self _ (by omega)⟩
theorem half_zero {m j : Nat} (h : (1048576 : Int) / 2 ^ m = 0) : (1048576 : Int) / 2 ^ (m + j) = 0 := by
  induction j with
  | zero => exact h
  | succ j ih => rw [show m + (j + 1) = (m + j) + 1 by omega, ← half_pow, ih]; rfl
end Go.Proofs.Ytmigjlceogofaaa
