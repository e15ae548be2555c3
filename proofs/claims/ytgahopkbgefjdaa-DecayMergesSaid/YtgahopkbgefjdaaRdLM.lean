/- Several objects of any kinds in memory, apart from one another. Lemmas over any program. Contracts of decay.Merge of itself, of nothing, of another half; what is dealt to three, plainly. The walk of DecayMerges. -/
import Derived.Test.YtgahopkbgefjdaaKitO
import Derived.Test.YtgahopkbgefjdaaRdH
import Derived.Test.YtgahopkbgefjdaaDecO
namespace Go.Proofs.Ytgahopkbgefjdaa
open Go.ChangeShapes Go.WideShapes Go.ChangeAt Go.RowKit
set_option linter.unusedVariables false

/-- A kind of object, in a state. -/
structure Ob1 where
  R : World → (Nat → Prop) → Prop
  own : Own1 R
structure Objs (w0 w : World) (B : Nat) (os : List Ob1) (F : Nat → Nat → Prop) : Prop where
  hB : B ≤ w0.heap.size
  ob : ∀ (i : Nat) (o : Ob1), os[i]? = some o → o.R w (F i)
  ap : ∀ i j, i ≠ j → i < os.length → j < os.length → Apart (F i) (F j)
  lo : ∀ i, i < os.length → ∀ k, F i k → B ≤ k
  bl : Below B w0 w
section
variable {w0 w w' : World} {B : Nat} {os : List Ob1} {F : Nat → Nat → Prop}
theorem Objs.nil (hB : B ≤ w0.heap.size) (h : Below B w0 w) : Objs w0 w B [] (fun _ _ => False) := ⟨hB, by simp, by simp, by simp, h⟩
theorem Objs.below (h : Objs w0 w B os F) (hb : Below w.heap.size w w') : Objs w0 w' B os F :=
  ⟨h.hB, fun i o hi => o.own.below (h.ob i o hi) hb, h.ap, h.lo, h.bl.trans (hb.mono (Nat.le_trans h.hB h.bl.size))⟩
theorem Objs.get (h : Objs w0 w B os F) {i : Nat} {o : Ob1} (hi : os[i]? = some o) : o.R w (F i) := h.ob i _ hi
theorem Objs.upd (h : Objs w0 w B os F) {i : Nat} {o : Ob1} (o' : Ob1) {F' : Nat → Prop} (hi : os[i]? = some o) (hu : Upd (F i) w F' w') (ho : o'.R w' F') : ∃ G, Objs w0 w' B (os.set i o') G := by
  have hil : i < os.length := (List.getElem?_eq_some_iff.1 hi).1
  have hlt : ∀ j, j < os.length → ∀ k, F j k → k < w.heap.size := fun j hj k hk => by
    have := h.ob j _ (List.getElem?_eq_getElem hj)
    exact (os[j]).own.lt this k hk
  refine ⟨fun j => if j = i then F' else F j, h.hB, fun j o hj => ?_, fun j k hjk hj hk => ?_, fun j hj k hk => ?_, ?_⟩
  · rw [List.getElem?_set] at hj
    by_cases e : i = j
    · subst e
      rw [if_pos rfl, if_pos hil] at hj
      injection hj with hj
      subst hj
      simp only [if_true]
      exact ho
    · rw [if_neg e] at hj
      simp only [if_neg (Ne.symm e)]
      exact o.own.keep (h.ob j o hj) hu.keeps (fun k hk hf => h.ap i j e hil (List.getElem?_eq_some_iff.1 hj).1 k hf hk)
  · rw [List.length_set] at hj hk
    intro x hx hy
    try simp only at hx hy
    by_cases e : j = i
    · rw [if_pos e] at hx
      have e2 : ¬ k = i := fun e2 => hjk (e.trans e2.symm)
      rw [if_neg e2] at hy
      rcases hu.foot x hx with h1 | h1
      · exact h.ap i k (Ne.symm e2) hil hk x h1 hy
      · have := hlt k hk x hy; omega
    · rw [if_neg e] at hx
      by_cases e2 : k = i
      · rw [if_pos e2] at hy
        rcases hu.foot x hy with h1 | h1
        · exact h.ap i j (Ne.symm e) hil hj x h1 hx
        · have := hlt j hj x hx; omega
      · rw [if_neg e2] at hy
        exact h.ap j k hjk hj hk x hx hy
  · rw [List.length_set] at hj
    try simp only at hk
    by_cases e : j = i
    · rw [if_pos e] at hk
      rcases hu.foot k hk with h1 | h1
      · exact h.lo i hil k h1
      · have := h.bl.size; have := h.hB; omega
    · rw [if_neg e] at hk
      exact h.lo j hj k hk
  · exact hu.belowB h.bl h.hB (h.lo i hil)
theorem Objs.add (h : Objs w0 w B os F) (o' : Ob1) {F' : Nat → Prop} (ho : o'.R w F') (hn : ∀ j, j < os.length → Apart (F j) F') (hlo : ∀ k, F' k → B ≤ k) : ∃ G, Objs w0 w B (os ++ [o']) G := by
  refine ⟨fun j => if j = os.length then F' else F j, h.hB, fun j o hj => ?_, fun j k hjk hj hk => ?_, fun j hj k hk => ?_, h.bl⟩
  · have hjl := (List.getElem?_eq_some_iff.1 hj).1
    rw [List.length_append] at hjl
    simp at hjl
    by_cases e : j = os.length
    · subst e
      rw [List.getElem?_append_right (Nat.le_refl _)] at hj
      simp at hj
      subst hj
      simp only [if_true]
      exact ho
    · rw [List.getElem?_append_left (by omega)] at hj
      simp only [if_neg e]
      exact h.ob j o hj
  · rw [List.length_append] at hj hk
    simp at hj hk
    intro x hx hy
    try simp only at hx hy
    by_cases e : j = os.length
    · rw [if_pos e] at hx
      have e2 : ¬ k = os.length := fun e2 => hjk (e.trans e2.symm)
      rw [if_neg e2] at hy
      exact hn k (by omega) x hy hx
    · rw [if_neg e] at hx
      by_cases e2 : k = os.length
      · rw [if_pos e2] at hy
        exact hn j (by omega) x hx hy
      · rw [if_neg e2] at hy
        exact h.ap j k hjk (by omega) (by omega) x hx hy
  · rw [List.length_append] at hj
    simp at hj
    try simp only at hk
    by_cases e : j = os.length
    · rw [if_pos e] at hk
      exact hlo k hk
    · rw [if_neg e] at hk
      exact h.lo j (by omega) k hk
/-- A new one. -/
theorem Objs.new (h : Objs w0 w B os F) (o' : Ob1) {F' : Nat → Prop} (hb : Below w.heap.size w w') (ho : o'.R w' F') (hn : ∀ k, F' k → w.heap.size ≤ k) : ∃ G, Objs w0 w' B (os ++ [o']) G := by
  refine (h.below hb).add o' ho (fun j hj k hk hk' => ?_) (fun k hk => Nat.le_trans (Nat.le_trans h.hB h.bl.size) (hn k hk))
  have h1 := (os[j]).own.lt (h.ob j _ (List.getElem?_eq_getElem hj)) k hk
  have h2 := hn k hk'
  omega
/-- With what is said of a block that none of them holds. -/
theorem Objs.upd2 (h : Objs w0 w B os F) {i : Nat} {o : Ob1} (o' : Ob1) {F' : Nat → Prop} (hi : os[i]? = some o) (hu : Upd (F i) w F' w') (ho : o'.R w' F') {x n : Nat} (hx : x < w.heap.size) (hn : ∀ j, j < n → ¬ F j x) : ∃ G, Objs w0 w' B (os.set i o') G ∧ ∀ j, j < n → ¬ G j x := by
  have hil : i < os.length := (List.getElem?_eq_some_iff.1 hi).1
  obtain ⟨G, hG⟩ := h.upd o' hi hu ho
  refine ⟨fun j => if j = i then F' else F j, ⟨h.hB, ?_, ?_, ?_, hG.bl⟩, ?_⟩
  · intro j o2 hj
    rw [List.getElem?_set] at hj
    by_cases e : i = j
    · subst e
      rw [if_pos rfl, if_pos hil] at hj
      injection hj with hj
      subst hj
      simp only [if_true]
      exact ho
    · rw [if_neg e] at hj
      simp only [if_neg (Ne.symm e)]
      exact o2.own.keep (h.ob j o2 hj) hu.keeps (fun k hk hf => h.ap i j e hil (List.getElem?_eq_some_iff.1 hj).1 k hf hk)
  · intro j k hjk hj hk
    rw [List.length_set] at hj hk
    have hlt : ∀ j, j < os.length → ∀ k, F j k → k < w.heap.size := fun j hj k hk => (os[j]).own.lt (h.ob j _ (List.getElem?_eq_getElem hj)) k hk
    intro y hx' hy
    try simp only at hx' hy
    by_cases e : j = i
    · rw [if_pos e] at hx'
      have e2 : ¬ k = i := fun e2 => hjk (e.trans e2.symm)
      rw [if_neg e2] at hy
      rcases hu.foot y hx' with h1 | h1
      · exact h.ap i k (Ne.symm e2) hil hk y h1 hy
      · have := hlt k hk y hy; omega
    · rw [if_neg e] at hx'
      by_cases e2 : k = i
      · rw [if_pos e2] at hy
        rcases hu.foot y hy with h1 | h1
        · exact h.ap i j (Ne.symm e) hil hj y h1 hx'
        · have := hlt j hj y hx'; omega
      · rw [if_neg e2] at hy
        exact h.ap j k hjk hj hk y hx' hy
  · intro j hj k hk
    rw [List.length_set] at hj
    try simp only at hk
    by_cases e : j = i
    · rw [if_pos e] at hk
      rcases hu.foot k hk with h1 | h1
      · exact h.lo i hil k h1
      · have := h.bl.size; have := h.hB; omega
    · rw [if_neg e] at hk
      exact h.lo j hj k hk
  · intro j hj
    try simp only
    by_cases e : j = i
    · rw [if_pos e]
      intro hx'
      rcases hu.foot x hx' with h1 | h1
      · exact hn i (e ▸ hj) h1
      · omega
    · rw [if_neg e]
      exact hn j hj
/-- A block of memory that no object holds. -/
theorem Objs.not (h : Objs w0 w B os F) {i : Nat} (hi : i < os.length) {k : Nat} (hk : k < B) : ¬ F i k := fun e => by have := h.lo i hi k e; omega
theorem Objs.lt (h : Objs w0 w B os F) {i : Nat} (hi : i < os.length) {k : Nat} (e : F i k) : k < w.heap.size := (os[i]).own.lt (h.ob i _ (List.getElem?_eq_getElem hi)) k e
end
end Go.Proofs.Ytgahopkbgefjdaa

namespace Go.Proofs.Ytgahopkbgefjdaa
open Go.ChangeShapes Go.WideShapes Go.ChangeAt Go.RowKit Go.Shelf Go.Lib Go.Sort Go.Proofs
set_option linter.unusedVariables false
set_option linter.unusedSimpArgs false

theorem dmerge_nil {w : World} {cb : Nat} : Calls Try.prog 18 #[.pointer (some ⟨cb, 0, none⟩), .pointer none] w fun e w' => e = .returned (.bool false) ∧ Below w.heap.size w w' := by
  go_enter Try.func18, Try.ntmps18
  go_wp2_with fail
  go_quiet (fail)
  go_wp2
  go_ret
  exact ⟨rfl, below_drewN (Below.refl _ _) _⟩
set_option maxHeartbeats 1000000 in
theorem dmerge_other {w : World} {cb ob : Nat} {F G : Nat → Prop} {hf hf2 c1 c2 : Int} {h1 h2 : List AddD} (h : DecObj w cb F hf c1 h1) (k : DecObj w ob G hf2 c2 h2) (hne : hf2 ≠ hf) :
    Calls Try.prog 18 #[.pointer (some ⟨cb, 0, none⟩), .pointer (some ⟨ob, 0, none⟩)] w fun e w' => e = .returned (.bool false) ∧ Below w.heap.size w w' := by
  obtain ⟨bs, S, R, hD, _⟩ := h
  obtain ⟨bo, So, Ro, kD, _⟩ := k
  obtain ⟨x0, x1, x2⟩ := cell_of_dec hD
  obtain ⟨d0, d1, d2⟩ := cell_of_dec kD
  have hne1 : (hf2 != hf) = true := by simpa using hne
  clear hne hD kD
  go_enter Try.func18, Try.ntmps18
  go_wp2_with fail
  go_quiet (fail)
  go_wp2
  go_ret
  exact ⟨rfl, below_drewN (Below.refl _ _) _⟩
theorem dmerge_self (cb : Nat) (F : Nat → Prop) (hf cnt : Int) (hist : List AddD) (w : World) (h : DecObj w cb F hf cnt hist) (hct : cnt + cnt ≤ 1048576) :
    Calls Try.prog 18 #[.pointer (some ⟨cb, 0, none⟩), .pointer (some ⟨cb, 0, none⟩)] w fun e w' => e = .returned (.bool true) ∧ ∃ F', DecObj w' cb F' hf (cnt + cnt) (hist ++ hist) ∧ Upd F w F' w' := by
  obtain ⟨bs, S, R, hD, hI, rfl, h1, h2⟩ := h
  obtain ⟨o0, o1, o2⟩ := cell_of_dec hD
  refine (dmerge_any cb bs cb bs hf cnt cnt S S R R hist hist w hD hI o0 o1 o2 hD.sums hI (fun p hp => .inl ⟨hp, rfl⟩) hct h1 h2 (fun e => hD.cb_ne.1 e.symm) (fun p hp e => hD.cb_ne.2 p hp e)).mono ?_
  rintro e w' ⟨rfl, S', R', hD', hI', hK, hF⟩
  exact ⟨rfl, _, ⟨bs, S', R', hD', hI', rfl, h1, h2⟩, hK, hF⟩

/-! ### plain -/
/-- What of l, from number i on, is dealt to j. -/
def dealP : Nat → List AddD → Nat → List AddD
  | _, [], _ => []
  | i, a :: l, j => (if i % 3 = j then [a].filter addOk else []) ++ dealP (i + 1) l j
theorem dealP_snoc (a : AddD) (j : Nat) : ∀ (i : Nat) (l : List AddD), dealP i (l ++ [a]) j = dealP i l j ++ (if (i + l.length) % 3 = j then [a].filter addOk else [])
  | i, [] => by simp [dealP]
  | i, b :: l => by
    rw [List.cons_append, dealP, dealP, dealP_snoc a j (i + 1) l, List.append_assoc, List.length_cons, show i + 1 + l.length = i + (l.length + 1) by omega]
theorem dealP_len (j : Nat) : ∀ (i : Nat) (l : List AddD), (dealP i l j).length ≤ l.length
  | _, [] => by simp [dealP]
  | i, a :: l => by
    have := dealP_len j (i + 1) l
    have h2 : ([a].filter addOk).length ≤ 1 := List.length_filter_le _ _
    rw [dealP, List.length_append, List.length_cons]
    split
    · omega
    · simp; omega
theorem cntV_app (hf : Int) (l m : List AddD) (k : ByteArray) (now : Int) : cntV hf (l ++ m) k now = cntV hf l k now + cntV hf m k now := by
  unfold cntV
  split
  · rfl
  · exact histSum_append _ _ _ _
theorem cntV_nil (hf : Int) (k : ByteArray) (now : Int) : cntV hf [] k now = 0 := by unfold cntV; split <;> simp [histSum]
theorem deal_sum (hf : Int) (k : ByteArray) (now : Int) : ∀ (i : Nat) (l : List AddD), cntV hf (dealP i l 0) k now + cntV hf (dealP i l 1) k now + cntV hf (dealP i l 2) k now = cntV hf (l.filter addOk) k now
  | _, [] => by simp [dealP, cntV_nil]
  | i, a :: l => by
    have ih := deal_sum hf k now (i + 1) l
    have e : (a :: l).filter addOk = [a].filter addOk ++ l.filter addOk := by rw [← List.filter_append]; rfl
    rw [e, dealP, dealP, dealP, cntV_app, cntV_app, cntV_app, cntV_app, ← ih]
    have h3 : i % 3 = 0 ∨ i % 3 = 1 ∨ i % 3 = 2 := by omega
    rcases h3 with h | h | h <;> simp [h, cntV_nil] <;> omega

/-- A counter, a counter of the reference's, as objects. -/
def dO (cb : Nat) (hf cnt : Int) (hist : List AddD) : Ob1 := ⟨fun w F => DecObj w cb F hf cnt hist, DecObj.own cb hf cnt hist⟩
def rO (mb : Nat) (hf cnt : Int) (L : List AddD) : Ob1 := ⟨fun w F => RcO w mb F hf cnt L, RcO.own mb hf cnt L⟩
end Go.Proofs.Ytgahopkbgefjdaa

namespace Go.Proofs.Ytgahopkbgefjdaa
open Go.ChangeShapes Go.WideShapes Go.ChangeAt Go.RowKit Go.Shelf Go.Lib Go.Sort Go.Proofs
set_option linter.unusedVariables false
set_option linter.unusedSimpArgs false

/-- A block that stays as it is. -/
def kO (pb : Nat) (o : Obj) : Ob1 := ⟨fun w F => F = (fun k => k = pb) ∧ w.heap[pb]? = some o, ⟨by
  rintro w w' F G ⟨rfl, h⟩ hk hd
  exact ⟨rfl, (hk.block pb (Array.getElem?_eq_some_iff.1 h).1 (hd pb rfl)).trans h⟩, by
  rintro w F ⟨rfl, h⟩ k rfl
  exact (Array.getElem?_eq_some_iff.1 h).1⟩⟩
def parts3 (p0 p1 p2 : Nat) : Obj := .cells #[.pointer (some ⟨p0, 0, none⟩), .pointer (some ⟨p1, 0, none⟩), .pointer (some ⟨p2, 0, none⟩)] 27
theorem parts_cells {w : World} {pb p0 p1 p2 : Nat} {F : Nat → Prop} (h : (kO pb (parts3 p0 p1 p2)).R w F) :
    w.cell? ⟨pb, 0, none⟩ = some (.pointer (some ⟨p0, 0, none⟩)) ∧ w.cell? ⟨pb, 1, none⟩ = some (.pointer (some ⟨p1, 0, none⟩)) ∧ w.cell? ⟨pb, 2, none⟩ = some (.pointer (some ⟨p2, 0, none⟩)) := by
  have h2 : w.heap[pb]? = some (parts3 p0 p1 p2) := h.2
  unfold parts3 at h2
  refine ⟨?_, ?_, ?_⟩ <;> simp [World.cell?, h2]

/-- The objects behind adds. -/
def MOs (ab p0 p1 p2 pb : Nat) (hf : Int) (al : List AddD) : List Ob1 :=
  [rO ab hf ((al.filter addOk).length : Int) (al.filter addOk), dO p0 hf ((dealP 0 al 0).length : Int) (dealP 0 al 0), dO p1 hf ((dealP 0 al 1).length : Int) (dealP 0 al 1), dO p2 hf ((dealP 0 al 2).length : Int) (dealP 0 al 2), kO pb (parts3 p0 p1 p2)]
theorem cnt_step (L : List AddD) (a : AddD) : (if addOk a = true then (L.length : Int) + 1 else L.length) = ((L ++ [a].filter addOk).length : Int) := by
  by_cases h : addOk a = true <;> simp [h]
theorem fil_step (al : List AddD) (a : AddD) : (al ++ [a]).filter addOk = al.filter addOk ++ [a].filter addOk := List.filter_append ..
theorem deal_yes (al : List AddD) (a : AddD) {j : Nat} (h : al.length % 3 = j) : dealP 0 (al ++ [a]) j = dealP 0 al j ++ [a].filter addOk := by rw [dealP_snoc, Nat.zero_add, if_pos h]
theorem deal_no (al : List AddD) (a : AddD) {j : Nat} (h : ¬ al.length % 3 = j) : dealP 0 (al ++ [a]) j = dealP 0 al j := by rw [dealP_snoc, Nat.zero_add, if_neg h, List.append_nil]

set_option maxRecDepth 20000 in
set_option maxHeartbeats 16000000 in
theorem merges11_walk (half : Int) (A : Option Addr) (c : Nat) (l : List DeedD) (key : ByteArray) (now : Int) (w : World) (hA : DeedsAt w w.heap.size A l) (hlen : (l.length : Int) ≤ 9223372036854775807) (hk : key.size ≤ maxLen) (hnow : I64 now) :
    Calls Try.prog 5 #[.int .i64 half, .slice A l.length c, .string key, .int .i64 now] w fun e w' => e = .returned (.bool true) ∧ Below w.heap.size w w' := by
  have HL := Lib.hid hA
  obtain ⟨hn0, hn1⟩ := hnow
  clear hA
  by_cases g : heavyB l 40 = true ∨ 100 < (key.size : Int) ∨ half < 1 ∨ 1099511627776 < half
  · by_cases g0x : heavyB l 40 = true
    · go_enter Try.func5, Try.ntmps5
      go_wp2_with fail
      refine (lives_any _).mono ?_
      rintro e w1 ⟨rfl, hb1⟩
      go_wp2_with fail
      refine (heavy_any A c l 40 _ ((HL.out.below hb1).more hb1.size) hlen).mono ?_
      rintro e w2 ⟨rfl, rfl⟩
      rw [g0x]
      go_wp2
      go_ret
      exact ⟨rfl, hb1⟩
    · have g0' : heavyB l 40 = false := by simpa using g0x
      by_cases g0 : 100 < (key.size : Int)
      · go_enter Try.func5, Try.ntmps5
        go_wp2_with fail
        refine (lives_any _).mono ?_
        rintro e w1 ⟨rfl, hb1⟩
        go_wp2_with fail
        refine (heavy_any A c l 40 _ ((HL.out.below hb1).more hb1.size) hlen).mono ?_
        rintro e w2 ⟨rfl, rfl⟩
        rw [g0']
        go_wp2
        go_ret
        exact ⟨rfl, hb1⟩
      · by_cases g1 : half < 1
        · go_enter Try.func5, Try.ntmps5
          go_wp2_with fail
          refine (lives_any _).mono ?_
          rintro e w1 ⟨rfl, hb1⟩
          go_wp2_with fail
          refine (heavy_any A c l 40 _ ((HL.out.below hb1).more hb1.size) hlen).mono ?_
          rintro e w2 ⟨rfl, rfl⟩
          rw [g0']
          go_wp2
          go_ret
          exact ⟨rfl, hb1⟩
        · have g2 : 1099511627776 < half := by
            rcases g with g | g | g | g
            · exact absurd g g0x
            · exact absurd g g0
            · exact absurd g g1
            · exact g
          go_enter Try.func5, Try.ntmps5
          go_wp2_with fail
          refine (lives_any _).mono ?_
          rintro e w1 ⟨rfl, hb1⟩
          go_wp2_with fail
          refine (heavy_any A c l 40 _ ((HL.out.below hb1).more hb1.size) hlen).mono ?_
          rintro e w2 ⟨rfl, rfl⟩
          rw [g0']
          go_wp2
          go_ret
          exact ⟨rfl, hb1⟩
  · have g1' : heavyB l 40 = false := by simpa using fun h => g (.inl h)
    have g2 : ¬ 100 < (key.size : Int) := fun h => g (.inr (.inl h))
    have g3 : ¬ half < 1 := fun h => g (.inr (.inr (.inl h)))
    have g4 : ¬ 1099511627776 < half := fun h => g (.inr (.inr (.inr h)))
    have hL := (heavyB_no g1').1
    have HKS := Lib.hid (heavyB_no g1').2
    have HKY : Hid (strOk key) := Lib.hid hk
    have hho : halfOf half = half := by unfold halfOf; omega
    have HHO := Lib.hid hho
    clear g hk hho
    go_enter Try.func5, Try.ntmps5
    go_wp2_with fail
    refine (lives_any _).mono ?_
    rintro e w1 ⟨rfl, hb1⟩
    go_wp2_with fail
    refine (heavy_any A c l 40 _ ((HL.out.below hb1).more hb1.size) hlen).mono ?_
    rintro e w2 ⟨rfl, rfl⟩
    rw [g1']
    have hos0 := Objs.nil (B := w.heap.size) (Nat.le_refl _) hb1
    obtain ⟨F0, hos1⟩ := hos0.new (rO w1.heap.size half 0 []) (w' := w1.alloc (.cells #[.int .i64 half, .slice none 0 0, .int .i64 0] 39)) ((Below.refl _ _).alloc (Nat.le_refl _) _) (F' := fun k => k = w1.heap.size ∨ rowF none k)
      (show RcO _ _ _ half 0 [] from ⟨none, 0, ⟨heap_alloc_new w1 _, Reads.none_, fun _ => rfl, (fun ⟨o, sp, e⟩ => by cases e), (fun k ⟨o, sp, e⟩ => by cases e)⟩, rfl⟩) (by
        rintro k (rfl | ⟨o, sp, e⟩)
        · exact Nat.le_refl _
        · cases e)
    simp only [List.nil_append] at hos1
    clear hos0 hb1
    go_wp2_with fail
    generalize hab : w1.heap.size = ab at *
    clear hab
    generalize w1.alloc (.cells #[.int .i64 half, .slice none 0 0, .int .i64 0] 39) = W1 at *
    refine (dnew_any half _).mono ?_
    rintro e w2 ⟨p0, Fa, rfl, hD, hF, hb2⟩
    rw [HHO.out] at hD
    obtain ⟨F2, hos2⟩ := hos1.new (dO p0 half 0 []) hb2 hD hF
    clear hos1 hD hF hb2
    go_wp2_with fail
    refine (dnew_any half _).mono ?_
    rintro e w3 ⟨p1, Fb, rfl, hD, hF, hb2⟩
    rw [HHO.out] at hD
    obtain ⟨F3, hos3⟩ := hos2.new (dO p1 half 0 []) hb2 hD hF
    clear hos2 hD hF hb2
    go_wp2_with fail
    refine (dnew_any half _).mono ?_
    rintro e w4 ⟨p2, Fc, rfl, hD, hF, hb2⟩
    rw [HHO.out] at hD
    obtain ⟨F4, hos4⟩ := hos3.new (dO p2 half 0 []) hb2 hD hF
    clear hos3 hD hF hb2
    have hbp : Below w4.heap.size w4 (w4.alloc (parts3 p0 p1 p2)) := (Below.refl _ _).alloc (Nat.le_refl _) _
    obtain ⟨F5, hos5⟩ := hos4.new (kO w4.heap.size (parts3 p0 p1 p2)) hbp (F' := fun k => k = w4.heap.size) ⟨rfl, heap_alloc_new w4 _⟩ (fun k e => by rw [e]; exact Nat.le_refl _)
    have hos : Objs w (w4.alloc (parts3 p0 p1 p2)) w.heap.size (MOs ab p0 p1 p2 w4.heap.size half []) F5 := hos5
    have HOS0 : Hid (∃ F, Objs w (w4.alloc (parts3 p0 p1 p2)) w.heap.size (MOs ab p0 p1 p2 w4.heap.size half []) F) := Lib.hid ⟨F5, hos⟩
    have hpe : w4.alloc (.cells #[.pointer (some ⟨p0, 0, none⟩), .pointer (some ⟨p1, 0, none⟩), .pointer (some ⟨p2, 0, none⟩)] 27) = w4.alloc (parts3 p0 p1 p2) := rfl
    clear hos4 hos5 hos hbp
    go_wp2_with fail
    (try rw [hpe])
    clear hpe
    generalize w4.alloc (parts3 p0 p1 p2) = W5 at *
    generalize w4.heap.size = pb at *
    go_loopg [11] l.length (fun rest i wr => ∃ (k : Nat), i = .int .i64 k ∧ Hid (k + rest = l.length) ∧ Hid (∃ F, Objs w wr w.heap.size (MOs ab p0 p1 p2 pb half (adds (l.take k))) F))
    case atStart => exact ⟨0, rfl, Lib.hid (by simp), Lib.hid (by rw [List.take_zero]; exact HOS0.out)⟩
    case round =>
      clear HOS0
      obtain ⟨k, rfl, HK, HO⟩ := hrel
      by_cases hk' : (k : Int) < (l.length : Int)
      · have hkl : k < l.length := by omega
        obtain ⟨Fo, hos⟩ := HO.out
        obtain ⟨b, o, rfl, hbl, e0, e1, e2, e3, e4⟩ := (HL.out.below hos.bl).one hkl
        have HKT := Lib.hid (adds_take l k hkl)
        have hal : (adds (l.take k)).length = k := by unfold adds; rw [List.length_map, List.length_take]; omega
        have hsz := HKS.out _ (List.getElem_mem hkl)
        generalize l[k] = d at *
        generalize adds (l.take k) = al at *
        obtain ⟨kind, a, nw⟩ := d
        simp only at hsz e0 e1 e2 e3 e4 HKT
        clear e0 e4
        have hfl : ((al.filter addOk).length : Int) ≤ 100 := by have := List.length_filter_le addOk al; omega
        have hdl := fun j => dealP_len j 0 al
        have hd0 : ((dealP 0 al 0).length : Int) ≤ 100 := by have := hdl 0; omega
        have hd1 : ((dealP 0 al 1).length : Int) ≤ 100 := by have := hdl 1; omega
        have hd2 : ((dealP 0 al 2).length : Int) ≤ 100 := by have := hdl 2; omega
        obtain ⟨Wa, hWa⟩ : ∃ Wa, Wa = wr.alloc (.cells #[.string a.key, .int .i64 a.at_, .int .i64 a.n] 30) := ⟨_, rfl⟩
        have hba : Below wr.heap.size wr Wa := by rw [hWa]; exact (Below.refl _ _).alloc (Nat.le_refl _) _
        have b0 : Wa.cell? ⟨wr.heap.size, 0, none⟩ = some (.string a.key) := by rw [hWa]; simp
        have b1 : Wa.cell? ⟨wr.heap.size, 1, none⟩ = some (.int .i64 a.at_) := by rw [hWa]; simp
        have b2 : Wa.cell? ⟨wr.heap.size, 2, none⟩ = some (.int .i64 a.n) := by rw [hWa]; simp
        have hab : wr.heap.size < Wa.drew.heap.size := by rw [hWa]; simp
        have hbd : Below wr.heap.size wr Wa.drew := hba.drew
        have hnb : ∀ i, i < 5 → ¬ Fo i wr.heap.size := fun i hi e => absurd (hos.lt (by simpa [MOs] using hi) e) (Nat.lt_irrefl _)
        have HOD := Lib.hid (hos.below hbd)
        have HNB := Lib.hid hnb
        obtain ⟨q0, q1, q2⟩ := parts_cells (HOD.out.get (i := 4) rfl)
        have HAL := Lib.hid hal
        clear hos hbd hba hnb hdl hal HO
        have h3 : k % 3 = 0 ∨ k % 3 = 1 ∨ k % 3 = 2 := by omega
        rcases h3 with h3 | h3 | h3
        · have hmod : ((k : Nat) : Int).tmod 3 = 0 := by rw [Int.tmod_eq_emod_of_nonneg (by omega)]; omega
          have HQ : Wa.drew.cell? ⟨wr.heap.size, 0, none⟩ = some (.string a.key) ∧ Wa.drew.cell? ⟨wr.heap.size, 1, none⟩ = some (.int .i64 a.at_) ∧ Wa.drew.cell? ⟨wr.heap.size, 2, none⟩ = some (.int .i64 a.n) ∧ Wa.drew.cell? ⟨pb, 0, none⟩ = some (.pointer (some ⟨p0, 0, none⟩)) := ⟨b0, b1, b2, q0⟩
          clear b0 b1 b2 q0 q1 q2
          go_wp2_with fail
          rw [← hWa]
          clear hWa
          refine heldStart 16 (S := fun W => W.cell? ⟨wr.heap.size, 0, none⟩ = some (.string a.key) ∧ W.cell? ⟨wr.heap.size, 1, none⟩ = some (.int .i64 a.at_) ∧ W.cell? ⟨wr.heap.size, 2, none⟩ = some (.int .i64 a.n) ∧ W.cell? ⟨pb, 0, none⟩ = some (.pointer (some ⟨p0, 0, none⟩))) (by kernel_rfl) ?_ (fun hHeld => ?_)
          · exact HQ
          refine heldTake 0 (v := ?_) (by simp only [List.getElem?_toArray, List.getElem?_cons_succ, List.getElem?_cons_zero]; rfl) (by kernel_rfl) (by intro _ _ _ h; exact h) (by rfl) (by assumption) ?_ ?_
          rotate_left
          · intro W hSw; (try dsimp only at hSw); go_simp; try with_reducible rfl
          simp only [Act.put, List.setIfInBounds_toArray, List.set_cons_zero, List.set_cons_succ]
          refine heldTake 1 (v := ?_) (by simp only [List.getElem?_toArray, List.getElem?_cons_succ, List.getElem?_cons_zero]; rfl) (by kernel_rfl) (by intro _ _ _ h; exact h) (by rfl) (by assumption) ?_ ?_
          rotate_left
          · intro W hSw; (try dsimp only at hSw); go_simp; try with_reducible rfl
          simp only [Act.put, List.setIfInBounds_toArray, List.set_cons_zero, List.set_cons_succ]
          refine heldTake 3 (v := ?_) (by simp only [List.getElem?_toArray, List.getElem?_cons_succ, List.getElem?_cons_zero]; rfl) (by kernel_rfl) (by intro _ _ _ h; exact h) (by rfl) (by assumption) ?_ ?_
          rotate_left
          · intro W hSw; (try dsimp only at hSw); go_simp; try with_reducible rfl
          simp only [Act.put, List.setIfInBounds_toArray, List.set_cons_zero, List.set_cons_succ]
          refine heldTake 4 (v := ?_) (by simp only [List.getElem?_toArray, List.getElem?_cons_succ, List.getElem?_cons_zero]; rfl) (by kernel_rfl) (by intro _ _ _ h; exact h) (by rfl) (by assumption) ?_ ?_
          rotate_left
          · intro W hSw; (try dsimp only at hSw); go_simp; try with_reducible rfl
          simp only [Act.put, List.setIfInBounds_toArray, List.set_cons_zero, List.set_cons_succ]
          refine heldTake 5 (v := ?_) (by simp only [List.getElem?_toArray, List.getElem?_cons_succ, List.getElem?_cons_zero]; rfl) (by kernel_rfl) (by intro _ _ _ h; exact h) (by rfl) (by assumption) ?_ ?_
          rotate_left
          · intro W hSw; (try dsimp only at hSw); go_simp; try with_reducible rfl
          simp only [Act.put, List.setIfInBounds_toArray, List.set_cons_zero, List.set_cons_succ]
          refine heldTake 6 (v := ?_) (by simp only [List.getElem?_toArray, List.getElem?_cons_succ, List.getElem?_cons_zero]; rfl) (by kernel_rfl) (by intro _ _ _ h; exact h) (by rfl) (by assumption) ?_ ?_
          rotate_left
          · intro W hSw; (try dsimp only at hSw); go_simp; try with_reducible rfl
          simp only [Act.put, List.setIfInBounds_toArray, List.set_cons_zero, List.set_cons_succ]
          refine heldTake 7 (v := ?_) (by simp only [List.getElem?_toArray, List.getElem?_cons_succ, List.getElem?_cons_zero]; rfl) (by kernel_rfl) (by intro _ _ _ h; exact h) (by rfl) (by assumption) ?_ ?_
          rotate_left
          · intro W hSw; (try dsimp only at hSw); go_simp; try with_reducible rfl
          simp only [Act.put, List.setIfInBounds_toArray, List.set_cons_zero, List.set_cons_succ]
          refine heldTake 8 (v := ?_) (by simp only [List.getElem?_toArray, List.getElem?_cons_succ, List.getElem?_cons_zero]; rfl) (by kernel_rfl) (by intro _ _ _ h; exact h) (by rfl) (by assumption) ?_ ?_
          rotate_left
          · intro W hSw; (try dsimp only at hSw); go_simp; try with_reducible rfl
          simp only [Act.put, List.setIfInBounds_toArray, List.set_cons_zero, List.set_cons_succ]
          refine heldTake 9 (v := ?_) (by simp only [List.getElem?_toArray, List.getElem?_cons_succ, List.getElem?_cons_zero]; rfl) (by kernel_rfl) (by intro _ _ _ h; exact h) (by rfl) (by assumption) ?_ ?_
          rotate_left
          · intro W hSw; (try dsimp only at hSw); go_simp; try with_reducible rfl
          simp only [Act.put, List.setIfInBounds_toArray, List.set_cons_zero, List.set_cons_succ]
          refine heldTake 10 (v := ?_) (by simp only [List.getElem?_toArray, List.getElem?_cons_succ, List.getElem?_cons_zero]; rfl) (by kernel_rfl) (by intro _ _ _ h; exact h) (by rfl) (by assumption) ?_ ?_
          rotate_left
          · intro W hSw; (try dsimp only at hSw); go_simp; try with_reducible rfl
          simp only [Act.put, List.setIfInBounds_toArray, List.set_cons_zero, List.set_cons_succ]
          refine heldTake 11 (v := ?_) (by simp only [List.getElem?_toArray, List.getElem?_cons_succ, List.getElem?_cons_zero]; rfl) (by kernel_rfl) (by intro _ _ _ h; exact h) (by rfl) (by assumption) ?_ ?_
          rotate_left
          · intro W hSw; (try dsimp only at hSw); go_simp; try with_reducible rfl
          simp only [Act.put, List.setIfInBounds_toArray, List.set_cons_zero, List.set_cons_succ]
          refine heldTake 12 (v := ?_) (by simp only [List.getElem?_toArray, List.getElem?_cons_succ, List.getElem?_cons_zero]; rfl) (by kernel_rfl) (by intro _ _ _ h; exact h) (by rfl) (by assumption) ?_ ?_
          rotate_left
          · intro W hSw; (try dsimp only at hSw); go_simp; try with_reducible rfl
          simp only [Act.put, List.setIfInBounds_toArray, List.set_cons_zero, List.set_cons_succ]
          refine heldTake 13 (v := ?_) (by simp only [List.getElem?_toArray, List.getElem?_cons_succ, List.getElem?_cons_zero]; rfl) (by kernel_rfl) (by intro _ _ _ h; exact h) (by rfl) (by assumption) ?_ ?_
          rotate_left
          · intro W hSw; (try dsimp only at hSw); go_simp; try with_reducible rfl
          simp only [Act.put, List.setIfInBounds_toArray, List.set_cons_zero, List.set_cons_succ]
          refine heldCall 2 (by simp only [List.getElem?_toArray, List.getElem?_cons_succ, List.getElem?_cons_zero]; rfl) (by kernel_rfl) (fun K hK => ?_)
          go_simp
          refine (rput11_any ab (Fo 0) half _ _ a _ (HOD.out.get (i := 0) rfl) (by omega) (by omega) (by omega) (by omega)).mono ?_
          rintro r w5 ⟨rfl, F5, hM5, hk5, hg5⟩
          rw [cnt_step] at hM5
          have hF0 : Fo 0 ab := by obtain ⟨A, c, h, e⟩ : RcO _ ab (Fo 0) half _ _ := HOD.out.get (i := 0) rfl; rw [e]; exact .inl rfl
          have hu5 : Upd (Fo 0) Wa.drew F5 w5 := ⟨hk5.mono (fun k _ e => by subst e; exact hF0), hg5⟩
          have h5 : wr.heap.size < w5.heap.size := Nat.lt_of_lt_of_le hab hu5.keeps.size
          have hqq := HQ
          clear HQ
          obtain ⟨G5, hos5, HG5⟩ := HOD.out.upd2 (i := 0) (rO ab half _ _) rfl hu5 hM5 hab HNB.out
          obtain ⟨r0, r1, r2⟩ := parts_cells (hos5.get (i := 4) rfl)
          have HQ : w5.cell? ⟨wr.heap.size, 0, none⟩ = some (.string a.key) ∧ w5.cell? ⟨wr.heap.size, 1, none⟩ = some (.int .i64 a.at_) ∧ w5.cell? ⟨wr.heap.size, 2, none⟩ = some (.int .i64 a.n) ∧ w5.cell? ⟨pb, 0, none⟩ = some (.pointer (some ⟨p0, 0, none⟩)) := ⟨(hu5.keeps.cell (p := ⟨wr.heap.size, 0, none⟩) hab (HNB.out 0 (by omega))).trans hqq.1, (hu5.keeps.cell (p := ⟨wr.heap.size, 1, none⟩) hab (HNB.out 0 (by omega))).trans hqq.2.1, (hu5.keeps.cell (p := ⟨wr.heap.size, 2, none⟩) hab (HNB.out 0 (by omega))).trans hqq.2.2.1, r0⟩
          have hnj : ¬ G5 1 wr.heap.size := HG5 1 (by omega)
          have HOS5 := Lib.hid hos5
          clear hqq r0 r1 r2 hM5 hk5 hg5 hu5 hos5 hF0
          go_wp2_with fail
          refine hK.out _ _ ?_ (fun hHeld => ?_)
          · exact HQ
          clear hK K
          (try simp only [Act.put, List.setIfInBounds_toArray, List.set_cons_zero, List.set_cons_succ])
          refine heldCall 14 (by simp only [List.getElem?_toArray, List.getElem?_cons_succ, List.getElem?_cons_zero]; rfl) (by kernel_rfl) (fun K hK => ?_)
          go_simp
          refine (dadd2_any p0 (G5 1) half _ _ a _ (HOS5.out.get (i := 1) rfl) (by omega)).mono ?_
          rintro r w6 ⟨rfl, F6, hD6, hu6⟩
          rw [cnt_step] at hD6
          have hqq := HQ
          clear HQ
          obtain ⟨G6, hos6⟩ := HOS5.out.upd (i := 1) (dO p0 half _ _) rfl hu6 hD6
          obtain ⟨r0, r1, r2⟩ := parts_cells (hos6.get (i := 4) rfl)
          have HQ : w6.cell? ⟨wr.heap.size, 0, none⟩ = some (.string a.key) ∧ w6.cell? ⟨wr.heap.size, 1, none⟩ = some (.int .i64 a.at_) ∧ w6.cell? ⟨wr.heap.size, 2, none⟩ = some (.int .i64 a.n) ∧ w6.cell? ⟨pb, 0, none⟩ = some (.pointer (some ⟨p0, 0, none⟩)) := ⟨(hu6.keeps.cell (p := ⟨wr.heap.size, 0, none⟩) h5 hnj).trans hqq.1, (hu6.keeps.cell (p := ⟨wr.heap.size, 1, none⟩) h5 hnj).trans hqq.2.1, (hu6.keeps.cell (p := ⟨wr.heap.size, 2, none⟩) h5 hnj).trans hqq.2.2.1, r0⟩
          have HOS6 : Hid (∃ F, Objs w w6 w.heap.size (MOs ab p0 p1 p2 pb half (al ++ [a])) F) := Lib.hid ⟨G6, by
            unfold MOs
            rw [fil_step, deal_yes al a (j := 0) (by have := HAL.out; omega), deal_no al a (j := 1) (by have := HAL.out; omega), deal_no al a (j := 2) (by have := HAL.out; omega)]
            exact hos6⟩
          clear hqq r0 r1 r2 hD6 hu6 hos6 hnj
          generalize addOk a = bb at *
          go_wp2_with fail
          refine hK.out _ _ ?_ (fun hHeld => ?_)
          · exact HQ
          clear hK K
          (try simp only [Act.put, List.setIfInBounds_toArray, List.set_cons_zero, List.set_cons_succ])
          refine heldTake 15 (v := ?_) (by simp only [List.getElem?_toArray, List.getElem?_cons_succ, List.getElem?_cons_zero]; rfl) (by kernel_rfl) (by intro _ _ _ h; exact h) (by rfl) (by assumption) ?_ ?_
          rotate_left
          · intro W hSw; (try dsimp only at hSw); go_simp; try with_reducible rfl
          simp only [Act.put, List.setIfInBounds_toArray, List.set_cons_zero, List.set_cons_succ]
          refine heldDone (by kernel_rfl) ?_ _
          clear HQ hHeld
          go_wp2
          go_roundg (gk - 1)
          case measure => have := HK.out; omega
          case rel => exact ⟨k + 1, by go_num, Lib.hid (by have := HK.out; omega), Lib.hid (by rw [HKT.out]; exact HOS6.out)⟩
        · have hmod : ((k : Nat) : Int).tmod 3 = 1 := by rw [Int.tmod_eq_emod_of_nonneg (by omega)]; omega
          have HQ : Wa.drew.cell? ⟨wr.heap.size, 0, none⟩ = some (.string a.key) ∧ Wa.drew.cell? ⟨wr.heap.size, 1, none⟩ = some (.int .i64 a.at_) ∧ Wa.drew.cell? ⟨wr.heap.size, 2, none⟩ = some (.int .i64 a.n) ∧ Wa.drew.cell? ⟨pb, 1, none⟩ = some (.pointer (some ⟨p1, 0, none⟩)) := ⟨b0, b1, b2, q1⟩
          clear b0 b1 b2 q0 q1 q2
          go_wp2_with fail
          rw [← hWa]
          clear hWa
          refine heldStart 16 (S := fun W => W.cell? ⟨wr.heap.size, 0, none⟩ = some (.string a.key) ∧ W.cell? ⟨wr.heap.size, 1, none⟩ = some (.int .i64 a.at_) ∧ W.cell? ⟨wr.heap.size, 2, none⟩ = some (.int .i64 a.n) ∧ W.cell? ⟨pb, 1, none⟩ = some (.pointer (some ⟨p1, 0, none⟩))) (by kernel_rfl) ?_ (fun hHeld => ?_)
          · exact HQ
          refine heldTake 0 (v := ?_) (by simp only [List.getElem?_toArray, List.getElem?_cons_succ, List.getElem?_cons_zero]; rfl) (by kernel_rfl) (by intro _ _ _ h; exact h) (by rfl) (by assumption) ?_ ?_
          rotate_left
          · intro W hSw; (try dsimp only at hSw); go_simp; try with_reducible rfl
          simp only [Act.put, List.setIfInBounds_toArray, List.set_cons_zero, List.set_cons_succ]
          refine heldTake 1 (v := ?_) (by simp only [List.getElem?_toArray, List.getElem?_cons_succ, List.getElem?_cons_zero]; rfl) (by kernel_rfl) (by intro _ _ _ h; exact h) (by rfl) (by assumption) ?_ ?_
          rotate_left
          · intro W hSw; (try dsimp only at hSw); go_simp; try with_reducible rfl
          simp only [Act.put, List.setIfInBounds_toArray, List.set_cons_zero, List.set_cons_succ]
          refine heldTake 3 (v := ?_) (by simp only [List.getElem?_toArray, List.getElem?_cons_succ, List.getElem?_cons_zero]; rfl) (by kernel_rfl) (by intro _ _ _ h; exact h) (by rfl) (by assumption) ?_ ?_
          rotate_left
          · intro W hSw; (try dsimp only at hSw); go_simp; try with_reducible rfl
          simp only [Act.put, List.setIfInBounds_toArray, List.set_cons_zero, List.set_cons_succ]
          refine heldTake 4 (v := ?_) (by simp only [List.getElem?_toArray, List.getElem?_cons_succ, List.getElem?_cons_zero]; rfl) (by kernel_rfl) (by intro _ _ _ h; exact h) (by rfl) (by assumption) ?_ ?_
          rotate_left
          · intro W hSw; (try dsimp only at hSw); go_simp; try with_reducible rfl
          simp only [Act.put, List.setIfInBounds_toArray, List.set_cons_zero, List.set_cons_succ]
          refine heldTake 5 (v := ?_) (by simp only [List.getElem?_toArray, List.getElem?_cons_succ, List.getElem?_cons_zero]; rfl) (by kernel_rfl) (by intro _ _ _ h; exact h) (by rfl) (by assumption) ?_ ?_
          rotate_left
          · intro W hSw; (try dsimp only at hSw); go_simp; try with_reducible rfl
          simp only [Act.put, List.setIfInBounds_toArray, List.set_cons_zero, List.set_cons_succ]
          refine heldTake 6 (v := ?_) (by simp only [List.getElem?_toArray, List.getElem?_cons_succ, List.getElem?_cons_zero]; rfl) (by kernel_rfl) (by intro _ _ _ h; exact h) (by rfl) (by assumption) ?_ ?_
          rotate_left
          · intro W hSw; (try dsimp only at hSw); go_simp; try with_reducible rfl
          simp only [Act.put, List.setIfInBounds_toArray, List.set_cons_zero, List.set_cons_succ]
          refine heldTake 7 (v := ?_) (by simp only [List.getElem?_toArray, List.getElem?_cons_succ, List.getElem?_cons_zero]; rfl) (by kernel_rfl) (by intro _ _ _ h; exact h) (by rfl) (by assumption) ?_ ?_
          rotate_left
          · intro W hSw; (try dsimp only at hSw); go_simp; try with_reducible rfl
          simp only [Act.put, List.setIfInBounds_toArray, List.set_cons_zero, List.set_cons_succ]
          refine heldTake 8 (v := ?_) (by simp only [List.getElem?_toArray, List.getElem?_cons_succ, List.getElem?_cons_zero]; rfl) (by kernel_rfl) (by intro _ _ _ h; exact h) (by rfl) (by assumption) ?_ ?_
          rotate_left
          · intro W hSw; (try dsimp only at hSw); go_simp; try with_reducible rfl
          simp only [Act.put, List.setIfInBounds_toArray, List.set_cons_zero, List.set_cons_succ]
          refine heldTake 9 (v := ?_) (by simp only [List.getElem?_toArray, List.getElem?_cons_succ, List.getElem?_cons_zero]; rfl) (by kernel_rfl) (by intro _ _ _ h; exact h) (by rfl) (by assumption) ?_ ?_
          rotate_left
          · intro W hSw; (try dsimp only at hSw); go_simp; try with_reducible rfl
          simp only [Act.put, List.setIfInBounds_toArray, List.set_cons_zero, List.set_cons_succ]
          refine heldTake 10 (v := ?_) (by simp only [List.getElem?_toArray, List.getElem?_cons_succ, List.getElem?_cons_zero]; rfl) (by kernel_rfl) (by intro _ _ _ h; exact h) (by rfl) (by assumption) ?_ ?_
          rotate_left
          · intro W hSw; (try dsimp only at hSw); go_simp; try with_reducible rfl
          simp only [Act.put, List.setIfInBounds_toArray, List.set_cons_zero, List.set_cons_succ]
          refine heldTake 11 (v := ?_) (by simp only [List.getElem?_toArray, List.getElem?_cons_succ, List.getElem?_cons_zero]; rfl) (by kernel_rfl) (by intro _ _ _ h; exact h) (by rfl) (by assumption) ?_ ?_
          rotate_left
          · intro W hSw; (try dsimp only at hSw); go_simp; try with_reducible rfl
          simp only [Act.put, List.setIfInBounds_toArray, List.set_cons_zero, List.set_cons_succ]
          refine heldTake 12 (v := ?_) (by simp only [List.getElem?_toArray, List.getElem?_cons_succ, List.getElem?_cons_zero]; rfl) (by kernel_rfl) (by intro _ _ _ h; exact h) (by rfl) (by assumption) ?_ ?_
          rotate_left
          · intro W hSw; (try dsimp only at hSw); go_simp; try with_reducible rfl
          simp only [Act.put, List.setIfInBounds_toArray, List.set_cons_zero, List.set_cons_succ]
          refine heldTake 13 (v := ?_) (by simp only [List.getElem?_toArray, List.getElem?_cons_succ, List.getElem?_cons_zero]; rfl) (by kernel_rfl) (by intro _ _ _ h; exact h) (by rfl) (by assumption) ?_ ?_
          rotate_left
          · intro W hSw; (try dsimp only at hSw); go_simp; try with_reducible rfl
          simp only [Act.put, List.setIfInBounds_toArray, List.set_cons_zero, List.set_cons_succ]
          refine heldCall 2 (by simp only [List.getElem?_toArray, List.getElem?_cons_succ, List.getElem?_cons_zero]; rfl) (by kernel_rfl) (fun K hK => ?_)
          go_simp
          refine (rput11_any ab (Fo 0) half _ _ a _ (HOD.out.get (i := 0) rfl) (by omega) (by omega) (by omega) (by omega)).mono ?_
          rintro r w5 ⟨rfl, F5, hM5, hk5, hg5⟩
          rw [cnt_step] at hM5
          have hF0 : Fo 0 ab := by obtain ⟨A, c, h, e⟩ : RcO _ ab (Fo 0) half _ _ := HOD.out.get (i := 0) rfl; rw [e]; exact .inl rfl
          have hu5 : Upd (Fo 0) Wa.drew F5 w5 := ⟨hk5.mono (fun k _ e => by subst e; exact hF0), hg5⟩
          have h5 : wr.heap.size < w5.heap.size := Nat.lt_of_lt_of_le hab hu5.keeps.size
          have hqq := HQ
          clear HQ
          obtain ⟨G5, hos5, HG5⟩ := HOD.out.upd2 (i := 0) (rO ab half _ _) rfl hu5 hM5 hab HNB.out
          obtain ⟨r0, r1, r2⟩ := parts_cells (hos5.get (i := 4) rfl)
          have HQ : w5.cell? ⟨wr.heap.size, 0, none⟩ = some (.string a.key) ∧ w5.cell? ⟨wr.heap.size, 1, none⟩ = some (.int .i64 a.at_) ∧ w5.cell? ⟨wr.heap.size, 2, none⟩ = some (.int .i64 a.n) ∧ w5.cell? ⟨pb, 1, none⟩ = some (.pointer (some ⟨p1, 0, none⟩)) := ⟨(hu5.keeps.cell (p := ⟨wr.heap.size, 0, none⟩) hab (HNB.out 0 (by omega))).trans hqq.1, (hu5.keeps.cell (p := ⟨wr.heap.size, 1, none⟩) hab (HNB.out 0 (by omega))).trans hqq.2.1, (hu5.keeps.cell (p := ⟨wr.heap.size, 2, none⟩) hab (HNB.out 0 (by omega))).trans hqq.2.2.1, r1⟩
          have hnj : ¬ G5 2 wr.heap.size := HG5 2 (by omega)
          have HOS5 := Lib.hid hos5
          clear hqq r0 r1 r2 hM5 hk5 hg5 hu5 hos5 hF0
          go_wp2_with fail
          refine hK.out _ _ ?_ (fun hHeld => ?_)
          · exact HQ
          clear hK K
          (try simp only [Act.put, List.setIfInBounds_toArray, List.set_cons_zero, List.set_cons_succ])
          refine heldCall 14 (by simp only [List.getElem?_toArray, List.getElem?_cons_succ, List.getElem?_cons_zero]; rfl) (by kernel_rfl) (fun K hK => ?_)
          go_simp
          refine (dadd2_any p1 (G5 2) half _ _ a _ (HOS5.out.get (i := 2) rfl) (by omega)).mono ?_
          rintro r w6 ⟨rfl, F6, hD6, hu6⟩
          rw [cnt_step] at hD6
          have hqq := HQ
          clear HQ
          obtain ⟨G6, hos6⟩ := HOS5.out.upd (i := 2) (dO p1 half _ _) rfl hu6 hD6
          obtain ⟨r0, r1, r2⟩ := parts_cells (hos6.get (i := 4) rfl)
          have HQ : w6.cell? ⟨wr.heap.size, 0, none⟩ = some (.string a.key) ∧ w6.cell? ⟨wr.heap.size, 1, none⟩ = some (.int .i64 a.at_) ∧ w6.cell? ⟨wr.heap.size, 2, none⟩ = some (.int .i64 a.n) ∧ w6.cell? ⟨pb, 1, none⟩ = some (.pointer (some ⟨p1, 0, none⟩)) := ⟨(hu6.keeps.cell (p := ⟨wr.heap.size, 0, none⟩) h5 hnj).trans hqq.1, (hu6.keeps.cell (p := ⟨wr.heap.size, 1, none⟩) h5 hnj).trans hqq.2.1, (hu6.keeps.cell (p := ⟨wr.heap.size, 2, none⟩) h5 hnj).trans hqq.2.2.1, r1⟩
          have HOS6 : Hid (∃ F, Objs w w6 w.heap.size (MOs ab p0 p1 p2 pb half (al ++ [a])) F) := Lib.hid ⟨G6, by
            unfold MOs
            rw [fil_step, deal_no al a (j := 0) (by have := HAL.out; omega), deal_yes al a (j := 1) (by have := HAL.out; omega), deal_no al a (j := 2) (by have := HAL.out; omega)]
            exact hos6⟩
          clear hqq r0 r1 r2 hD6 hu6 hos6 hnj
          generalize addOk a = bb at *
          go_wp2_with fail
          refine hK.out _ _ ?_ (fun hHeld => ?_)
          · exact HQ
          clear hK K
          (try simp only [Act.put, List.setIfInBounds_toArray, List.set_cons_zero, List.set_cons_succ])
          refine heldTake 15 (v := ?_) (by simp only [List.getElem?_toArray, List.getElem?_cons_succ, List.getElem?_cons_zero]; rfl) (by kernel_rfl) (by intro _ _ _ h; exact h) (by rfl) (by assumption) ?_ ?_
          rotate_left
          · intro W hSw; (try dsimp only at hSw); go_simp; try with_reducible rfl
          simp only [Act.put, List.setIfInBounds_toArray, List.set_cons_zero, List.set_cons_succ]
          refine heldDone (by kernel_rfl) ?_ _
          clear HQ hHeld
          go_wp2
          go_roundg (gk - 1)
          case measure => have := HK.out; omega
          case rel => exact ⟨k + 1, by go_num, Lib.hid (by have := HK.out; omega), Lib.hid (by rw [HKT.out]; exact HOS6.out)⟩
        · have hmod : ((k : Nat) : Int).tmod 3 = 2 := by rw [Int.tmod_eq_emod_of_nonneg (by omega)]; omega
          have HQ : Wa.drew.cell? ⟨wr.heap.size, 0, none⟩ = some (.string a.key) ∧ Wa.drew.cell? ⟨wr.heap.size, 1, none⟩ = some (.int .i64 a.at_) ∧ Wa.drew.cell? ⟨wr.heap.size, 2, none⟩ = some (.int .i64 a.n) ∧ Wa.drew.cell? ⟨pb, 2, none⟩ = some (.pointer (some ⟨p2, 0, none⟩)) := ⟨b0, b1, b2, q2⟩
          clear b0 b1 b2 q0 q1 q2
          go_wp2_with fail
          rw [← hWa]
          clear hWa
          refine heldStart 16 (S := fun W => W.cell? ⟨wr.heap.size, 0, none⟩ = some (.string a.key) ∧ W.cell? ⟨wr.heap.size, 1, none⟩ = some (.int .i64 a.at_) ∧ W.cell? ⟨wr.heap.size, 2, none⟩ = some (.int .i64 a.n) ∧ W.cell? ⟨pb, 2, none⟩ = some (.pointer (some ⟨p2, 0, none⟩))) (by kernel_rfl) ?_ (fun hHeld => ?_)
          · exact HQ
          refine heldTake 0 (v := ?_) (by simp only [List.getElem?_toArray, List.getElem?_cons_succ, List.getElem?_cons_zero]; rfl) (by kernel_rfl) (by intro _ _ _ h; exact h) (by rfl) (by assumption) ?_ ?_
          rotate_left
          · intro W hSw; (try dsimp only at hSw); go_simp; try with_reducible rfl
          simp only [Act.put, List.setIfInBounds_toArray, List.set_cons_zero, List.set_cons_succ]
          refine heldTake 1 (v := ?_) (by simp only [List.getElem?_toArray, List.getElem?_cons_succ, List.getElem?_cons_zero]; rfl) (by kernel_rfl) (by intro _ _ _ h; exact h) (by rfl) (by assumption) ?_ ?_
          rotate_left
          · intro W hSw; (try dsimp only at hSw); go_simp; try with_reducible rfl
          simp only [Act.put, List.setIfInBounds_toArray, List.set_cons_zero, List.set_cons_succ]
          refine heldTake 3 (v := ?_) (by simp only [List.getElem?_toArray, List.getElem?_cons_succ, List.getElem?_cons_zero]; rfl) (by kernel_rfl) (by intro _ _ _ h; exact h) (by rfl) (by assumption) ?_ ?_
          rotate_left
          · intro W hSw; (try dsimp only at hSw); go_simp; try with_reducible rfl
          simp only [Act.put, List.setIfInBounds_toArray, List.set_cons_zero, List.set_cons_succ]
          refine heldTake 4 (v := ?_) (by simp only [List.getElem?_toArray, List.getElem?_cons_succ, List.getElem?_cons_zero]; rfl) (by kernel_rfl) (by intro _ _ _ h; exact h) (by rfl) (by assumption) ?_ ?_
          rotate_left
          · intro W hSw; (try dsimp only at hSw); go_simp; try with_reducible rfl
          simp only [Act.put, List.setIfInBounds_toArray, List.set_cons_zero, List.set_cons_succ]
          refine heldTake 5 (v := ?_) (by simp only [List.getElem?_toArray, List.getElem?_cons_succ, List.getElem?_cons_zero]; rfl) (by kernel_rfl) (by intro _ _ _ h; exact h) (by rfl) (by assumption) ?_ ?_
          rotate_left
          · intro W hSw; (try dsimp only at hSw); go_simp; try with_reducible rfl
          simp only [Act.put, List.setIfInBounds_toArray, List.set_cons_zero, List.set_cons_succ]
          refine heldTake 6 (v := ?_) (by simp only [List.getElem?_toArray, List.getElem?_cons_succ, List.getElem?_cons_zero]; rfl) (by kernel_rfl) (by intro _ _ _ h; exact h) (by rfl) (by assumption) ?_ ?_
          rotate_left
          · intro W hSw; (try dsimp only at hSw); go_simp; try with_reducible rfl
          simp only [Act.put, List.setIfInBounds_toArray, List.set_cons_zero, List.set_cons_succ]
          refine heldTake 7 (v := ?_) (by simp only [List.getElem?_toArray, List.getElem?_cons_succ, List.getElem?_cons_zero]; rfl) (by kernel_rfl) (by intro _ _ _ h; exact h) (by rfl) (by assumption) ?_ ?_
          rotate_left
          · intro W hSw; (try dsimp only at hSw); go_simp; try with_reducible rfl
          simp only [Act.put, List.setIfInBounds_toArray, List.set_cons_zero, List.set_cons_succ]
          refine heldTake 8 (v := ?_) (by simp only [List.getElem?_toArray, List.getElem?_cons_succ, List.getElem?_cons_zero]; rfl) (by kernel_rfl) (by intro _ _ _ h; exact h) (by rfl) (by assumption) ?_ ?_
          rotate_left
          · intro W hSw; (try dsimp only at hSw); go_simp; try with_reducible rfl
          simp only [Act.put, List.setIfInBounds_toArray, List.set_cons_zero, List.set_cons_succ]
          refine heldTake 9 (v := ?_) (by simp only [List.getElem?_toArray, List.getElem?_cons_succ, List.getElem?_cons_zero]; rfl) (by kernel_rfl) (by intro _ _ _ h; exact h) (by rfl) (by assumption) ?_ ?_
          rotate_left
          · intro W hSw; (try dsimp only at hSw); go_simp; try with_reducible rfl
          simp only [Act.put, List.setIfInBounds_toArray, List.set_cons_zero, List.set_cons_succ]
          refine heldTake 10 (v := ?_) (by simp only [List.getElem?_toArray, List.getElem?_cons_succ, List.getElem?_cons_zero]; rfl) (by kernel_rfl) (by intro _ _ _ h; exact h) (by rfl) (by assumption) ?_ ?_
          rotate_left
          · intro W hSw; (try dsimp only at hSw); go_simp; try with_reducible rfl
          simp only [Act.put, List.setIfInBounds_toArray, List.set_cons_zero, List.set_cons_succ]
          refine heldTake 11 (v := ?_) (by simp only [List.getElem?_toArray, List.getElem?_cons_succ, List.getElem?_cons_zero]; rfl) (by kernel_rfl) (by intro _ _ _ h; exact h) (by rfl) (by assumption) ?_ ?_
          rotate_left
          · intro W hSw; (try dsimp only at hSw); go_simp; try with_reducible rfl
          simp only [Act.put, List.setIfInBounds_toArray, List.set_cons_zero, List.set_cons_succ]
          refine heldTake 12 (v := ?_) (by simp only [List.getElem?_toArray, List.getElem?_cons_succ, List.getElem?_cons_zero]; rfl) (by kernel_rfl) (by intro _ _ _ h; exact h) (by rfl) (by assumption) ?_ ?_
          rotate_left
          · intro W hSw; (try dsimp only at hSw); go_simp; try with_reducible rfl
          simp only [Act.put, List.setIfInBounds_toArray, List.set_cons_zero, List.set_cons_succ]
          refine heldTake 13 (v := ?_) (by simp only [List.getElem?_toArray, List.getElem?_cons_succ, List.getElem?_cons_zero]; rfl) (by kernel_rfl) (by intro _ _ _ h; exact h) (by rfl) (by assumption) ?_ ?_
          rotate_left
          · intro W hSw; (try dsimp only at hSw); go_simp; try with_reducible rfl
          simp only [Act.put, List.setIfInBounds_toArray, List.set_cons_zero, List.set_cons_succ]
          refine heldCall 2 (by simp only [List.getElem?_toArray, List.getElem?_cons_succ, List.getElem?_cons_zero]; rfl) (by kernel_rfl) (fun K hK => ?_)
          go_simp
          refine (rput11_any ab (Fo 0) half _ _ a _ (HOD.out.get (i := 0) rfl) (by omega) (by omega) (by omega) (by omega)).mono ?_
          rintro r w5 ⟨rfl, F5, hM5, hk5, hg5⟩
          rw [cnt_step] at hM5
          have hF0 : Fo 0 ab := by obtain ⟨A, c, h, e⟩ : RcO _ ab (Fo 0) half _ _ := HOD.out.get (i := 0) rfl; rw [e]; exact .inl rfl
          have hu5 : Upd (Fo 0) Wa.drew F5 w5 := ⟨hk5.mono (fun k _ e => by subst e; exact hF0), hg5⟩
          have h5 : wr.heap.size < w5.heap.size := Nat.lt_of_lt_of_le hab hu5.keeps.size
          have hqq := HQ
          clear HQ
          obtain ⟨G5, hos5, HG5⟩ := HOD.out.upd2 (i := 0) (rO ab half _ _) rfl hu5 hM5 hab HNB.out
          obtain ⟨r0, r1, r2⟩ := parts_cells (hos5.get (i := 4) rfl)
          have HQ : w5.cell? ⟨wr.heap.size, 0, none⟩ = some (.string a.key) ∧ w5.cell? ⟨wr.heap.size, 1, none⟩ = some (.int .i64 a.at_) ∧ w5.cell? ⟨wr.heap.size, 2, none⟩ = some (.int .i64 a.n) ∧ w5.cell? ⟨pb, 2, none⟩ = some (.pointer (some ⟨p2, 0, none⟩)) := ⟨(hu5.keeps.cell (p := ⟨wr.heap.size, 0, none⟩) hab (HNB.out 0 (by omega))).trans hqq.1, (hu5.keeps.cell (p := ⟨wr.heap.size, 1, none⟩) hab (HNB.out 0 (by omega))).trans hqq.2.1, (hu5.keeps.cell (p := ⟨wr.heap.size, 2, none⟩) hab (HNB.out 0 (by omega))).trans hqq.2.2.1, r2⟩
          have hnj : ¬ G5 3 wr.heap.size := HG5 3 (by omega)
          have HOS5 := Lib.hid hos5
          clear hqq r0 r1 r2 hM5 hk5 hg5 hu5 hos5 hF0
          go_wp2_with fail
          refine hK.out _ _ ?_ (fun hHeld => ?_)
          · exact HQ
          clear hK K
          (try simp only [Act.put, List.setIfInBounds_toArray, List.set_cons_zero, List.set_cons_succ])
          refine heldCall 14 (by simp only [List.getElem?_toArray, List.getElem?_cons_succ, List.getElem?_cons_zero]; rfl) (by kernel_rfl) (fun K hK => ?_)
          go_simp
          refine (dadd2_any p2 (G5 3) half _ _ a _ (HOS5.out.get (i := 3) rfl) (by omega)).mono ?_
          rintro r w6 ⟨rfl, F6, hD6, hu6⟩
          rw [cnt_step] at hD6
          have hqq := HQ
          clear HQ
          obtain ⟨G6, hos6⟩ := HOS5.out.upd (i := 3) (dO p2 half _ _) rfl hu6 hD6
          obtain ⟨r0, r1, r2⟩ := parts_cells (hos6.get (i := 4) rfl)
          have HQ : w6.cell? ⟨wr.heap.size, 0, none⟩ = some (.string a.key) ∧ w6.cell? ⟨wr.heap.size, 1, none⟩ = some (.int .i64 a.at_) ∧ w6.cell? ⟨wr.heap.size, 2, none⟩ = some (.int .i64 a.n) ∧ w6.cell? ⟨pb, 2, none⟩ = some (.pointer (some ⟨p2, 0, none⟩)) := ⟨(hu6.keeps.cell (p := ⟨wr.heap.size, 0, none⟩) h5 hnj).trans hqq.1, (hu6.keeps.cell (p := ⟨wr.heap.size, 1, none⟩) h5 hnj).trans hqq.2.1, (hu6.keeps.cell (p := ⟨wr.heap.size, 2, none⟩) h5 hnj).trans hqq.2.2.1, r2⟩
          have HOS6 : Hid (∃ F, Objs w w6 w.heap.size (MOs ab p0 p1 p2 pb half (al ++ [a])) F) := Lib.hid ⟨G6, by
            unfold MOs
            rw [fil_step, deal_no al a (j := 0) (by have := HAL.out; omega), deal_no al a (j := 1) (by have := HAL.out; omega), deal_yes al a (j := 2) (by have := HAL.out; omega)]
            exact hos6⟩
          clear hqq r0 r1 r2 hD6 hu6 hos6 hnj
          generalize addOk a = bb at *
          go_wp2_with fail
          refine hK.out _ _ ?_ (fun hHeld => ?_)
          · exact HQ
          clear hK K
          (try simp only [Act.put, List.setIfInBounds_toArray, List.set_cons_zero, List.set_cons_succ])
          refine heldTake 15 (v := ?_) (by simp only [List.getElem?_toArray, List.getElem?_cons_succ, List.getElem?_cons_zero]; rfl) (by kernel_rfl) (by intro _ _ _ h; exact h) (by rfl) (by assumption) ?_ ?_
          rotate_left
          · intro W hSw; (try dsimp only at hSw); go_simp; try with_reducible rfl
          simp only [Act.put, List.setIfInBounds_toArray, List.set_cons_zero, List.set_cons_succ]
          refine heldDone (by kernel_rfl) ?_ _
          clear HQ hHeld
          go_wp2
          go_roundg (gk - 1)
          case measure => have := HK.out; omega
          case rel => exact ⟨k + 1, by go_num, Lib.hid (by have := HK.out; omega), Lib.hid (by rw [HKT.out]; exact HOS6.out)⟩
      · have hall : l.take k = l := List.take_of_length_le (by omega)
        have hO := HO.out
        rw [hall] at hO
        have hal : (adds l).length = l.length := by unfold adds; rw [List.length_map]
        generalize adds l = al at *
        obtain ⟨Fo, hos⟩ := hO
        have hfl : ((al.filter addOk).length : Int) ≤ 40 := by have := List.length_filter_le addOk al; omega
        have hdl := fun j => dealP_len j 0 al
        have hd0 : ((dealP 0 al 0).length : Int) ≤ 40 := by have := hdl 0; omega
        have hd1 : ((dealP 0 al 1).length : Int) ≤ 40 := by have := hdl 1; omega
        have hd2 : ((dealP 0 al 2).length : Int) ≤ 40 := by have := hdl 2; omega
        have HSUM : Hid (∀ q, cntV half (dealP 0 al 0) q now + cntV half (dealP 0 al 1) q now + cntV half (dealP 0 al 2) q now = cntV half (al.filter addOk) q now) := Lib.hid (fun q => deal_sum half q now 0 al)
        have HOKF : Hid (∀ a ∈ al.filter addOk, addOk a = true) := Lib.hid (fun a ha => (List.mem_filter.1 ha).2)
        unfold MOs at hos
        generalize dealP 0 al 0 = P0 at *
        generalize dealP 0 al 1 = P1 at *
        generalize dealP 0 al 2 = P2 at *
        generalize al.filter addOk = L at *
        clear hdl hal HO hall
        obtain ⟨q0, q1, q2⟩ := parts_cells (hos.get (i := 4) rfl)
        have hpl : pb < wr.heap.size := hos.lt (i := 4) (by simp) (by have := (hos.get (i := 4) rfl : (kO pb (parts3 p0 p1 p2)).R wr (Fo 4)).1; rw [this])
        have HOS0 := Lib.hid hos
        clear hos
        have hKe : Below wr.heap.size wr wr.drew := (Below.refl _ _).drew
        go_wp2_with fail
        refine heldStart 9 (S := fun W => W.cell? ⟨pb, 0, none⟩ = some (.pointer (some ⟨p0, 0, none⟩)) ∧ W.cell? ⟨pb, 1, none⟩ = some (.pointer (some ⟨p1, 0, none⟩))) (by kernel_rfl) ?_ (fun hHeld => ?_)
        · exact ⟨(hKe.cell (p := ⟨pb, 0, none⟩) hpl).trans q0, (hKe.cell (p := ⟨pb, 1, none⟩) hpl).trans q1⟩
        refine heldTake 0 (v := ?_) (by simp only [List.getElem?_toArray, List.getElem?_cons_succ, List.getElem?_cons_zero]; rfl) (by kernel_rfl) (by intro _ _ _ h; exact h) (by rfl) (by assumption) ?_ ?_
        rotate_left
        · intro W hSw; (try dsimp only at hSw); go_simp; try with_reducible rfl
        simp only [Act.put, List.setIfInBounds_toArray, List.set_cons_zero, List.set_cons_succ]
        refine heldTake 1 (v := ?_) (by simp only [List.getElem?_toArray, List.getElem?_cons_succ, List.getElem?_cons_zero]; rfl) (by kernel_rfl) (by intro _ _ _ h; exact h) (by rfl) (by assumption) ?_ ?_
        rotate_left
        · intro W hSw; (try dsimp only at hSw); go_simp; try with_reducible rfl
        simp only [Act.put, List.setIfInBounds_toArray, List.set_cons_zero, List.set_cons_succ]
        refine heldTake 2 (v := ?_) (by simp only [List.getElem?_toArray, List.getElem?_cons_succ, List.getElem?_cons_zero]; rfl) (by kernel_rfl) (by intro _ _ _ h; exact h) (by rfl) (by assumption) ?_ ?_
        rotate_left
        · intro W hSw; (try dsimp only at hSw); go_simp; try with_reducible rfl
        simp only [Act.put, List.setIfInBounds_toArray, List.set_cons_zero, List.set_cons_succ]
        refine heldTake 4 (v := ?_) (by simp only [List.getElem?_toArray, List.getElem?_cons_succ, List.getElem?_cons_zero]; rfl) (by kernel_rfl) (by intro _ _ _ h; exact h) (by rfl) (by assumption) ?_ ?_
        rotate_left
        · intro W hSw; (try dsimp only at hSw); go_simp; try with_reducible rfl
        simp only [Act.put, List.setIfInBounds_toArray, List.set_cons_zero, List.set_cons_succ]
        refine heldTake 5 (v := ?_) (by simp only [List.getElem?_toArray, List.getElem?_cons_succ, List.getElem?_cons_zero]; rfl) (by kernel_rfl) (by intro _ _ _ h; exact h) (by rfl) (by assumption) ?_ ?_
        rotate_left
        · intro W hSw; (try dsimp only at hSw); go_simp; try with_reducible rfl
        simp only [Act.put, List.setIfInBounds_toArray, List.set_cons_zero, List.set_cons_succ]
        refine heldTake 6 (v := ?_) (by simp only [List.getElem?_toArray, List.getElem?_cons_succ, List.getElem?_cons_zero]; rfl) (by kernel_rfl) (by intro _ _ _ h; exact h) (by rfl) (by assumption) ?_ ?_
        rotate_left
        · intro W hSw; (try dsimp only at hSw); go_simp; try with_reducible rfl
        simp only [Act.put, List.setIfInBounds_toArray, List.set_cons_zero, List.set_cons_succ]
        refine heldCall 3 (by simp only [List.getElem?_toArray, List.getElem?_cons_succ, List.getElem?_cons_zero]; rfl) (by kernel_rfl) (fun K hK => ?_)
        go_simp
        have hosA := HOS0.out.below hKe
        refine (dcopy_any p0 (Fo 1) half _ _ _ (hosA.get (i := 1) rfl)).mono ?_
        rintro e w5 ⟨lb, FL, rfl, hD5, hF5, hb5⟩
        obtain ⟨F5, hos5⟩ := hosA.new (dO lb half (P0.length : Int) P0) hb5 hD5 hF5
        have HOS5 := Lib.hid hos5
        have hK0 : Below wr.heap.size wr w5 := hKe.trans (hb5.mono hKe.size)
        clear hosA hD5 hF5 hb5 hKe hos5
        have hKe := hK0
        clear hK0
        go_wp2_with fail
        refine hK.out _ _ ?_ (fun hHeld => ?_)
        · exact ⟨(hKe.cell (p := ⟨pb, 0, none⟩) hpl).trans q0, (hKe.cell (p := ⟨pb, 1, none⟩) hpl).trans q1⟩
        clear hK K
        (try simp only [Act.put, List.setIfInBounds_toArray, List.set_cons_zero, List.set_cons_succ])
        refine heldCall 7 (by simp only [List.getElem?_toArray, List.getElem?_cons_succ, List.getElem?_cons_zero]; rfl) (by kernel_rfl) (fun K hK => ?_)
        go_simp
        refine (dcopy_any p1 (F5 2) half _ _ _ (HOS5.out.get (i := 2) rfl)).mono ?_
        rintro e w6 ⟨rb, FR, rfl, hD6, hF6, hb6⟩
        obtain ⟨F6, hos6⟩ := HOS5.out.new (dO rb half (P1.length : Int) P1) hb6 hD6 hF6
        have HOS6 := Lib.hid hos6
        have hK0 : Below wr.heap.size wr w6 := hKe.trans (hb6.mono hKe.size)
        clear hD6 hF6 hb6 hKe hos6
        have hKe := hK0
        clear hK0
        go_wp2_with fail
        refine hK.out _ _ ?_ (fun hHeld => ?_)
        · exact ⟨(hKe.cell (p := ⟨pb, 0, none⟩) hpl).trans q0, (hKe.cell (p := ⟨pb, 1, none⟩) hpl).trans q1⟩
        clear hK K
        (try simp only [Act.put, List.setIfInBounds_toArray, List.set_cons_zero, List.set_cons_succ])
        refine heldTake 8 (v := ?_) (by simp only [List.getElem?_toArray, List.getElem?_cons_succ, List.getElem?_cons_zero]; rfl) (by kernel_rfl) (by intro _ _ _ h; exact h) (by rfl) (by assumption) ?_ ?_
        rotate_left
        · intro W hSw; (try dsimp only at hSw); go_simp; try with_reducible rfl
        simp only [Act.put, List.setIfInBounds_toArray, List.set_cons_zero, List.set_cons_succ]
        refine heldTake 9 (v := ?_) (by simp only [List.getElem?_toArray, List.getElem?_cons_succ, List.getElem?_cons_zero]; rfl) (by kernel_rfl) (by intro _ _ _ h; exact h) (by rfl) (by assumption) ?_ ?_
        rotate_left
        · intro W hSw; (try dsimp only at hSw); go_simp; try with_reducible rfl
        simp only [Act.put, List.setIfInBounds_toArray, List.set_cons_zero, List.set_cons_succ]
        refine heldDone (by kernel_rfl) ?_ _
        have hos := HOS6.out
        simp only [List.cons_append, List.nil_append] at hos
        clear HOS5 HOS6 HOS0 hKe hHeld q0 q1 q2 hpl
        obtain ⟨wm, rfl⟩ : ∃ wm : World, wm = w6 := ⟨_, rfl⟩
        obtain ⟨Fm, rfl⟩ : ∃ Fm : Nat → Nat → Prop, Fm = F6 := ⟨_, rfl⟩
        obtain ⟨q0, q1, q2⟩ := parts_cells (hos.get (i := 4) rfl)
        go_wp2_with fail
        refine (dmerge_o _ _ (Fm 5) (Fm 2) half _ _ _ _ _ (hos.get (i := 5) rfl) (hos.get (i := 2) rfl) (hos.ap 5 2 (by decide) (by simp) (by simp)) (by omega)).mono ?_
        rintro e v1 ⟨rfl, G6, hD6, hu6⟩
        obtain ⟨K1, hosn⟩ := hos.upd (i := 5) (dO lb half ((P0.length : Int) + (P1.length : Int)) (P0 ++ P1)) rfl hu6 hD6
        simp only [List.set_cons_succ, List.set_cons_zero] at hosn
        clear hos hD6 hu6 q0 q1 q2
        have hos := hosn
        clear hosn
        obtain ⟨q0, q1, q2⟩ := parts_cells (hos.get (i := 4) rfl)
        go_wp2_with fail
        refine (dmerge_o _ _ (K1 5) (K1 3) half _ _ _ _ _ (hos.get (i := 5) rfl) (hos.get (i := 3) rfl) (hos.ap 5 3 (by decide) (by simp) (by simp)) (by omega)).mono ?_
        rintro e v2 ⟨rfl, G6, hD6, hu6⟩
        obtain ⟨K2, hosn⟩ := hos.upd (i := 5) (dO lb half ((P0.length : Int) + (P1.length : Int) + (P2.length : Int)) (P0 ++ P1 ++ P2)) rfl hu6 hD6
        simp only [List.set_cons_succ, List.set_cons_zero] at hosn
        clear hos hD6 hu6 q0 q1 q2
        have hos := hosn
        clear hosn
        obtain ⟨q0, q1, q2⟩ := parts_cells (hos.get (i := 4) rfl)
        go_wp2_with fail
        refine (dmerge_o _ _ (K2 6) (K2 3) half _ _ _ _ _ (hos.get (i := 6) rfl) (hos.get (i := 3) rfl) (hos.ap 6 3 (by decide) (by simp) (by simp)) (by omega)).mono ?_
        rintro e v3 ⟨rfl, G6, hD6, hu6⟩
        obtain ⟨K3, hosn⟩ := hos.upd (i := 6) (dO rb half ((P1.length : Int) + (P2.length : Int)) (P1 ++ P2)) rfl hu6 hD6
        simp only [List.set_cons_succ, List.set_cons_zero] at hosn
        clear hos hD6 hu6 q0 q1 q2
        have hos := hosn
        clear hosn
        obtain ⟨q0, q1, q2⟩ := parts_cells (hos.get (i := 4) rfl)
        go_wp2_with fail
        refine (dmerge_o _ _ (K3 6) (K3 1) half _ _ _ _ _ (hos.get (i := 6) rfl) (hos.get (i := 1) rfl) (hos.ap 6 1 (by decide) (by simp) (by simp)) (by omega)).mono ?_
        rintro e v4 ⟨rfl, G6, hD6, hu6⟩
        obtain ⟨K4, hosn⟩ := hos.upd (i := 6) (dO rb half ((P1.length : Int) + (P2.length : Int) + (P0.length : Int)) (P1 ++ P2 ++ P0)) rfl hu6 hD6
        simp only [List.set_cons_succ, List.set_cons_zero] at hosn
        clear hos hD6 hu6 q0 q1 q2
        have hos := hosn
        clear hosn
        have hX : ∀ q, cntV half (P0 ++ P1 ++ P2) q now = cntV half L q now := fun q => by rw [cntV_app, cntV_app, HSUM.out]
        have hY : ∀ q, cntV half (P1 ++ P2 ++ P0) q now = cntV half L q now := fun q => by rw [cntV_app, cntV_app, ← HSUM.out]; omega
        have hxl : ((P0 ++ P1 ++ P2).length : Int) ≤ 120 := by simp only [List.length_append]; omega
        have hyl : ((P1 ++ P2 ++ P0).length : Int) ≤ 120 := by simp only [List.length_append]; omega
        have HX := Lib.hid hX
        have HY := Lib.hid hY
        have HXX : Hid (∀ q, cntV half (P0 ++ P1 ++ P2 ++ (P0 ++ P1 ++ P2)) q now = 2 * cntV half L q now) := Lib.hid (fun q => by rw [cntV_app, hX]; omega)
        have hbd : 0 ≤ cntV half L key now ∧ cntV half L key now ≤ 439804651110400 := by
          unfold cntV
          split
          · omega
          · have h1 := histSum_bd (hf := half) (now := now) key HOKF.out
            omega
        have hs3 := HSUM.out key
        have hb0 : 0 ≤ cntV half P0 key now := by
          obtain ⟨_, _, _, _, hI, _⟩ : DecObj v4 p0 (K4 1) half _ P0 := hos.get (i := 1) rfl
          unfold cntV; split
          · omega
          · exact (hI.sum_bd _ (fun a => wtV_bd _ _) key).1
        have hb1 : 0 ≤ cntV half P1 key now := by
          obtain ⟨_, _, _, _, hI, _⟩ : DecObj v4 p1 (K4 2) half _ P1 := hos.get (i := 2) rfl
          unfold cntV; split
          · omega
          · exact (hI.sum_bd _ (fun a => wtV_bd _ _) key).1
        have hb2 : 0 ≤ cntV half P2 key now := by
          obtain ⟨_, _, _, _, hI, _⟩ : DecObj v4 p2 (K4 3) half _ P2 := hos.get (i := 3) rfl
          unfold cntV; split
          · omega
          · exact (hI.sum_bd _ (fun a => wtV_bd _ _) key).1
        clear hX hY
        go_wp2_with fail
        refine (dcopy_any lb (K4 5) half _ _ _ (hos.get (i := 5) rfl)).mono ?_
        rintro e v5 ⟨tb, FT, rfl, hD5, hF5, hb5⟩
        obtain ⟨K5, hosn⟩ := hos.new (dO tb half ((P0.length : Int) + P1.length + P2.length) (P0 ++ P1 ++ P2)) hb5 hD5 hF5
        simp only [List.cons_append, List.nil_append] at hosn
        clear hos hD5 hF5 hb5
        have hos := hosn
        clear hosn
        go_wp2_with fail
        refine (dmerge_self tb (K5 7) half _ _ _ (hos.get (i := 7) rfl) (by omega)).mono ?_
        rintro e v6 ⟨rfl, G6, hD6, hu6⟩
        obtain ⟨K6, hosn⟩ := hos.upd (i := 7) (dO tb half ((P0.length : Int) + P1.length + P2.length + ((P0.length : Int) + P1.length + P2.length)) (P0 ++ P1 ++ P2 ++ (P0 ++ P1 ++ P2))) rfl hu6 hD6
        simp only [List.set_cons_succ, List.set_cons_zero] at hosn
        clear hos hD6 hu6
        have hos := hosn
        clear hosn
        go_wp2_with fail
        refine (dat_any tb (K6 7) half _ _ key now _ (hos.get (i := 7) rfl) HKY.out hn1).mono ?_
        rintro e v7 ⟨rfl, hb7⟩
        rw [HXX.out]
        have hos7 := hos.below hb7
        clear hos hb7
        go_wp2_with fail
        refine (rat11_any ab (K6 0) half _ L key now _ (hos7.get (i := 0) rfl) HOKF.out (by omega) (by omega) hn1).mono ?_
        rintro e v8 ⟨rfl, hb8⟩
        have hos8 := hos7.below hb8
        clear hos7 hb8
        generalize hcv : cntV half L key now = cv at *
        have HCV := Lib.hid hcv
        clear hcv
        go_wp2_with fail
        refine dmerge_nil.mono ?_
        rintro e v9 ⟨rfl, hb9⟩
        have hos9 := hos8.below hb9
        clear hos8 hb9
        by_cases hh : half < 1099511627776
        · have hw2 : halfOf (half + 1) = half + 1 := by unfold halfOf; omega
          go_wp2_with fail
          refine (dnew_any (half + 1) _).mono ?_
          rintro e va ⟨nb, FN, rfl, hDn, hFn, hbn⟩
          rw [hw2] at hDn
          obtain ⟨Ka, hosa⟩ := hos9.new (dO nb (half + 1) 0 []) hbn hDn hFn
          simp only [List.cons_append, List.nil_append] at hosa
          clear hos9 hDn hFn hbn hw2
          go_wp2_with fail
          refine (dmerge_other (hosa.get (i := 5) rfl) (hosa.get (i := 8) rfl) (by omega)).mono ?_
          rintro e vb ⟨rfl, hbb⟩
          have hosb := hosa.below hbb
          clear hosa hbb
          obtain ⟨q0, q1, q2⟩ := parts_cells (hosb.get (i := 4) rfl)
          have hpl : pb < vb.heap.size := hosb.lt (i := 4) (by simp) (by have := (hosb.get (i := 4) rfl : (kO pb (parts3 p0 p1 p2)).R vb (Ka 4)).1; rw [this])
          have HOSL := Lib.hid hosb
          clear hosb
          have hKe : Below vb.heap.size vb vb.drew := (Below.refl _ _).drew
          have HK0 := Lib.hid HKY.out
          generalize hc0 : cntV half P0 key now = n0 at *
          generalize hc1 : cntV half P1 key now = n1 at *
          generalize hc2 : cntV half P2 key now = n2 at *
          have HC0 := Lib.hid hc0
          have HC1 := Lib.hid hc1
          have HC2 := Lib.hid hc2
          clear hc0 hc1 hc2
          have z1 : IntKind.i64.wrap (n0 + n1) = n0 + n1 := IntWalk.i64_in _ (by omega)
          have z2 : IntKind.i64.wrap (n0 + n1 + n2) = cv := by rw [hs3]; exact IntWalk.i64_in _ (by omega)
          have HS3 := Lib.hid hs3
          clear hs3
          go_wp2_with fail
          refine heldStart 20 (S := fun W => W.cell? ⟨pb, 0, none⟩ = some (.pointer (some ⟨p0, 0, none⟩)) ∧ W.cell? ⟨pb, 1, none⟩ = some (.pointer (some ⟨p1, 0, none⟩)) ∧ W.cell? ⟨pb, 2, none⟩ = some (.pointer (some ⟨p2, 0, none⟩))) (by kernel_rfl) ?_ (fun hHeld => ?_)
          · exact ⟨(hKe.cell (p := ⟨pb, 0, none⟩) hpl).trans q0, (hKe.cell (p := ⟨pb, 1, none⟩) hpl).trans q1, (hKe.cell (p := ⟨pb, 2, none⟩) hpl).trans q2⟩
          refine heldTake 0 (v := ?_) (by simp only [List.getElem?_toArray, List.getElem?_cons_succ, List.getElem?_cons_zero]; rfl) (by kernel_rfl) (by intro _ _ _ h; exact h) (by rfl) (by assumption) ?_ ?_
          rotate_left
          · intro W hSw; (try dsimp only at hSw); go_simp; try with_reducible rfl
          simp only [Act.put, List.setIfInBounds_toArray, List.set_cons_zero, List.set_cons_succ]
          refine heldTake 1 (v := ?_) (by simp only [List.getElem?_toArray, List.getElem?_cons_succ, List.getElem?_cons_zero]; rfl) (by kernel_rfl) (by intro _ _ _ h; exact h) (by rfl) (by assumption) ?_ ?_
          rotate_left
          · intro W hSw; (try dsimp only at hSw); go_simp; try with_reducible rfl
          simp only [Act.put, List.setIfInBounds_toArray, List.set_cons_zero, List.set_cons_succ]
          refine heldTake 2 (v := ?_) (by simp only [List.getElem?_toArray, List.getElem?_cons_succ, List.getElem?_cons_zero]; rfl) (by kernel_rfl) (by intro _ _ _ h; exact h) (by rfl) (by assumption) ?_ ?_
          rotate_left
          · intro W hSw; (try dsimp only at hSw); go_simp; try with_reducible rfl
          simp only [Act.put, List.setIfInBounds_toArray, List.set_cons_zero, List.set_cons_succ]
          refine heldTake 3 (v := ?_) (by simp only [List.getElem?_toArray, List.getElem?_cons_succ, List.getElem?_cons_zero]; rfl) (by kernel_rfl) (by intro _ _ _ h; exact h) (by rfl) (by assumption) ?_ ?_
          rotate_left
          · intro W hSw; (try dsimp only at hSw); go_simp; try with_reducible rfl
          simp only [Act.put, List.setIfInBounds_toArray, List.set_cons_zero, List.set_cons_succ]
          refine heldTake 4 (v := ?_) (by simp only [List.getElem?_toArray, List.getElem?_cons_succ, List.getElem?_cons_zero]; rfl) (by kernel_rfl) (by intro _ _ _ h; exact h) (by rfl) (by assumption) ?_ ?_
          rotate_left
          · intro W hSw; (try dsimp only at hSw); go_simp; try with_reducible rfl
          simp only [Act.put, List.setIfInBounds_toArray, List.set_cons_zero, List.set_cons_succ]
          refine heldTake 6 (v := ?_) (by simp only [List.getElem?_toArray, List.getElem?_cons_succ, List.getElem?_cons_zero]; rfl) (by kernel_rfl) (by intro _ _ _ h; exact h) (by rfl) (by assumption) ?_ ?_
          rotate_left
          · intro W hSw; (try dsimp only at hSw); go_simp; try with_reducible rfl
          simp only [Act.put, List.setIfInBounds_toArray, List.set_cons_zero, List.set_cons_succ]
          refine heldTake 7 (v := ?_) (by simp only [List.getElem?_toArray, List.getElem?_cons_succ, List.getElem?_cons_zero]; rfl) (by kernel_rfl) (by intro _ _ _ h; exact h) (by rfl) (by assumption) ?_ ?_
          rotate_left
          · intro W hSw; (try dsimp only at hSw); go_simp; try with_reducible rfl
          simp only [Act.put, List.setIfInBounds_toArray, List.set_cons_zero, List.set_cons_succ]
          refine heldTake 8 (v := ?_) (by simp only [List.getElem?_toArray, List.getElem?_cons_succ, List.getElem?_cons_zero]; rfl) (by kernel_rfl) (by intro _ _ _ h; exact h) (by rfl) (by assumption) ?_ ?_
          rotate_left
          · intro W hSw; (try dsimp only at hSw); go_simp; try with_reducible rfl
          simp only [Act.put, List.setIfInBounds_toArray, List.set_cons_zero, List.set_cons_succ]
          refine heldTake 9 (v := ?_) (by simp only [List.getElem?_toArray, List.getElem?_cons_succ, List.getElem?_cons_zero]; rfl) (by kernel_rfl) (by intro _ _ _ h; exact h) (by rfl) (by assumption) ?_ ?_
          rotate_left
          · intro W hSw; (try dsimp only at hSw); go_simp; try with_reducible rfl
          simp only [Act.put, List.setIfInBounds_toArray, List.set_cons_zero, List.set_cons_succ]
          refine heldTake 10 (v := ?_) (by simp only [List.getElem?_toArray, List.getElem?_cons_succ, List.getElem?_cons_zero]; rfl) (by kernel_rfl) (by intro _ _ _ h; exact h) (by rfl) (by assumption) ?_ ?_
          rotate_left
          · intro W hSw; (try dsimp only at hSw); go_simp; try with_reducible rfl
          simp only [Act.put, List.setIfInBounds_toArray, List.set_cons_zero, List.set_cons_succ]
          refine heldTake 13 (v := ?_) (by simp only [List.getElem?_toArray, List.getElem?_cons_succ, List.getElem?_cons_zero]; rfl) (by kernel_rfl) (by intro _ _ _ h; exact h) (by rfl) (by assumption) ?_ ?_
          rotate_left
          · intro W hSw; (try dsimp only at hSw); go_simp; try with_reducible rfl
          simp only [Act.put, List.setIfInBounds_toArray, List.set_cons_zero, List.set_cons_succ]
          refine heldTake 14 (v := ?_) (by simp only [List.getElem?_toArray, List.getElem?_cons_succ, List.getElem?_cons_zero]; rfl) (by kernel_rfl) (by intro _ _ _ h; exact h) (by rfl) (by assumption) ?_ ?_
          rotate_left
          · intro W hSw; (try dsimp only at hSw); go_simp; try with_reducible rfl
          simp only [Act.put, List.setIfInBounds_toArray, List.set_cons_zero, List.set_cons_succ]
          refine heldTake 15 (v := ?_) (by simp only [List.getElem?_toArray, List.getElem?_cons_succ, List.getElem?_cons_zero]; rfl) (by kernel_rfl) (by intro _ _ _ h; exact h) (by rfl) (by assumption) ?_ ?_
          rotate_left
          · intro W hSw; (try dsimp only at hSw); go_simp; try with_reducible rfl
          simp only [Act.put, List.setIfInBounds_toArray, List.set_cons_zero, List.set_cons_succ]
          refine heldTake 16 (v := ?_) (by simp only [List.getElem?_toArray, List.getElem?_cons_succ, List.getElem?_cons_zero]; rfl) (by kernel_rfl) (by intro _ _ _ h; exact h) (by rfl) (by assumption) ?_ ?_
          rotate_left
          · intro W hSw; (try dsimp only at hSw); go_simp; try with_reducible rfl
          simp only [Act.put, List.setIfInBounds_toArray, List.set_cons_zero, List.set_cons_succ]
          refine heldTake 17 (v := ?_) (by simp only [List.getElem?_toArray, List.getElem?_cons_succ, List.getElem?_cons_zero]; rfl) (by kernel_rfl) (by intro _ _ _ h; exact h) (by rfl) (by assumption) ?_ ?_
          rotate_left
          · intro W hSw; (try dsimp only at hSw); go_simp; try with_reducible rfl
          simp only [Act.put, List.setIfInBounds_toArray, List.set_cons_zero, List.set_cons_succ]
          refine heldCall 5 (by simp only [List.getElem?_toArray, List.getElem?_cons_succ, List.getElem?_cons_zero]; rfl) (by kernel_rfl) (fun K hK => ?_)
          go_simp
          refine (dat_any p0 (Ka 1) half _ _ key now _ ((HOSL.out.below hKe).get (i := 1) rfl) HKY.out hn1).mono ?_
          rintro e x5 ⟨rfl, hb5⟩
          rw [HC0.out]
          have hK0 : Below vb.heap.size vb x5 := hKe.trans (hb5.mono hKe.size)
          clear hb5 hKe
          have hKe := hK0
          clear hK0
          go_wp2_with fail
          refine hK.out _ _ ?_ (fun hHeld => ?_)
          · exact ⟨(hKe.cell (p := ⟨pb, 0, none⟩) hpl).trans q0, (hKe.cell (p := ⟨pb, 1, none⟩) hpl).trans q1, (hKe.cell (p := ⟨pb, 2, none⟩) hpl).trans q2⟩
          clear hK K
          (try simp only [Act.put, List.setIfInBounds_toArray, List.set_cons_zero, List.set_cons_succ])
          refine heldCall 11 (by simp only [List.getElem?_toArray, List.getElem?_cons_succ, List.getElem?_cons_zero]; rfl) (by kernel_rfl) (fun K hK => ?_)
          go_simp
          refine (dat_any p1 (Ka 2) half _ _ key now _ ((HOSL.out.below hKe).get (i := 2) rfl) HKY.out hn1).mono ?_
          rintro e x6 ⟨rfl, hb5⟩
          rw [HC1.out]
          have hK0 : Below vb.heap.size vb x6 := hKe.trans (hb5.mono hKe.size)
          clear hb5 hKe
          have hKe := hK0
          clear hK0
          go_wp2_with fail
          refine hK.out _ _ ?_ (fun hHeld => ?_)
          · exact ⟨(hKe.cell (p := ⟨pb, 0, none⟩) hpl).trans q0, (hKe.cell (p := ⟨pb, 1, none⟩) hpl).trans q1, (hKe.cell (p := ⟨pb, 2, none⟩) hpl).trans q2⟩
          clear hK K
          (try simp only [Act.put, List.setIfInBounds_toArray, List.set_cons_zero, List.set_cons_succ])
          refine heldTake 12 (v := ?_) (by simp only [List.getElem?_toArray, List.getElem?_cons_succ, List.getElem?_cons_zero]; rfl) (by kernel_rfl) (by intro _ _ _ h; exact h) (by rfl) (by assumption) ?_ ?_
          rotate_left
          · intro W hSw; (try dsimp only at hSw); go_simp; try with_reducible rfl
          simp only [Act.put, List.setIfInBounds_toArray, List.set_cons_zero, List.set_cons_succ]
          refine heldCall 18 (by simp only [List.getElem?_toArray, List.getElem?_cons_succ, List.getElem?_cons_zero]; rfl) (by kernel_rfl) (fun K hK => ?_)
          go_simp
          refine (dat_any p2 (Ka 3) half _ _ key now _ ((HOSL.out.below hKe).get (i := 3) rfl) HKY.out hn1).mono ?_
          rintro e x7 ⟨rfl, hb5⟩
          rw [HC2.out]
          have hK0 : Below vb.heap.size vb x7 := hKe.trans (hb5.mono hKe.size)
          clear hb5 hKe
          have hKe := hK0
          clear hK0
          go_wp2_with fail
          refine hK.out _ _ ?_ (fun hHeld => ?_)
          · exact ⟨(hKe.cell (p := ⟨pb, 0, none⟩) hpl).trans q0, (hKe.cell (p := ⟨pb, 1, none⟩) hpl).trans q1, (hKe.cell (p := ⟨pb, 2, none⟩) hpl).trans q2⟩
          clear hK K
          (try simp only [Act.put, List.setIfInBounds_toArray, List.set_cons_zero, List.set_cons_succ])
          refine heldTake 19 (v := ?_) (by simp only [List.getElem?_toArray, List.getElem?_cons_succ, List.getElem?_cons_zero]; rfl) (by kernel_rfl) (by intro _ _ _ h; exact h) (by rfl) (by assumption) ?_ ?_
          rotate_left
          · intro W hSw; (try dsimp only at hSw); go_simp; try with_reducible rfl
          simp only [Act.put, List.setIfInBounds_toArray, List.set_cons_zero, List.set_cons_succ]
          refine heldTake 20 (v := ?_) (by simp only [List.getElem?_toArray, List.getElem?_cons_succ, List.getElem?_cons_zero]; rfl) (by kernel_rfl) (by intro _ _ _ h; exact h) (by rfl) (by assumption) ?_ ?_
          rotate_left
          · intro W hSw; (try dsimp only at hSw); go_simp; try with_reducible rfl
          simp only [Act.put, List.setIfInBounds_toArray, List.set_cons_zero, List.set_cons_succ]
          refine heldDone (by kernel_rfl) ?_ _
          have hosl := HOSL.out.below hKe
          clear HOSL hKe hHeld q0 q1 q2 hpl z1 z2
          go_wp2_with fail
          refine (rat11_any ab (Ka 0) half _ L key now _ (hosl.get (i := 0) rfl) HOKF.out (by omega) (by omega) hn1).mono ?_
          rintro e y1 ⟨rfl, hb1'⟩
          rw [HCV.out]
          have hosy := hosl.below hb1'
          clear hosl hb1'
          go_wp2_with fail
          refine (even11_any lb ab (Ka 5) (Ka 0) half _ _ _ L key now 100 _ (hosy.get (i := 5) rfl) (hosy.get (i := 0) rfl) HX.out HOKF.out (by omega) (by omega) (by omega) HKY.out hn1 (by omega)).mono ?_
          rintro e y2 ⟨rfl, hb2'⟩
          have hosz := hosy.below hb2'
          clear hosy hb2'
          go_wp2_with fail
          refine (even11_any rb ab (Ka 6) (Ka 0) half _ _ _ L key now 100 _ (hosz.get (i := 6) rfl) (hosz.get (i := 0) rfl) HY.out HOKF.out (by omega) (by omega) (by omega) HKY.out hn1 (by omega)).mono ?_
          rintro e y3 ⟨rfl, hb3'⟩
          have HBZ := Lib.hid (hosz.below hb3').bl
          clear hosz hb3'
          go_wp2
          go_ret
          exact ⟨rfl, HBZ.out⟩
        · obtain ⟨q0, q1, q2⟩ := parts_cells (hos9.get (i := 4) rfl)
          have hpl : pb < v9.heap.size := hos9.lt (i := 4) (by simp) (by have := (hos9.get (i := 4) rfl : (kO pb (parts3 p0 p1 p2)).R v9 (K6 4)).1; rw [this])
          have HOSL := Lib.hid hos9
          clear hos9
          have hKe : Below v9.heap.size v9 v9.drew := (Below.refl _ _).drew
          have HK0 := Lib.hid HKY.out
          generalize hc0 : cntV half P0 key now = n0 at *
          generalize hc1 : cntV half P1 key now = n1 at *
          generalize hc2 : cntV half P2 key now = n2 at *
          have HC0 := Lib.hid hc0
          have HC1 := Lib.hid hc1
          have HC2 := Lib.hid hc2
          clear hc0 hc1 hc2
          have z1 : IntKind.i64.wrap (n0 + n1) = n0 + n1 := IntWalk.i64_in _ (by omega)
          have z2 : IntKind.i64.wrap (n0 + n1 + n2) = cv := by rw [hs3]; exact IntWalk.i64_in _ (by omega)
          have HS3 := Lib.hid hs3
          clear hs3
          go_wp2_with fail
          refine heldStart 20 (S := fun W => W.cell? ⟨pb, 0, none⟩ = some (.pointer (some ⟨p0, 0, none⟩)) ∧ W.cell? ⟨pb, 1, none⟩ = some (.pointer (some ⟨p1, 0, none⟩)) ∧ W.cell? ⟨pb, 2, none⟩ = some (.pointer (some ⟨p2, 0, none⟩))) (by kernel_rfl) ?_ (fun hHeld => ?_)
          · exact ⟨(hKe.cell (p := ⟨pb, 0, none⟩) hpl).trans q0, (hKe.cell (p := ⟨pb, 1, none⟩) hpl).trans q1, (hKe.cell (p := ⟨pb, 2, none⟩) hpl).trans q2⟩
          refine heldTake 0 (v := ?_) (by simp only [List.getElem?_toArray, List.getElem?_cons_succ, List.getElem?_cons_zero]; rfl) (by kernel_rfl) (by intro _ _ _ h; exact h) (by rfl) (by assumption) ?_ ?_
          rotate_left
          · intro W hSw; (try dsimp only at hSw); go_simp; try with_reducible rfl
          simp only [Act.put, List.setIfInBounds_toArray, List.set_cons_zero, List.set_cons_succ]
          refine heldTake 1 (v := ?_) (by simp only [List.getElem?_toArray, List.getElem?_cons_succ, List.getElem?_cons_zero]; rfl) (by kernel_rfl) (by intro _ _ _ h; exact h) (by rfl) (by assumption) ?_ ?_
          rotate_left
          · intro W hSw; (try dsimp only at hSw); go_simp; try with_reducible rfl
          simp only [Act.put, List.setIfInBounds_toArray, List.set_cons_zero, List.set_cons_succ]
          refine heldTake 2 (v := ?_) (by simp only [List.getElem?_toArray, List.getElem?_cons_succ, List.getElem?_cons_zero]; rfl) (by kernel_rfl) (by intro _ _ _ h; exact h) (by rfl) (by assumption) ?_ ?_
          rotate_left
          · intro W hSw; (try dsimp only at hSw); go_simp; try with_reducible rfl
          simp only [Act.put, List.setIfInBounds_toArray, List.set_cons_zero, List.set_cons_succ]
          refine heldTake 3 (v := ?_) (by simp only [List.getElem?_toArray, List.getElem?_cons_succ, List.getElem?_cons_zero]; rfl) (by kernel_rfl) (by intro _ _ _ h; exact h) (by rfl) (by assumption) ?_ ?_
          rotate_left
          · intro W hSw; (try dsimp only at hSw); go_simp; try with_reducible rfl
          simp only [Act.put, List.setIfInBounds_toArray, List.set_cons_zero, List.set_cons_succ]
          refine heldTake 4 (v := ?_) (by simp only [List.getElem?_toArray, List.getElem?_cons_succ, List.getElem?_cons_zero]; rfl) (by kernel_rfl) (by intro _ _ _ h; exact h) (by rfl) (by assumption) ?_ ?_
          rotate_left
          · intro W hSw; (try dsimp only at hSw); go_simp; try with_reducible rfl
          simp only [Act.put, List.setIfInBounds_toArray, List.set_cons_zero, List.set_cons_succ]
          refine heldTake 6 (v := ?_) (by simp only [List.getElem?_toArray, List.getElem?_cons_succ, List.getElem?_cons_zero]; rfl) (by kernel_rfl) (by intro _ _ _ h; exact h) (by rfl) (by assumption) ?_ ?_
          rotate_left
          · intro W hSw; (try dsimp only at hSw); go_simp; try with_reducible rfl
          simp only [Act.put, List.setIfInBounds_toArray, List.set_cons_zero, List.set_cons_succ]
          refine heldTake 7 (v := ?_) (by simp only [List.getElem?_toArray, List.getElem?_cons_succ, List.getElem?_cons_zero]; rfl) (by kernel_rfl) (by intro _ _ _ h; exact h) (by rfl) (by assumption) ?_ ?_
          rotate_left
          · intro W hSw; (try dsimp only at hSw); go_simp; try with_reducible rfl
          simp only [Act.put, List.setIfInBounds_toArray, List.set_cons_zero, List.set_cons_succ]
          refine heldTake 8 (v := ?_) (by simp only [List.getElem?_toArray, List.getElem?_cons_succ, List.getElem?_cons_zero]; rfl) (by kernel_rfl) (by intro _ _ _ h; exact h) (by rfl) (by assumption) ?_ ?_
          rotate_left
          · intro W hSw; (try dsimp only at hSw); go_simp; try with_reducible rfl
          simp only [Act.put, List.setIfInBounds_toArray, List.set_cons_zero, List.set_cons_succ]
          refine heldTake 9 (v := ?_) (by simp only [List.getElem?_toArray, List.getElem?_cons_succ, List.getElem?_cons_zero]; rfl) (by kernel_rfl) (by intro _ _ _ h; exact h) (by rfl) (by assumption) ?_ ?_
          rotate_left
          · intro W hSw; (try dsimp only at hSw); go_simp; try with_reducible rfl
          simp only [Act.put, List.setIfInBounds_toArray, List.set_cons_zero, List.set_cons_succ]
          refine heldTake 10 (v := ?_) (by simp only [List.getElem?_toArray, List.getElem?_cons_succ, List.getElem?_cons_zero]; rfl) (by kernel_rfl) (by intro _ _ _ h; exact h) (by rfl) (by assumption) ?_ ?_
          rotate_left
          · intro W hSw; (try dsimp only at hSw); go_simp; try with_reducible rfl
          simp only [Act.put, List.setIfInBounds_toArray, List.set_cons_zero, List.set_cons_succ]
          refine heldTake 13 (v := ?_) (by simp only [List.getElem?_toArray, List.getElem?_cons_succ, List.getElem?_cons_zero]; rfl) (by kernel_rfl) (by intro _ _ _ h; exact h) (by rfl) (by assumption) ?_ ?_
          rotate_left
          · intro W hSw; (try dsimp only at hSw); go_simp; try with_reducible rfl
          simp only [Act.put, List.setIfInBounds_toArray, List.set_cons_zero, List.set_cons_succ]
          refine heldTake 14 (v := ?_) (by simp only [List.getElem?_toArray, List.getElem?_cons_succ, List.getElem?_cons_zero]; rfl) (by kernel_rfl) (by intro _ _ _ h; exact h) (by rfl) (by assumption) ?_ ?_
          rotate_left
          · intro W hSw; (try dsimp only at hSw); go_simp; try with_reducible rfl
          simp only [Act.put, List.setIfInBounds_toArray, List.set_cons_zero, List.set_cons_succ]
          refine heldTake 15 (v := ?_) (by simp only [List.getElem?_toArray, List.getElem?_cons_succ, List.getElem?_cons_zero]; rfl) (by kernel_rfl) (by intro _ _ _ h; exact h) (by rfl) (by assumption) ?_ ?_
          rotate_left
          · intro W hSw; (try dsimp only at hSw); go_simp; try with_reducible rfl
          simp only [Act.put, List.setIfInBounds_toArray, List.set_cons_zero, List.set_cons_succ]
          refine heldTake 16 (v := ?_) (by simp only [List.getElem?_toArray, List.getElem?_cons_succ, List.getElem?_cons_zero]; rfl) (by kernel_rfl) (by intro _ _ _ h; exact h) (by rfl) (by assumption) ?_ ?_
          rotate_left
          · intro W hSw; (try dsimp only at hSw); go_simp; try with_reducible rfl
          simp only [Act.put, List.setIfInBounds_toArray, List.set_cons_zero, List.set_cons_succ]
          refine heldTake 17 (v := ?_) (by simp only [List.getElem?_toArray, List.getElem?_cons_succ, List.getElem?_cons_zero]; rfl) (by kernel_rfl) (by intro _ _ _ h; exact h) (by rfl) (by assumption) ?_ ?_
          rotate_left
          · intro W hSw; (try dsimp only at hSw); go_simp; try with_reducible rfl
          simp only [Act.put, List.setIfInBounds_toArray, List.set_cons_zero, List.set_cons_succ]
          refine heldCall 5 (by simp only [List.getElem?_toArray, List.getElem?_cons_succ, List.getElem?_cons_zero]; rfl) (by kernel_rfl) (fun K hK => ?_)
          go_simp
          refine (dat_any p0 (K6 1) half _ _ key now _ ((HOSL.out.below hKe).get (i := 1) rfl) HKY.out hn1).mono ?_
          rintro e x5 ⟨rfl, hb5⟩
          rw [HC0.out]
          have hK0 : Below v9.heap.size v9 x5 := hKe.trans (hb5.mono hKe.size)
          clear hb5 hKe
          have hKe := hK0
          clear hK0
          go_wp2_with fail
          refine hK.out _ _ ?_ (fun hHeld => ?_)
          · exact ⟨(hKe.cell (p := ⟨pb, 0, none⟩) hpl).trans q0, (hKe.cell (p := ⟨pb, 1, none⟩) hpl).trans q1, (hKe.cell (p := ⟨pb, 2, none⟩) hpl).trans q2⟩
          clear hK K
          (try simp only [Act.put, List.setIfInBounds_toArray, List.set_cons_zero, List.set_cons_succ])
          refine heldCall 11 (by simp only [List.getElem?_toArray, List.getElem?_cons_succ, List.getElem?_cons_zero]; rfl) (by kernel_rfl) (fun K hK => ?_)
          go_simp
          refine (dat_any p1 (K6 2) half _ _ key now _ ((HOSL.out.below hKe).get (i := 2) rfl) HKY.out hn1).mono ?_
          rintro e x6 ⟨rfl, hb5⟩
          rw [HC1.out]
          have hK0 : Below v9.heap.size v9 x6 := hKe.trans (hb5.mono hKe.size)
          clear hb5 hKe
          have hKe := hK0
          clear hK0
          go_wp2_with fail
          refine hK.out _ _ ?_ (fun hHeld => ?_)
          · exact ⟨(hKe.cell (p := ⟨pb, 0, none⟩) hpl).trans q0, (hKe.cell (p := ⟨pb, 1, none⟩) hpl).trans q1, (hKe.cell (p := ⟨pb, 2, none⟩) hpl).trans q2⟩
          clear hK K
          (try simp only [Act.put, List.setIfInBounds_toArray, List.set_cons_zero, List.set_cons_succ])
          refine heldTake 12 (v := ?_) (by simp only [List.getElem?_toArray, List.getElem?_cons_succ, List.getElem?_cons_zero]; rfl) (by kernel_rfl) (by intro _ _ _ h; exact h) (by rfl) (by assumption) ?_ ?_
          rotate_left
          · intro W hSw; (try dsimp only at hSw); go_simp; try with_reducible rfl
          simp only [Act.put, List.setIfInBounds_toArray, List.set_cons_zero, List.set_cons_succ]
          refine heldCall 18 (by simp only [List.getElem?_toArray, List.getElem?_cons_succ, List.getElem?_cons_zero]; rfl) (by kernel_rfl) (fun K hK => ?_)
          go_simp
          refine (dat_any p2 (K6 3) half _ _ key now _ ((HOSL.out.below hKe).get (i := 3) rfl) HKY.out hn1).mono ?_
          rintro e x7 ⟨rfl, hb5⟩
          rw [HC2.out]
          have hK0 : Below v9.heap.size v9 x7 := hKe.trans (hb5.mono hKe.size)
          clear hb5 hKe
          have hKe := hK0
          clear hK0
          go_wp2_with fail
          refine hK.out _ _ ?_ (fun hHeld => ?_)
          · exact ⟨(hKe.cell (p := ⟨pb, 0, none⟩) hpl).trans q0, (hKe.cell (p := ⟨pb, 1, none⟩) hpl).trans q1, (hKe.cell (p := ⟨pb, 2, none⟩) hpl).trans q2⟩
          clear hK K
          (try simp only [Act.put, List.setIfInBounds_toArray, List.set_cons_zero, List.set_cons_succ])
          refine heldTake 19 (v := ?_) (by simp only [List.getElem?_toArray, List.getElem?_cons_succ, List.getElem?_cons_zero]; rfl) (by kernel_rfl) (by intro _ _ _ h; exact h) (by rfl) (by assumption) ?_ ?_
          rotate_left
          · intro W hSw; (try dsimp only at hSw); go_simp; try with_reducible rfl
          simp only [Act.put, List.setIfInBounds_toArray, List.set_cons_zero, List.set_cons_succ]
          refine heldTake 20 (v := ?_) (by simp only [List.getElem?_toArray, List.getElem?_cons_succ, List.getElem?_cons_zero]; rfl) (by kernel_rfl) (by intro _ _ _ h; exact h) (by rfl) (by assumption) ?_ ?_
          rotate_left
          · intro W hSw; (try dsimp only at hSw); go_simp; try with_reducible rfl
          simp only [Act.put, List.setIfInBounds_toArray, List.set_cons_zero, List.set_cons_succ]
          refine heldDone (by kernel_rfl) ?_ _
          have hosl := HOSL.out.below hKe
          clear HOSL hKe hHeld q0 q1 q2 hpl z1 z2
          go_wp2_with fail
          refine (rat11_any ab (K6 0) half _ L key now _ (hosl.get (i := 0) rfl) HOKF.out (by omega) (by omega) hn1).mono ?_
          rintro e y1 ⟨rfl, hb1'⟩
          rw [HCV.out]
          have hosy := hosl.below hb1'
          clear hosl hb1'
          go_wp2_with fail
          refine (even11_any lb ab (K6 5) (K6 0) half _ _ _ L key now 100 _ (hosy.get (i := 5) rfl) (hosy.get (i := 0) rfl) HX.out HOKF.out (by omega) (by omega) (by omega) HKY.out hn1 (by omega)).mono ?_
          rintro e y2 ⟨rfl, hb2'⟩
          have hosz := hosy.below hb2'
          clear hosy hb2'
          go_wp2_with fail
          refine (even11_any rb ab (K6 6) (K6 0) half _ _ _ L key now 100 _ (hosz.get (i := 6) rfl) (hosz.get (i := 0) rfl) HY.out HOKF.out (by omega) (by omega) (by omega) HKY.out hn1 (by omega)).mono ?_
          rintro e y3 ⟨rfl, hb3'⟩
          have HBZ := Lib.hid (hosz.below hb3').bl
          clear hosz hb3'
          go_wp2
          go_ret
          exact ⟨rfl, HBZ.out⟩
end Go.Proofs.Ytgahopkbgefjdaa
