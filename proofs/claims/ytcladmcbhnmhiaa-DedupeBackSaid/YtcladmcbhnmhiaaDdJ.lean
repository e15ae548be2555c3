/- The reference's sources in memory; contracts of Name, At, Has, rising. -/
import Derived.Test.YtcladmcbhnmhiaaDdI
import Derived.Test.YtcladmcbhnmhiaaKitL
namespace Go.Proofs.Ytcladmcbhnmhiaa
open Go.ChangeShapes Go.WideShapes Go.ChangeAt Go.RowKit Go.Shelf Go.Lib Go.Sort Go.Proofs
set_option linter.unusedVariables false
set_option linter.unusedSimpArgs false

structure SrcD where
  name : ByteArray
  adr : Option Addr
  cap : Nat
  l : List Int
def intC (l : List Int) : List Value := l.map (Value.int .i64)
def srcCells (s : SrcD) : List Value := [.string s.name, .slice s.adr s.l.length s.cap]
def srcsC (xs : List SrcD) : List Value := xs.flatMap srcCells
theorem srcsC_len (xs : List SrcD) : (srcsC xs).length = xs.length * 2 := by
  unfold srcsC
  induction xs with
  | nil => rfl
  | cons r R ih => rw [List.flatMap_cons, List.length_append, ih]; simp [srcCells]; omega
theorem srcsC_append (A B : List SrcD) : srcsC (A ++ B) = srcsC A ++ srcsC B := by unfold srcsC; rw [List.flatMap_append]
theorem srcsC_one (R : List SrcD) : ∀ v ∈ srcsC R, v.oneCell' = true := by
  unfold srcsC
  intro v hv
  obtain ⟨r, -, hr⟩ := List.mem_flatMap.1 hv
  simp [srcCells] at hr
  rcases hr with rfl | rfl <;> rfl
theorem srcsC_at {R : List SrcD} {k : Nat} (hk : k < R.length) : (srcsC R)[k * 2]? = some (.string R[k].name) ∧ (srcsC R)[k * 2 + 1]? = some (.slice R[k].adr R[k].l.length R[k].cap) := by
  have e : srcsC R = srcsC (R.take k) ++ (srcCells R[k] ++ srcsC (R.drop (k + 1))) := by
    have h1 : R = R.take k ++ R[k] :: R.drop (k + 1) := by rw [← List.drop_eq_getElem_cons hk, List.take_append_drop]
    conv => lhs; rw [h1, srcsC_append]
    congr 1
  have l : (srcsC (R.take k)).length = k * 2 := by rw [srcsC_len, List.length_take]; omega
  have e1 : k * 2 - k * 2 = 0 := by omega
  have e2 : k * 2 + 1 - k * 2 = 1 := by omega
  refine ⟨?_, ?_⟩
  · rw [e, List.getElem?_append_right (by omega), l, e1]; rfl
  · rw [e, List.getElem?_append_right (by omega), l, e2]; rfl
def SrcOk (w : World) (B : Nat) (s : SrcD) : Prop := Reads w B 1 s.adr s.l.length (intC s.l)
def SrcsAt (w : World) (B : Nat) (A : Option Addr) (xs : List SrcD) : Prop := Reads w B 2 A xs.length (srcsC xs) ∧ ∀ s ∈ xs, SrcOk w B s
theorem SrcsAt.below {w w' : World} {B : Nat} {A : Option Addr} {xs : List SrcD} (h : SrcsAt w B A xs) (hb : Below B w w') : SrcsAt w' B A xs := ⟨h.1.below hb, fun s hs => (h.2 s hs).below hb⟩
theorem SrcsAt.more {w : World} {B B' : Nat} {A : Option Addr} {xs : List SrcD} (h : SrcsAt w B A xs) (hb : B ≤ B') : SrcsAt w B' A xs := ⟨h.1.more hb, fun s hs => (h.2 s hs).more hb⟩
theorem SrcsAt.one {w : World} {B : Nat} {A : Option Addr} {xs : List SrcD} (h : SrcsAt w B A xs) {k : Nat} (hk : k < xs.length) : ∃ b o, A = some ⟨b, o, none⟩ ∧ b < B ∧ w.cell? ⟨b, o + k * 2, none⟩ = some (.string xs[k].name) ∧ w.cell? ⟨b, o + k * 2 + 1, none⟩ = some (.slice xs[k].adr xs[k].l.length xs[k].cap) ∧ SrcOk w B xs[k] := by
  obtain ⟨b, o, e, hb, hc⟩ := h.1.2 (by omega)
  obtain ⟨x1, x2⟩ := srcsC_at hk
  have y2 := hc _ _ x2
  rw [← Nat.add_assoc] at y2
  exact ⟨b, o, e, hb, hc _ _ x1, y2, h.2 _ (List.getElem_mem hk)⟩
theorem int_at {w : World} {B : Nat} {A : Option Addr} {l : List Int} (h : Reads w B 1 A l.length (intC l)) {k : Nat} (hk : k < l.length) : ∃ b o, A = some ⟨b, o, none⟩ ∧ b < B ∧ w.cell? ⟨b, o + k, none⟩ = some (.int .i64 l[k]) := by
  obtain ⟨b, o, e, hb, hc⟩ := h.2 (by omega)
  exact ⟨b, o, e, hb, hc k _ (by unfold intC; rw [List.getElem?_map, List.getElem?_eq_getElem hk]; rfl)⟩

/-- Where a source is. -/
def atP (xs : List SrcD) (k : ByteArray) : Int := if xs.findIdx (fun s => decide (s.name = k)) < xs.length then (xs.findIdx (fun s => decide (s.name = k)) : Int) else -1
theorem atP_cases (xs : List SrcD) (k : ByteArray) : (atP xs k = -1 ∧ ∀ s ∈ xs, s.name ≠ k) ∨ (∃ i, ∃ h : i < xs.length, atP xs k = i ∧ xs[i].name = k ∧ ∀ j (hj : j < i), (xs[j]'(by omega)).name ≠ k) := by
  unfold atP
  by_cases h : xs.findIdx (fun s => decide (s.name = k)) < xs.length
  · rw [if_pos h]
    refine .inr ⟨_, h, rfl, ?_, fun j hj => ?_⟩
    · have := List.findIdx_getElem (w := h)
      simpa using this
    · have := List.not_of_lt_findIdx hj
      simpa using this
  · rw [if_neg h]
    refine .inl ⟨rfl, fun s hs e => h ?_⟩
    exact List.findIdx_lt_length_of_exists ⟨s, hs, by simpa using e⟩
theorem atP_eq {xs : List SrcD} {k : ByteArray} {i : Nat} (hi : i < xs.length) (h : xs[i].name = k) (hn : ∀ j (hj : j < i), (xs[j]'(by omega)).name ≠ k) : atP xs k = i := by
  rcases atP_cases xs k with ⟨-, h2⟩ | ⟨j, hj, e, h2, h3⟩
  · exact absurd h (h2 _ (List.getElem_mem hi))
  · rw [e]
    rcases Nat.lt_trichotomy i j with q | q | q
    · exact absurd h (h3 i q)
    · rw [q]
    · exact absurd h2 (hn j q)
theorem atP_none {xs : List SrcD} {k : ByteArray} (h : ∀ s ∈ xs, s.name ≠ k) : atP xs k = -1 := by
  rcases atP_cases xs k with ⟨h1, -⟩ | ⟨i, hi, -, h2, -⟩
  · exact h1
  · exact absurd h2 (h _ (List.getElem_mem hi))

set_option maxHeartbeats 4000000 in
set_option maxRecDepth 100000 in
theorem rat07_any (A : Option Addr) (c B : Nat) (xs : List SrcD) (k : ByteArray) (w : World) (h : SrcsAt w B A xs) (hl : xs.length < 1000000) :
    Calls Try.prog 19 #[.slice A xs.length c, .string k] w fun e w' => e = .returned (.int .i64 (atP xs k)) ∧ w = w' := by
  have HL := Lib.hid h
  clear h
  go_enter Try.func19, Try.ntmps19
  go_wp2_with fail
  go_loopg [5] xs.length (fun rest i wr => ∃ j : Nat, i = .int .i64 j ∧ Hid (j + rest = xs.length) ∧ (j : Int) ≤ 1000000 ∧ Hid (∀ t (ht : t < xs.length), t < j → xs[t].name ≠ k) ∧ w = wr)
  case atStart => exact ⟨0, rfl, Lib.hid (by simp), by omega, Lib.hid (fun t _ ht => by omega), rfl⟩
  case round =>
    obtain ⟨j, rfl, HJ, hj0, HN, rfl⟩ := hrel
    by_cases hj : (j : Int) < (xs.length : Int)
    · have hjl : j < xs.length := by omega
      obtain ⟨b, o, rfl, hb, y1, -, -⟩ := HL.out.one hjl
      by_cases he : xs[j].name = k
      · have hat := atP_eq hjl he (fun t ht => HN.out t (by omega) ht)
        have hb2 : (xs[j].name.toList == k.toList) = true := by rw [str_beq]; simp [he]
        have HAT := Lib.hid hat
        clear hat he
        generalize xs[j].name = x at *
        go_wp2
        go_ret
        exact ⟨by rw [HAT.out]; rfl, rfl⟩
      · have hb2 : (xs[j].name.toList == k.toList) = false := by rw [str_beq]; simp [he]
        have HN2 : Hid (∀ t (ht : t < xs.length), t < j + 1 → xs[t].name ≠ k) := Lib.hid (fun t ht htj => by
          rcases Nat.lt_or_ge t j with q | q
          · exact HN.out t ht q
          · have : t = j := by omega
            subst this
            exact he)
        clear he
        generalize xs[j].name = x at *
        go_wp2
        go_roundg (gk - 1)
        case measure => have := HJ.out; omega
        case rel => exact ⟨j + 1, by go_num, Lib.hid (by have := HJ.out; omega), by omega, HN2, rfl⟩
    · have hat := atP_none (xs := xs) (k := k) (fun s hs => by
        obtain ⟨t, ht, rfl⟩ := List.getElem_of_mem hs
        exact HN.out t ht (by have := HJ.out; omega))
      have HAT := Lib.hid hat
      clear hat
      go_wp2
      go_ret
      exact ⟨by rw [HAT.out]; rfl, rfl⟩

def hasX (X : List (ByteArray × List Int)) (k : ByteArray) (n : Int) : Prop := ∃ s ∈ X, s.1 = k ∧ n ∈ s.2
instance (X : List (ByteArray × List Int)) (k : ByteArray) (n : Int) : Decidable (hasX X k n) := inferInstanceAs (Decidable (∃ s ∈ X, s.1 = k ∧ n ∈ s.2))
def plS (s : SrcD) : ByteArray × List Int := (s.name, s.l)
/-- The sources' names rise. -/
def NamesUp (xs : List SrcD) : Prop := xs.Pairwise (fun a b => sLt a.name b.name = true)
theorem NamesUp.ne {xs : List SrcD} (h : NamesUp xs) {i j : Nat} (hi : i < xs.length) (hj : j < xs.length) (hij : i ≠ j) : xs[i].name ≠ xs[j].name := by
  rcases Nat.lt_or_ge i j with q | q
  · have := List.pairwise_iff_getElem.1 h i j hi hj q
    intro e
    rw [e, sLt_irrefl] at this
    cases this
  · have := List.pairwise_iff_getElem.1 h j i hj hi (by omega)
    intro e
    rw [e, sLt_irrefl] at this
    cases this
theorem hasX_at {xs : List SrcD} (h : NamesUp xs) {i : Nat} (hi : i < xs.length) (n : Int) : hasX (xs.map plS) xs[i].name n ↔ n ∈ xs[i].l := by
  constructor
  · rintro ⟨s, hs, e, hn⟩
    obtain ⟨d, hd, rfl⟩ := List.mem_map.1 hs
    obtain ⟨j, hj, rfl⟩ := List.getElem_of_mem hd
    by_cases hij : j = i
    · subst hij; exact hn
    · exact absurd e (h.ne hj hi hij)
  · intro hn
    exact ⟨plS xs[i], List.mem_map.2 ⟨_, List.getElem_mem hi, rfl⟩, rfl, hn⟩
theorem hasX_none {xs : List SrcD} {k : ByteArray} (h : ∀ s ∈ xs, s.name ≠ k) (n : Int) : ¬ hasX (xs.map plS) k n := by
  rintro ⟨s, hs, e, -⟩
  obtain ⟨d, hd, rfl⟩ := List.mem_map.1 hs
  exact h d hd e

set_option maxHeartbeats 4000000 in
set_option maxRecDepth 100000 in
theorem rhas07_any (A : Option Addr) (c B : Nat) (xs : List SrcD) (k : ByteArray) (n : Int) (w : World) (h : SrcsAt w B A xs) (hup : NamesUp xs) (hl : xs.length < 1000000) (hll : ∀ s ∈ xs, s.l.length < 1000000) :
    Calls Try.prog 15 #[.slice A xs.length c, .string k, .int .i64 n] w fun e w' => e = .returned (.bool (decide (hasX (xs.map plS) k n))) ∧ w = w' := by
  have q := rat07_any A c B xs k w h hl
  obtain ⟨r, hr⟩ : ∃ r : Bool, r = decide (hasX (xs.map plS) k n) := ⟨_, rfl⟩
  rw [← hr]
  have Q := Lib.hid q
  have HL := Lib.hid h
  clear q h
  go_enter Try.func15, Try.ntmps15
  go_wp2_with fail
  refine Calls.mono Q.out ?_
  rintro e w1 ⟨rfl, rfl⟩
  rcases atP_cases xs k with ⟨e1, hno⟩ | ⟨i, hi, e1, he, -⟩
  · have hd : r = false := by rw [hr]; simp [hasX_none hno]
    rw [e1]
    have HDD := Lib.hid hd
    clear e1 hd hr hno Q
    go_wp2
    go_ret
    exact ⟨by rw [HDD.out]; rfl, rfl⟩
  · subst he
    have hd : r = decide (n ∈ xs[i].l) := hr.trans (decide_eq_decide.2 (hasX_at hup hi n))
    rw [e1]
    have HDD := Lib.hid hd
    clear e1 hd hr Q
    obtain ⟨b, o, rfl, hb, -, y2, hok⟩ := HL.out.one hi
    have hln := hll _ (List.getElem_mem hi)
    have hii : (i : Int) < (xs.length : Int) := by omega
    have HOK := Lib.hid hok
    clear hok
    generalize xs[i] = s at *
    obtain ⟨name, adr, cap, l⟩ := s
    simp only at y2 hln
    have hrl : Reads w B 1 adr l.length (intC l) := HOK.out
    have HRL := Lib.hid hrl
    clear hrl HOK
    go_wp2_with fail
    go_loopg [8] l.length (fun rest i wr => ∃ j : Nat, i = .int .i64 j ∧ Hid (j + rest = l.length) ∧ (j : Int) ≤ 1000000 ∧ Hid (n ∉ l.take j) ∧ w = wr)
    case atStart => exact ⟨0, rfl, Lib.hid (by simp), by omega, Lib.hid (by simp), rfl⟩
    case round =>
      obtain ⟨j, rfl, HJ, hj0, HN, rfl⟩ := hrel
      by_cases hj : (j : Int) < (l.length : Int)
      · have hjl : j < l.length := by omega
        obtain ⟨b2, o2, rfl, hb2, z1⟩ := int_at HRL.out hjl
        have ht := List.take_succ_eq_append_getElem hjl
        have hm := List.getElem_mem hjl
        have HT := Lib.hid ht
        have HM := Lib.hid hm
        clear ht hm
        generalize l[j] = x at *
        by_cases he : x = n
        · have hd : decide (n ∈ l) = true := by rw [← he]; simpa using HM.out
          have hb3 : (x == n) = true := by simp [he]
          have HD2 := Lib.hid hd
          clear hd
          go_wp2
          go_ret
          exact ⟨by rw [HDD.out, HD2.out]; rfl, rfl⟩
        · have hb3 : (x == n) = false := by simp [he]
          have HN2 : Hid (n ∉ l.take (j + 1)) := Lib.hid (by
            rw [HT.out, List.mem_append]
            rintro (h | h)
            · exact HN.out h
            · exact he (by simpa using h : n = x).symm)
          go_wp2
          go_roundg (gk - 1)
          case measure => have := HJ.out; omega
          case rel => exact ⟨j + 1, by go_num, Lib.hid (by have := HJ.out; omega), by omega, HN2, rfl⟩
      · have hd : decide (n ∈ l) = false := by
          have h1 := HN.out
          rw [show j = l.length by have := HJ.out; omega, List.take_length] at h1
          simpa using h1
        have HD2 := Lib.hid hd
        clear hd
        go_wp2
        go_ret
        exact ⟨by rw [HDD.out, HD2.out]; rfl, rfl⟩
end Go.Proofs.Ytcladmcbhnmhiaa
