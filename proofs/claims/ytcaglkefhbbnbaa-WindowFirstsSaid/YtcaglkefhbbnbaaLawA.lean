/- Rows of adds in memory; contracts of the statements' helpers long and fill, and of the reference's Right. -/
import Derived.Test.YtcaglkefhbbnbaaPaneE
namespace Go.Proofs.Ytcaglkefhbbnbaa
open Go.ChangeShapes Go.WideShapes Go.ChangeAt Go.RowKit
set_option linter.unusedVariables false
set_option linter.unusedSimpArgs false

def addCells (a : AddD) : List Value := [.string a.key, .int .i64 a.at_, .int .i64 a.n]

theorem flat3 {α : Type} (f : α → List Value) (hf : ∀ x, (f x).length = 3) : ∀ (l : List α) (k j : Nat) (hk : k < l.length), j < 3 → (l.flatMap f)[k * 3 + j]? = (f l[k])[j]?
  | [], k, j, hk, _ => by simp at hk
  | x :: l, 0, j, _, hj => by
    rw [List.flatMap_cons, List.getElem?_append_left (by rw [hf]; omega)]
    simp
  | x :: l, k + 1, j, hk, hj => by
    have h1 : (k + 1) * 3 + j = (f x).length + (k * 3 + j) := by rw [hf]; omega
    rw [List.flatMap_cons, h1, List.getElem?_append_right (by omega)]
    simp only [Nat.add_sub_cancel_left]
    rw [flat3 f hf l k j (by simpa using hk) hj]
    simp

/-- A slice of adds. -/
def AddsAt (w : World) (B : Nat) (A : Option Addr) (l : List AddD) : Prop := Reads w B 3 A l.length (l.flatMap addCells)

theorem AddsAt.one {w : World} {B : Nat} {A : Option Addr} {l : List AddD} (h : AddsAt w B A l) {k : Nat} (hk : k < l.length) :
    ∃ b o, A = some ⟨b, o, none⟩ ∧ b < B ∧ w.cell? ⟨b, o + k * 3, none⟩ = some (.string l[k].key) ∧ w.cell? ⟨b, o + k * 3 + 1, none⟩ = some (.int .i64 l[k].at_) ∧ w.cell? ⟨b, o + k * 3 + 1 + 1, none⟩ = some (.int .i64 l[k].n) := by
  obtain ⟨b, o, e, hb, hc⟩ := h.2 (by omega)
  have f := fun j (hj : j < 3) => flat3 addCells (fun _ => rfl) l k j hk hj
  refine ⟨b, o, e, hb, ?_, ?_, ?_⟩
  · have := hc (k * 3 + 0) _ (by rw [f 0 (by omega)]; rfl)
    simpa using this
  · have := hc (k * 3 + 1) _ (by rw [f 1 (by omega)]; rfl)
    simpa [Nat.add_assoc] using this
  · have := hc (k * 3 + 2) _ (by rw [f 2 (by omega)]; rfl)
    simpa [Nat.add_assoc] using this
theorem AddsAt.below {w w' : World} {B : Nat} {A : Option Addr} {l : List AddD} (h : AddsAt w B A l) (hb : Below B w w') : AddsAt w' B A l := Reads.below h hb

def longB (l : List AddD) : Bool := l.any (fun a => decide (60 < (a.key.size : Int))) || decide (60 < (l.length : Int))
def rightB (a : AddD) : Bool := decide (1 ≤ (a.key.size : Int)) && decide ((a.key.size : Int) ≤ 24) && decide (0 ≤ a.at_) && decide (a.at_ ≤ 1099511627776) && decide (0 ≤ a.n) && decide (a.n ≤ 1048576)

theorem longB_no {l : List AddD} (h : longB l = false) : l.length ≤ 60 ∧ ∀ a ∈ l, a.key.size ≤ 60 := by
  simp [longB] at h
  exact ⟨by omega, fun a ha => by have := h.1 a ha; omega⟩

set_option maxHeartbeats 1000000 in
theorem long_any (A : Option Addr) (c : Nat) (l : List AddD) (w : World) (h : AddsAt w w.heap.size A l) (hl : (l.length : Int) ≤ 9223372036854775807) :
    Calls Try.prog 20 #[.slice A l.length c] w fun e w' => e = .returned (.bool (longB l)) ∧ Below w.heap.size w w' := by
  go_enter Try.func20, Try.ntmps20
  go_wp2_with fail
  go_loopg [7] l.length (fun rest i wr => ∃ k : Nat, i = .int .i64 k ∧ Hid (k + rest = l.length) ∧ Hid (∀ j (hj : j < l.length), j < k → ¬ (60 < (l[j].key.size : Int))) ∧ Below w.heap.size w wr)
  case atStart => exact ⟨0, rfl, Lib.hid (by simp), Lib.hid (by intro j _ h; omega), Below.refl _ _⟩
  case round =>
    obtain ⟨k, rfl, HK, HA, hb⟩ := hrel
    by_cases hk : (k : Int) < (l.length : Int)
    · have hkl : k < l.length := by omega
      obtain ⟨b, o, rfl, hbl, c1, c2, c3⟩ := (h.below hb).one hkl
      have hz := hb.size
      by_cases hs : 60 < (l[k].key.size : Int)
      · have hfin : longB l = true := by
          simp only [longB, Bool.or_eq_true, List.any_eq_true, decide_eq_true_eq]
          exact .inl ⟨l[k], List.getElem_mem hkl, hs⟩
        have HF := Lib.hid hfin
        clear hfin
        generalize l[k] = x at *
        go_wp2
        go_ret
        exact ⟨ret_bool HF.out.symm, (hb.alloc hz _)⟩
      · have HS := Lib.hid hs
        have hs' : (l[k].key.size : Int) ≤ 60 := by omega
        clear hs
        have HA' : Hid (∀ j (hj : j < l.length), j < k + 1 → ¬ (60 < (l[j].key.size : Int))) := Lib.hid (fun j hj hjk => by
          by_cases e : j = k
          · subst e; exact HS.out
          · exact HA.out j hj (by omega))
        generalize l[k] = x at *
        go_wp2
        go_roundg (gk - 1)
        case measure => have := HK.out; omega
        case rel => exact ⟨k + 1, by go_num, Lib.hid (by have := HK.out; omega), HA', hb.alloc hz _⟩
    · go_wp2
      go_ret
      refine ⟨ret_bool ?_, hb⟩
      have : l.any (fun a => decide (60 < (a.key.size : Int))) = false := by
        rw [List.any_eq_false]
        intro a ha
        obtain ⟨j, hj, rfl⟩ := List.getElem_of_mem ha
        simpa using HA.out j hj (by omega)
      simp [longB, this]
end Go.Proofs.Ytcaglkefhbbnbaa
