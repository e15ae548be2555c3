/- Rows of deeds in memory; the statements' helper heavy. -/
import Derived.Test.YtgahopkbgefjdaaDecE
import Derived.Test.YtgahopkbgefjdaaKitT
namespace Go.Proofs.Ytgahopkbgefjdaa
open Go.ChangeShapes Go.WideShapes Go.ChangeAt Go.RowKit
set_option linter.unusedVariables false
set_option linter.unusedSimpArgs false

structure DeedD where
  kind : Int
  a : AddD
  now : Int
def deedCells (d : DeedD) : List Value := [.int .u8 d.kind, .string d.a.key, .int .i64 d.a.at_, .int .i64 d.a.n, .int .i64 d.now]
def I64 (n : Int) : Prop := -9223372036854775808 ≤ n ∧ n ≤ 9223372036854775807
def DeedOk (d : DeedD) : Prop := (0 ≤ d.kind ∧ d.kind ≤ 255) ∧ d.a.key.size ≤ maxLen ∧ I64 d.a.at_ ∧ I64 d.a.n ∧ I64 d.now

section
variable {H : Type} {enc : TypeId × Value → H} {w : World}
theorem dec_deed : Dec enc Try.prog w 32 deedCells DeedOk := by
  refine (dec_struct3 Try.underlying32 (by kernel_rfl) rfl (by kernel_rfl) (by kernel_rfl) (dec_int Try.underlying5)
    (dec_struct3 Try.underlying30 (by kernel_rfl) rfl (by kernel_rfl) (by kernel_rfl) (dec_string Try.underlying9) (dec_int Try.underlying3) (dec_int Try.underlying2)) (dec_int Try.underlying3)).map
    (fun a => ⟨a.1, ⟨a.2.1.1, a.2.1.2.1, a.2.1.2.2⟩, a.2.2⟩) (fun a => rfl) ?_
  rintro ⟨k, ⟨s, x, n⟩, y⟩ ⟨h1, ⟨h2, h3, h4⟩, h5⟩
  exact ⟨bounds_u8 h1, h2, bounds_i64 h3, bounds_i64 h4, bounds_i64 h5⟩
theorem dec_deeds : Dec enc Try.prog w 25 (slCells (α := DeedD)) (SlEx w 5 deedCells DeedOk) :=
  dec_slice Try.underlying25 (by omega) (by kernel_rfl) (fun _ => rfl) dec_deed
end

/-- A slice of deeds. -/
def DeedsAt (w : World) (B : Nat) (A : Option Addr) (l : List DeedD) : Prop := Reads w B 5 A l.length (l.flatMap deedCells)
theorem DeedsAt.one {w : World} {B : Nat} {A : Option Addr} {l : List DeedD} (h : DeedsAt w B A l) {k : Nat} (hk : k < l.length) :
    ∃ b o, A = some ⟨b, o, none⟩ ∧ b < B ∧ w.cell? ⟨b, o + k * 5, none⟩ = some (.int .u8 l[k].kind) ∧ w.cell? ⟨b, o + k * 5 + 1, none⟩ = some (.string l[k].a.key) ∧ w.cell? ⟨b, o + k * 5 + 1 + 1, none⟩ = some (.int .i64 l[k].a.at_) ∧
      w.cell? ⟨b, o + k * 5 + 1 + 1 + 1, none⟩ = some (.int .i64 l[k].a.n) ∧ w.cell? ⟨b, o + k * 5 + 1 + 1 + 1 + 1, none⟩ = some (.int .i64 l[k].now) := by
  obtain ⟨b, o, e, hb, hc⟩ := h.2 (by omega)
  have f := fun j (hj : j < 5) => flat_getE (e := deedCells) (k := 5) (fun _ => rfl) l k j hk hj
  refine ⟨b, o, e, hb, ?_, ?_, ?_, ?_, ?_⟩
  · have := hc (k * 5 + 0) _ (by rw [f 0 (by omega)]; rfl)
    simpa using this
  · have := hc (k * 5 + 1) _ (by rw [f 1 (by omega)]; rfl)
    simpa [Nat.add_assoc] using this
  · have := hc (k * 5 + 2) _ (by rw [f 2 (by omega)]; rfl)
    simpa [Nat.add_assoc] using this
  · have := hc (k * 5 + 3) _ (by rw [f 3 (by omega)]; rfl)
    simpa [Nat.add_assoc] using this
  · have := hc (k * 5 + 4) _ (by rw [f 4 (by omega)]; rfl)
    simpa [Nat.add_assoc] using this
theorem DeedsAt.below {w w' : World} {B : Nat} {A : Option Addr} {l : List DeedD} (h : DeedsAt w B A l) (hb : Below B w w') : DeedsAt w' B A l := Reads.below h hb

def heavyB (l : List DeedD) (most : Int) : Bool := decide (most < (l.length : Int)) || l.any (fun d => decide (100 < (d.a.key.size : Int)))

theorem heavyB_no {l : List DeedD} {most : Int} (h : heavyB l most = false) : (l.length : Int) ≤ most ∧ ∀ d ∈ l, (d.a.key.size : Int) ≤ 100 := by
  simp [heavyB] at h
  exact ⟨by omega, fun a ha => by have := h.2 a ha; omega⟩

set_option maxRecDepth 20000 in
set_option maxHeartbeats 1000000 in
theorem heavy_any (A : Option Addr) (c : Nat) (l : List DeedD) (most : Int) (w : World) (h : DeedsAt w w.heap.size A l) (hl : (l.length : Int) ≤ 9223372036854775807) :
    Calls Try.prog 12 #[.slice A l.length c, .int .i64 most] w fun e w' => e = .returned (.bool (heavyB l most)) ∧ w = w' := by
  by_cases hm : most < (l.length : Int)
  · have e : heavyB l most = true := by simp [heavyB, hm]
    have E := Lib.hid e
    clear e
    go_enter Try.func12, Try.ntmps12
    go_wp2
    go_ret
    exact ⟨ret_bool E.out.symm, rfl⟩
  · go_enter Try.func12, Try.ntmps12
    go_wp2_with fail
    go_loopg [5] l.length (fun rest i wr => ∃ k : Nat, i = .int .i64 k ∧ Hid (k + rest = l.length) ∧ Hid (∀ j (hj : j < l.length), j < k → ¬ (100 < (l[j].a.key.size : Int))) ∧ w = wr)
    case atStart => exact ⟨0, rfl, Lib.hid (by simp), Lib.hid (by intro j _ h; omega), rfl⟩
    case round =>
      obtain ⟨k, rfl, HK, HA, rfl⟩ := hrel
      by_cases hk : (k : Int) < (l.length : Int)
      · have hkl : k < l.length := by omega
        obtain ⟨b, o, rfl, hbl, c0, c1, c2, c3, c4⟩ := h.one hkl
        by_cases hs : 100 < (l[k].a.key.size : Int)
        · have hfin : heavyB l most = true := by
            simp only [heavyB, Bool.or_eq_true, List.any_eq_true, decide_eq_true_eq]
            exact .inr ⟨l[k], List.getElem_mem hkl, hs⟩
          have HF := Lib.hid hfin
          clear hfin
          generalize l[k] = x at *
          go_wp2
          go_ret
          exact ⟨ret_bool HF.out.symm, rfl⟩
        · have HS := Lib.hid hs
          have hs' : (l[k].a.key.size : Int) ≤ 100 := by omega
          clear hs
          have HA' : Hid (∀ j (hj : j < l.length), j < k + 1 → ¬ (100 < (l[j].a.key.size : Int))) := Lib.hid (fun j hj hjk => by
            by_cases e : j = k
            · subst e; exact HS.out
            · exact HA.out j hj (by omega))
          generalize l[k] = x at *
          go_wp2
          go_roundg (gk - 1)
          case measure => have := HK.out; omega
          case rel => exact ⟨k + 1, by go_num, Lib.hid (by have := HK.out; omega), HA', rfl⟩
      · go_wp2
        go_ret
        refine ⟨ret_bool ?_, rfl⟩
        have : l.any (fun d => decide (100 < (d.a.key.size : Int))) = false := by
          rw [List.any_eq_false]
          intro a ha
          obtain ⟨j, hj, rfl⟩ := List.getElem_of_mem ha
          simpa using HA.out j hj (by omega)
        simp [heavyB, this]; omega
end Go.Proofs.Ytgahopkbgefjdaa
