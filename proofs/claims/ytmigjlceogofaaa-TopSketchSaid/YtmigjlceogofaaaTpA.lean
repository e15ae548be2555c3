/- The top statements' rows of adds; their helpers few and counts. -/
import Derived.Test.YtmigjlceogofaaaDecA
import Derived.Test.YtmigjlceogofaaaPaneE
import Derived.Test.YtmigjlceogofaaaKitT
namespace Go.Proofs.Ytmigjlceogofaaa
open Go.ChangeShapes Go.WideShapes Go.ChangeAt Go.RowKit
set_option linter.unusedVariables false
set_option linter.unusedSimpArgs false

def taddCells (a : AddD) : List Value := [.string a.key, .int .u16 a.at_, .int .u16 a.n]
def TAddOk (a : AddD) : Prop := a.key.size ≤ maxLen ∧ (0 ≤ a.at_ ∧ a.at_ ≤ 65535) ∧ (0 ≤ a.n ∧ a.n ≤ 65535)
section
variable {H : Type} {enc : TypeId × Value → H} {w : World}
theorem dec_tadd : Dec enc Try.prog w 31 taddCells TAddOk := by
  refine (dec_struct3 Try.underlying31 (by kernel_rfl) rfl (by kernel_rfl) (by kernel_rfl) (dec_string Try.underlying9) (dec_int Try.underlying24) (dec_int Try.underlying24)).map
    (fun a => ⟨a.1, a.2.1, a.2.2⟩) (fun a => rfl) ?_
  rintro ⟨s, x, n⟩ ⟨h1, h2, h3⟩
  exact ⟨h1, bounds_u16 h2, bounds_u16 h3⟩
theorem dec_tadds : Dec enc Try.prog w 22 (slCells (α := AddD)) (SlEx w 3 taddCells TAddOk) :=
  dec_slice Try.underlying22 (by omega) (by kernel_rfl) (fun _ => rfl) dec_tadd
theorem dec_u16s : Dec enc Try.prog w 23 (slCells (α := Int)) (SlEx w 1 (fun n : Int => [.int .u16 n]) (fun n => 0 ≤ n ∧ n ≤ 65535)) :=
  dec_slice Try.underlying23 (by omega) (by kernel_rfl) (fun _ => rfl) ((dec_int Try.underlying24).map id (fun a => rfl) (fun a h => bounds_u16 h))
end
def TAddsAt (w : World) (B : Nat) (A : Option Addr) (l : List AddD) : Prop := Reads w B 3 A l.length (l.flatMap taddCells) ∧ ∀ a ∈ l, TAddOk a
theorem TAddsAt.one {w : World} {B : Nat} {A : Option Addr} {l : List AddD} (h : TAddsAt w B A l) {k : Nat} (hk : k < l.length) :
    ∃ b o, A = some ⟨b, o, none⟩ ∧ b < B ∧ w.cell? ⟨b, o + k * 3, none⟩ = some (.string l[k].key) ∧ w.cell? ⟨b, o + k * 3 + 1, none⟩ = some (.int .u16 l[k].at_) ∧ w.cell? ⟨b, o + k * 3 + 1 + 1, none⟩ = some (.int .u16 l[k].n) := by
  obtain ⟨b, o, e, hb, hc⟩ := h.1.2 (by omega)
  have f := fun j (hj : j < 3) => flat_getE (e := taddCells) (k := 3) (fun _ => rfl) l k j hk hj
  refine ⟨b, o, e, hb, ?_, ?_, ?_⟩
  · have := hc (k * 3 + 0) _ (by rw [f 0 (by omega)]; rfl)
    simpa using this
  · have := hc (k * 3 + 1) _ (by rw [f 1 (by omega)]; rfl)
    simpa [Nat.add_assoc] using this
  · have := hc (k * 3 + 2) _ (by rw [f 2 (by omega)]; rfl)
    simpa [Nat.add_assoc] using this
theorem TAddsAt.below {w w' : World} {B : Nat} {A : Option Addr} {l : List AddD} (h : TAddsAt w B A l) (hb : Below B w w') : TAddsAt w' B A l := ⟨h.1.below hb, h.2⟩

def fewB (l : List AddD) : Bool := decide ((l.length : Int) ≤ 60) && l.all (fun a => decide ((a.key.size : Int) ≤ 24))
theorem fewB_yes {l : List AddD} (h : fewB l = true) : (l.length : Int) ≤ 60 ∧ ∀ a ∈ l, (a.key.size : Int) ≤ 24 := by
  simp only [fewB, Bool.and_eq_true, decide_eq_true_eq, List.all_eq_true] at h
  exact h

set_option maxRecDepth 20000 in
set_option maxHeartbeats 1000000 in
theorem few_any (A : Option Addr) (c : Nat) (l : List AddD) (w : World) (h : TAddsAt w w.heap.size A l) (hl : (l.length : Int) ≤ 9223372036854775807) :
    Calls Try.prog 8 #[.slice A l.length c] w fun e w' => e = .returned (.bool (fewB l)) ∧ Below w.heap.size w w' := by
  go_enter Try.func8, Try.ntmps8
  go_wp2_with fail
  go_loopg [7] l.length (fun rest i wr => ∃ k : Nat, i = .int .i64 k ∧ Hid (k + rest = l.length) ∧ Hid (∀ j (hj : j < l.length), j < k → (l[j].key.size : Int) ≤ 24) ∧ Below w.heap.size w wr)
  case atStart => exact ⟨0, rfl, Lib.hid (by simp), Lib.hid (by intro j _ h; omega), Below.refl _ _⟩
  case round =>
    obtain ⟨k, rfl, HK, HA, hb⟩ := hrel
    have hkl' : (k : Int) ≤ (l.length : Int) := by have := HK.out; omega
    by_cases hk : (k : Int) < (l.length : Int)
    · have hkl : k < l.length := by omega
      obtain ⟨b, o, rfl, hbl, c0, c1, c2⟩ := (h.below hb).one hkl
      have hz := hb.size
      by_cases hs : 24 < (l[k].key.size : Int)
      · have hfin : fewB l = false := by
          cases hf : fewB l with
          | false => rfl
          | true => have := (fewB_yes hf).2 _ (List.getElem_mem hkl); omega
        have HF := Lib.hid hfin
        clear hfin
        generalize l[k] = x at *
        go_wp2
        go_ret
        exact ⟨ret_bool HF.out.symm, hb.alloc hz _⟩
      · have hs' : (l[k].key.size : Int) ≤ 24 := by omega
        have HA' : Hid (∀ j (hj : j < l.length), j < k + 1 → (l[j].key.size : Int) ≤ 24) := Lib.hid (fun j hj hjk => by
          by_cases e : j = k
          · subst e; omega
          · exact HA.out j hj (by omega))
        clear hs
        generalize l[k] = x at *
        go_wp2
        go_roundg (gk - 1)
        case measure => have := HK.out; omega
        case rel => exact ⟨k + 1, by go_num, Lib.hid (by have := HK.out; omega), HA', hb.alloc hz _⟩
    · have hall : l.all (fun a => decide ((a.key.size : Int) ≤ 24)) = true := by
        rw [List.all_eq_true]
        intro a ha
        obtain ⟨j, hj, rfl⟩ := List.getElem_of_mem ha
        simpa using HA.out j hj (by omega)
      have HF : Hid (fewB l = decide ((l.length : Int) ≤ 60)) := Lib.hid (by unfold fewB; rw [hall, Bool.and_true])
      clear hall
      by_cases h60 : (l.length : Int) ≤ 60
      · have h60' : decide ((l.length : Int) ≤ 60) = true := by simpa using h60
        go_wp2
        go_ret
        exact ⟨ret_bool (by rw [HF.out, h60']), hb⟩
      · have h60' : decide ((l.length : Int) ≤ 60) = false := by simpa using h60
        go_wp2
        go_ret
        exact ⟨ret_bool (by rw [HF.out, h60']), hb⟩

set_option maxRecDepth 20000 in
set_option maxHeartbeats 1000000 in
theorem counts_any (w : World) : Calls Try.prog 7 #[] w fun e w' => e = .returned (.bool true) ∧ Below w.heap.size w w' := by
  have hwd : widthOf 10 = 10 := by decide
  have HW := Lib.hid hwd
  have ha : addB ⟨#[97]⟩ 5 3 ([] : List AddD).length = true := by decide
  have HA := Lib.hid ha
  have hs : histTot 10 [⟨⟨#[97]⟩, 5, 3⟩] ⟨#[97]⟩ (0 / 10) (10 / 10) = 3 := by decide
  have HS := Lib.hid hs
  have hwt : wtV 0 5 = 1048576 := by decide
  have HWT := Lib.hid hwt
  have n1 : (ByteArray.mk #[97]).size ≤ maxLen := by decide
  clear hwd ha hs hwt
  go_enter Try.func7, Try.ntmps7
  go_wp2_with fail
  refine (pnew_any 10 _).mono ?_
  rintro e w1 ⟨pb, F1, rfl, hp1, hF1, hb1⟩
  rw [HW.out] at hp1
  go_wp2_with fail
  refine (padd_any pb F1 10 [] ⟨#[97]⟩ 5 3 w1 hp1).mono ?_
  rw [HA.out]
  rintro e w2 ⟨rfl, F2, hp2, hk2, hf2⟩
  have hb2 : Below w.heap.size w w2 := hb1.trans (hk2.toBelow hb1.size hF1)
  simp only [if_true, List.nil_append] at hp2
  clear hk2 hf2
  go_wp2_with fail
  refine (psum_any pb F2 10 _ ⟨#[97]⟩ 0 10 w2 hp2 n1 (by omega) (by omega) (by omega) (by omega)).mono ?_
  rintro e w3 ⟨rfl, rfl⟩
  rw [HS.out]
  go_wp2_with fail
  refine (dweight_any 0 5 _ (by omega)).mono ?_
  rintro e w3 ⟨rfl, rfl⟩
  rw [HWT.out]
  go_wp2
  go_ret
  exact ⟨rfl, hb2⟩
end Go.Proofs.Ytmigjlceogofaaa
