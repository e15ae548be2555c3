/- The intake's objects in memory. -/
import Derived.Test.YthbijemihaekiaaGreatDoorCkC
import Derived.Test.YthbijemihaekiaaGreatDoorTlK
import Derived.Test.YthbijemihaekiaaGreatDoorTlM
import Derived.Test.YthbijemihaekiaaGreatDoorDdD
import Derived.Test.YthbijemihaekiaaGreatDoorKitOb
import Derived.Test.YthbijemihaekiaaGreatDoorKitKs
import Derived.Test.YthbijemihaekiaaGreatDoorDdMs
namespace Go.Proofs.YthbijemihaekiaaGreatDoor
open Go.ChangeShapes Go.WideShapes Go.ChangeAt Go.RowKit
set_option linter.unusedVariables false
set_option linter.unusedSimpArgs false

/-! ### The identities as keys -/
abbrev IdD := ByteArray × Int
def idKf (k : IdD) : Value := .agg #[.string k.1, .int .i64 k.2]
def idOk (k : IdD) : Prop := k.1.size ≤ maxLen ∧ -9223372036854775808 ≤ k.2 ∧ k.2 ≤ 9223372036854775807
def boolVf (b : Bool) : Value := .bool b
theorem id_law : WideMaps.KeyLaw Tryz.prog 66 := deep_law_laid (by kernel_rfl) (m := 2) (by omega) (of_decide_eq_true (by kernel_rfl)) (by kernel_rfl) (by kernel_rfl)
theorem types_pos : ∃ m, Tryz.prog.types.size = m + 1 := by
  have h : decide (0 < Tryz.prog.types.size) = true := by kernel_rfl
  have h2 := of_decide_eq_true h
  generalize Tryz.prog.types.size = s at *
  exact ⟨s - 1, by omega⟩
theorem idKey : KeyFn Tryz.prog 66 idKf idOk := KeyFn.of_keyed (Maps.Keyed.of_law id_law) (fun {x y} h => by
    obtain ⟨a, b⟩ := x
    obtain ⟨c, d⟩ := y
    simp [idKf] at h
    simp [h]) (fun x hx => by
    obtain ⟨m, hm⟩ := types_pos
    exact keyOf_struct2 Tryz.underlying66 (by kernel_rfl) _ _ (by kernel_rfl) (by kernel_rfl) (by kernel_rfl) (by kernel_rfl) (by kernel_rfl) (by kernel_rfl) (by kernel_rfl) hm (keyLits_str Tryz.underlying9 hx.1 m) (keyLits_i64 Tryz.underlying3 (WalkArith.wf_i64 hx.2) m))

/-! ### The objects -/
def kOb (pb : Nat) (o : Obj) : Ob1 := ⟨fun w F => F = (fun k => k = pb) ∧ w.heap[pb]? = some o, ⟨by
  rintro w w' F G ⟨rfl, h⟩ hk hd
  exact ⟨rfl, (hk.block pb (Array.getElem?_eq_some_iff.1 h).1 (hd pb rfl)).trans h⟩, by
  rintro w F ⟨rfl, h⟩ k rfl
  exact (Array.getElem?_eq_some_iff.1 h).1⟩⟩
def ckOb (cb mb : Nat) (sl mk : Int) (D : CkD) : Ob1 := ⟨fun w F => F = (fun k => k = cb ∨ k = mb) ∧ ClkAt w cb mb sl mk D, ⟨by
  rintro w w' F G ⟨rfl, h⟩ hk hd
  exact ⟨rfl, h.keep hk (hd cb (.inl rfl)) (hd mb (.inr rfl))⟩, by
  rintro w F ⟨rfl, h⟩ k (rfl | rfl)
  · exact h.lt.1
  · exact h.lt.2.1⟩⟩
def setOb (sb : Nat) (F0 : RowsF) : Ob1 := ⟨fun w F => SetObj w sb F F0, SetObj.own sb F0⟩
def rowOb (A : Option Addr) (c : Nat) (R : List EvV) : Ob1 := ⟨fun w F => F = (fun k => (Value.slice A R.length c).ownBlock = some k) ∧ w.ownsRow 0 41 8 (.slice A R.length c) R.length (evsCells R), ⟨by
  rintro w w' F G ⟨rfl, h⟩ hk hd
  exact ⟨rfl, hk.own h (fun k hk => hd k hk)⟩, by
  rintro w F ⟨rfl, h⟩ k hk
  exact (h.lt k hk).2⟩⟩
def mapOb {κ υ : Type} [DecidableEq κ] (kf : κ → Value) (vf : υ → Value) (Ok : κ → Prop) (b : Nat) (S : List (κ × υ)) : Ob1 := ⟨fun w F => F = (fun k => k = b) ∧ MapIs w kf vf Ok b S, ⟨by
  rintro w w' F G ⟨rfl, h⟩ hk hd
  exact ⟨rfl, h.keep hk (hd b rfl)⟩, by
  rintro w F ⟨rfl, h⟩ k rfl
  exact h.lt⟩⟩
/-- An intake: where it lies, and what it holds. -/
structure InV where
  ib : Nat
  cb : Nat
  cm : Nat
  sb : Nat
  lb : Nat
  gb : Nat
  sl : Int
  mark : Int
  D : CkD
  F : RowsF
  TA : Option Addr
  Tc : Nat
  T : List EvV
  LA : Option Addr
  Lc : Nat
  L : List EvV
  S : List (IdD × Bool)
def inBlk (x : InV) : Obj := .cells #[.pointer (some ⟨x.cb, 0, none⟩), .pointer (some ⟨x.sb, 0, none⟩), .slice x.TA x.T.length x.Tc, .slice x.LA x.L.length x.Lc, .map (some x.lb), .map (some x.gb)] 60
def inObs (x : InV) : List Ob1 := [ckOb x.cb x.cm x.sl x.mark x.D, setOb x.sb x.F, mapOb idKf boolVf idOk x.lb x.S, mapOb strKf boolVf strOk x.gb [], kOb x.ib (inBlk x), rowOb x.TA x.Tc x.T, rowOb x.LA x.Lc x.L]
/-- What is right of an intake: of the events that were offered, E, each was taken or is late. -/
structure InOk (x : InV) (E : List EvV) : Prop where
  ck : CkInv x.sl x.mark x.D
  had : SetOk x.F (x.T.map (fun e => (e.src, e.num)))
  lat : ∀ k, (mget x.S k).isSome = true → ∃ e ∈ E, (e.src, e.num) = k
  sub : ∀ e ∈ x.T, e ∈ E
  cnt : x.T.length + x.L.length = E.length
  bd : E.length ≤ 60
end Go.Proofs.YthbijemihaekiaaGreatDoor
