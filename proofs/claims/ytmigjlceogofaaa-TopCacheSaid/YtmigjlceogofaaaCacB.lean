/- Contracts of the cache's use and Get. -/
import Derived.Test.YtmigjlceogofaaaCacA
namespace Go.Proofs.Ytmigjlceogofaaa
open Go.ChangeShapes Go.WideShapes Go.ChangeAt Go.RowKit
set_option linter.unusedVariables false
set_option linter.unusedSimpArgs false

section
variable {w : World} {cb bs : Nat} {sz us : Int} {S : EntL} {E : Nat → EntV}

theorem CacAt.bump (h : CacAt w cb bs sz us S E) (x : Int) : CacAt (w.setCell ⟨cb, 1, none⟩ (.int .u64 x)) cb bs sz x S E := by
  have hk : Keeps (fun k => k = cb) w (w.setCell ⟨cb, 1, none⟩ (.int .u64 x)) := (Keeps.refl (fun k => k = cb) w).setCell (p := ⟨cb, 1, none⟩) (.inr rfl) _
  refine ⟨?_, h.ents.keep hk (fun e => h.cb_ne.1 e.symm), fun p hp => (hk.block _ (h.lt _ (.inl (.inr (.inr ⟨p, hp, rfl⟩)))) (h.ne p hp)).trans (h.rows p hp), fun p hp => ((h.deps p hp).keep hk (Nat.le_refl _) (fun b o sp e => (h.dne p hp b ⟨o, sp, e⟩).2.1)).more hk.size, h.ne, h.apart, fun p hp k hkk => ⟨Nat.lt_of_lt_of_le (h.dne p hp k hkk).1 hk.size, (h.dne p hp k hkk).2⟩, h.vals⟩
  have hb := h.blk
  simp [World.setCell, Array.getElem?_modify, hb]

def EntV.use (e : EntV) (x : Int) : EntV := { e with used := x }

theorem CacAt.used (h : CacAt w cb bs sz us S E) {p : ByteArray × Nat} (hp : p ∈ S) (x : Int) : CacAt (w.setCell ⟨p.2, 2, none⟩ (.int .u64 x)) cb bs sz us S (fun k => if k = p.2 then (E k).use x else E k) := by
  have hk : Keeps (fun k => k = p.2) w (w.setCell ⟨p.2, 2, none⟩ (.int .u64 x)) := (Keeps.refl (fun k => k = p.2) w).setCell (p := ⟨p.2, 2, none⟩) (.inr rfl) _
  have hA : ∀ k, (if k = p.2 then (E k).use x else E k).A = (E k).A := fun k => by split <;> rfl
  have hD : ∀ k, (if k = p.2 then (E k).use x else E k).deps = (E k).deps := fun k => by split <;> rfl
  have hV : ∀ k, (if k = p.2 then (E k).use x else E k).val = (E k).val := fun k => by split <;> rfl
  have hat : ∀ j k, (if j = p.2 then (E j).use x else E j).at_ k ↔ (E j).at_ k := fun j k => by unfold EntV.at_; rw [hA]
  refine ⟨(hk.block _ (h.lt _ (.inl (.inl rfl))) (fun e => h.ne p hp e.symm)).trans h.blk, h.ents.keep hk (fun e => h.cb_ne.2 p hp e.symm), ?_, ?_, h.ne, h.apart, ?_, ?_⟩
  · intro q hq
    by_cases e : q.2 = p.2
    · have hb := h.rows p hp
      simp only [e, if_true]
      simp [World.setCell, Array.getElem?_modify, hb, EntV.row, EntV.use]
    · simp only [e, if_false]
      exact (hk.block _ (h.lt _ (.inl (.inr (.inr ⟨q, hq, rfl⟩)))) e).trans (h.rows q hq)
  · intro q hq
    simp only [hA, hD]
    exact ((h.deps q hq).keep hk (Nat.le_refl _) (fun b o sp e => (h.dne q hq b ⟨o, sp, e⟩).2.2.2 p hp)).more hk.size
  · intro q hq k hkk
    rw [hat] at hkk
    exact ⟨Nat.lt_of_lt_of_le (h.dne q hq k hkk).1 hk.size, (h.dne q hq k hkk).2⟩
  · intro q hq
    simp only [hV]
    exact h.vals q hq

set_option maxHeartbeats 400000 in
theorem cuse_any (h : CacAt w cb bs sz us S E) (h0 : 0 ≤ us) (h1 : us ≤ 1000000) :
    Calls Try.prog 54 #[.pointer (some ⟨cb, 0, none⟩)] w fun e w' => e = .returned (.int .u64 (us + 1)) ∧ w' = w.setCell ⟨cb, 1, none⟩ (.int .u64 (us + 1)) := by
  obtain ⟨c0, c1, c2⟩ := cell_of_cac h
  have hfz : w.frozen? ⟨cb, 1, none⟩ = false := by simp [World.frozen?, h.blk]
  have hb2 := (h.bump (us + 1))
  obtain ⟨d0, d1, d2⟩ := cell_of_cac hb2
  go_enter Try.func54, Try.ntmps54
  go_wp2
  go_ret
  exact ⟨rfl, rfl⟩

/-- What Get leaves. -/
def CGet (w : World) (cb bs : Nat) (sz us : Int) (S : EntL) (E : Nat → EntV) (key : ByteArray) (e : Ending) (w' : World) : Prop :=
  match mget S key with
  | none => e = .returned (.tuple #[.string ByteArray.empty, .bool false]) ∧ w = w'
  | some b => e = .returned (.tuple #[.string (E b).val, .bool true]) ∧ CacAt w' cb bs sz (us + 1) S (fun k => if k = b then (E k).use (us + 1) else E k) ∧ Keeps (cacW cb bs S) w w' ∧ w'.heap.size = w.heap.size

theorem zero_ent (w : World) : (zeroValue 111).run Try.prog w = .ok (.pointer none) w := by kernel_rfl

set_option maxHeartbeats 1000000 in
theorem cget_any (h : CacAt w cb bs sz us S E) (h0 : 0 ≤ us) (h1 : us ≤ 1000000) (key : ByteArray) (hkey : key.size ≤ maxLen) :
    Calls Try.prog 19 #[.pointer (some ⟨cb, 0, none⟩), .string key] w (CGet w cb bs sz us S E key) := by
  obtain ⟨c0, c1, c2⟩ := cell_of_cac h
  have hlook := h.ents.lookOk (P := Try.prog) strKey (t := 94) Try.underlying94 zero_ent (x := key) hkey
  cases hg : mget S key with
  | none =>
    have HP : Hid (CGet w cb bs sz us S E key (.returned (.tuple #[.string ByteArray.empty, .bool false])) w) := Lib.hid (by unfold CGet; rw [hg]; exact ⟨rfl, rfl⟩)
    rw [hg] at hlook
    simp only [strKf, Option.map_none, Option.getD_none] at hlook
    go_enter Try.func19, Try.ntmps19
    go_wp2
    refine bodyPost_ret (results_tmp2 rfl _ _ _) rfl ?_
    exact HP.out
  | some b =>
    have hm := mget_some_mem hg
    obtain ⟨e0, e1, e2⟩ := cell_of_ent h hm
    have hA := h.bump (us + 1)
    have hB := hA.used hm (us + 1)
    have hw1 : (w.setCell ⟨cb, 1, none⟩ (.int .u64 (us + 1))).heap.size = w.heap.size := by simp [World.setCell]
    have HP : Hid (CGet w cb bs sz us S E key (.returned (.tuple #[.string (E b).val, .bool true])) ((w.setCell ⟨cb, 1, none⟩ (.int .u64 (us + 1))).setCell ⟨b, 2, none⟩ (.int .u64 (us + 1)))) := Lib.hid (by
      unfold CGet; rw [hg]
      exact ⟨rfl, hB, ((Keeps.refl _ w).setCell (p := ⟨cb, 1, none⟩) (.inr (.inl rfl)) _).setCell (p := ⟨b, 2, none⟩) (.inr (.inr (.inr ⟨_, hm, rfl⟩))) _, by simp [World.setCell]⟩)
    obtain ⟨f0, f1, f2⟩ := cell_of_ent hB hm
    simp only [if_true, EntV.use] at f0 f1 f2
    have hfz : (w.setCell ⟨cb, 1, none⟩ (.int .u64 (us + 1))).frozen? ⟨b, 2, none⟩ = false := by simp [World.frozen?, hA.rows _ hm]
    have HU := Lib.hid (cuse_any h h0 h1)
    rw [hg] at hlook
    simp only [strKf, ptrVf, Option.map_some, Option.getD_some] at hlook
    clear hA hB hw1
    go_enter Try.func19, Try.ntmps19
    go_wp2_with fail
    refine HU.out.mono ?_
    rintro e w1 ⟨rfl, rfl⟩
    go_wp2
    refine bodyPost_ret (results_tmp2 rfl _ _ _) rfl ?_
    exact HP.out
end
end Go.Proofs.Ytmigjlceogofaaa
