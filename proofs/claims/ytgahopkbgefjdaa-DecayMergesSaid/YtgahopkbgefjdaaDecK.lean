/- Contract of (*decay.Counter).put at greater numbers (for Merge). -/
import Derived.Test.YtgahopkbgefjdaaDecC
import Derived.Test.YtgahopkbgefjdaaDecJ
namespace Go.Proofs.Ytgahopkbgefjdaa
open Go.ChangeShapes Go.WideShapes Go.ChangeAt Go.RowKit
set_option linter.unusedVariables false
set_option linter.unusedSimpArgs false

/-- What put leaves; other keys' rows are as they were. -/
def DPutG (w : World) (cb bs : Nat) (hf c0 : Int) (S : KeysL) (R : Nat → RowL) (key : ByteArray) (hist : List AddD) (cnt : Int) (e : Ending) (w' : World) : Prop :=
  e = .returned (.tuple #[]) ∧ ∃ S' R', DecAt w' cb bs hf c0 S' R' ∧ DecInv S' R' hist cnt ∧ Keeps (decFoot cb bs S) w w' ∧ (∀ k, decFoot cb bs S' k → decFoot cb bs S k ∨ w.heap.size ≤ k) ∧ ∀ p ∈ S, p ∈ S' ∧ (p.1 ≠ key → R' p.2 = R p.2)

set_option maxRecDepth 20000 in
set_option maxHeartbeats 1000000 in
theorem dputG_any (cb bs : Nat) (hf c0 : Int) (S : KeysL) (R : Nat → RowL) (hist : List AddD) (cnt : Int) (key : ByteArray) (at_ n : Int) (w : World) (h : DecAt w cb bs hf c0 S R) (hI : DecInv S R hist cnt) (hok : key.size ≤ maxLen)
    (a0 : 0 ≤ at_) (a1 : at_ ≤ 1099511627776) (n0 : 1 ≤ n) (n1 : n ≤ 1099511627776) (ht : (hist.map (·.n)).sum + n ≤ 1048576 * cnt) :
    Calls Try.prog 25 #[.pointer (some ⟨cb, 0, none⟩), .string key, .int .i64 at_, .int .i64 n] w (DPutG w cb bs hf c0 S R key (hist ++ [⟨key, at_, n⟩]) cnt) := by
  obtain ⟨c1, c2, c3⟩ := cell_of_dec h
  have hlo := look_out h.sums hok
  have hmm := @run_makeMap Try.prog
  have hnil : ∀ (W : World) (m : Option Nat), (binOp .eql 54 (.map m) (.map none)).run Try.prog W = .ok (.bool m.isNone) W := fun W m => by
    simp only [binOp]
    simp [run_equal_map_nil W _ _ _ m Try.underlying54]
  have hn : ¬ n = 0 := by omega
  have hn' : (n == 0) = false := by simp [hn]
  cases hb : mget S key with
  | some b =>
    rw [hb] at hlo
    have hm := mget_some_mem hb
    have hli := look_in (h.rows _ hm) (x := at_) ⟨by omega, by omega⟩
    have hv := hI.val_bd hm h.sums.nodup at_
    obtain ⟨W2, hrun, hD2, hK2⟩ := dec_store h hb (x := at_) ⟨by omega, by omega⟩ ((mget (R b) at_).getD 0 + n)
    have hI2 := hI.oldG h.sums.nodup h.apart hb (h.rows _ hm).nodup (by omega) ⟨a0, a1⟩ ht
    have HI := Lib.hid hI2
    have HD := Lib.hid hD2
    have HO : Hid (∀ p ∈ S, p ∈ S ∧ (p.1 ≠ key → upd R b (mput (R b) at_ ((mget (R b) at_).getD 0 + n)) p.2 = R p.2)) := Lib.hid (fun p hp => ⟨hp, fun hne => upd_ne R _ (fun e => hne (by have := snd_inj h.apart hp hm e; rw [this]))⟩)
    clear hI2 hD2 hI
    simp only at hv hli
    generalize (mget (R b) at_).getD 0 = v at *
    go_enter Try.func25, Try.ntmps25
    go_wp2
    go_end0
    exact ⟨rfl, S, _, HD.out, HI.out, hK2, fun k hk => .inl hk, HO.out⟩
  | none =>
    rw [hb] at hlo
    obtain ⟨W1, hrun1, hD1, hK1⟩ := dec_new h hb hok
    have hS1 : mget (S ++ [(key, w.heap.size)]) key = some w.heap.size := by rw [mget_append, hb]; simp [mget]
    have hlo1 := look_out hD1.sums hok
    rw [hS1] at hlo1
    have hm1 := mget_some_mem hS1
    have hli1 := look_in (hD1.rows _ hm1) (x := at_) ⟨by omega, by omega⟩
    simp only [upd_same, mget, Option.getD_none] at hli1
    obtain ⟨W2, hrun, hD2, hK2⟩ := dec_store hD1 hS1 (x := at_) ⟨by omega, by omega⟩ n
    obtain ⟨d1, d2, d3⟩ := cell_of_dec hD1
    have hI2 := hI.newG (at_ := at_) (n := n) hb (b := w.heap.size) (fun p hp e => by have := (h.rows p hp).lt; omega) (by omega) ⟨a0, a1⟩ ht
    have e3 : upd (upd R w.heap.size []) w.heap.size (mput (upd R w.heap.size [] w.heap.size) at_ n) = upd R w.heap.size [(at_, n)] := by
      funext k
      by_cases e : k = w.heap.size
      · subst e; simp [upd_same, mput, mget]
      · rw [upd_ne _ _ e, upd_ne _ _ e, upd_ne _ _ e]
    rw [e3] at hD2
    have hfoot : ∀ k, decFoot cb bs (S ++ [(key, w.heap.size)]) k → decFoot cb bs S k ∨ w.heap.size ≤ k := by
      rintro k (rfl | rfl | ⟨p, hp, rfl⟩)
      · exact .inl (.inl rfl)
      · exact .inl (.inr (.inl rfl))
      · rcases List.mem_append.1 hp with hp | hp
        · exact .inl (.inr (.inr ⟨p, hp, rfl⟩))
        · simp at hp; subst hp; exact .inr (Nat.le_refl _)
    have hKK : Keeps (decFoot cb bs S) w W2 := hK1.trans hK2 (fun k hk hf' => by
      rcases hfoot k hf' with h1 | h1
      · exact h1
      · omega)
    have HI := Lib.hid hI2
    have HD := Lib.hid hD2
    have HF := Lib.hid hfoot
    have HO : Hid (∀ p ∈ S, p ∈ S ++ [(key, w.heap.size)] ∧ (p.1 ≠ key → upd R w.heap.size [(at_, n)] p.2 = R p.2)) := Lib.hid (fun p hp => ⟨by simp [hp], fun _ => upd_ne R _ (fun e => by have := (h.rows p hp).lt; omega)⟩)
    clear hI2 hD2 hI hfoot e3 hD1 hm1 hS1
    go_enter Try.func25, Try.ntmps25
    go_wp2
    go_end0
    exact ⟨rfl, _, _, HD.out, HI.out, hKK, HF.out, HO.out⟩
end Go.Proofs.Ytgahopkbgefjdaa
