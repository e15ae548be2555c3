/- Contracts of (*decay.Counter).put and Add. -/
import Derived.Test.YtgahopkbgefjdaaDecA
namespace Go.Proofs.Ytgahopkbgefjdaa
open Go.ChangeShapes Go.WideShapes Go.ChangeAt Go.RowKit
set_option linter.unusedVariables false
set_option linter.unusedSimpArgs false

section
variable {w w' : World} {cb bs : Nat} {hf cnt : Int} {S : KeysL} {R : Nat → RowL}
theorem look_out {W : World} (h : MapIs W strKf mapVf strOk bs S) {key : ByteArray} (hok : key.size ≤ maxLen) :
    (Instr.lookup 50 (.map (some bs)) (.string key) false).run Try.prog W = .ok (.map (mget S key)) W := by
  have := h.look strKey Try.underlying50 zero_map hok
  have e : ((mget S key).map mapVf).getD (.map none) = .map (mget S key) := by cases mget S key <;> rfl
  rw [e] at this
  exact this
theorem look_in {W : World} {b : Nat} {r : RowL} (h : MapIs W intVf intVf intOk b r) {x : Int} (hok : -9223372036854775808 ≤ x ∧ x ≤ 9223372036854775807) :
    (Instr.lookup 54 (.map (some b)) (.int .i64 x) false).run Try.prog W = .ok (.int .i64 ((mget r x).getD 0)) W := by
  have := h.look intKey Try.underlying54 zero_i64 hok
  have e : ((mget r x).map intVf).getD (.int .i64 0) = .int .i64 ((mget r x).getD 0) := by cases mget r x <;> rfl
  rw [e] at this
  exact this

theorem snd_inj {S : KeysL} (hD : (S.map (·.2)).Nodup) {p q : ByteArray × Nat} (hp : p ∈ S) (hq : q ∈ S) (e : p.2 = q.2) : p = q := by
  obtain ⟨i, hi, rfl⟩ := List.getElem_of_mem hp
  obtain ⟨j, hj, rfl⟩ := List.getElem_of_mem hq
  have := List.getElem_inj (i := i) (j := j) (h₀ := by simpa using hi) (h₁ := by simpa using hj) hD
  have hij : i = j := this.1 (by simpa using e)
  subst hij
  rfl

theorem dec_store (h : DecAt w cb bs hf cnt S R) {key : ByteArray} {b : Nat} (hb : mget S key = some b) {x : Int} (hok : -9223372036854775808 ≤ x ∧ x ≤ 9223372036854775807) (v : Int) :
    ∃ w', (Instr.mapUpdate 54 (.map (some b)) (.int .i64 x) (.int .i64 v)).run Try.prog w = .ok () w' ∧ DecAt w' cb bs hf cnt S (upd R b (mput (R b) x v)) ∧ Keeps (decFoot cb bs S) w w' := by
  have hm := mget_some_mem hb
  obtain ⟨w', h1, h2, h3, h4⟩ := (h.rows _ hm).put intKey Try.underlying54 (x := x) hok v
  have hne := h.cb_ne
  refine ⟨w', h1, ⟨?_, ?_, ?_, h.ne, h.apart⟩, h3.mono (fun k _ e => .inr (.inr ⟨_, hm, e.symm⟩))⟩
  · exact (h3.block cb (Array.getElem?_eq_some_iff.1 h.blk).1 (fun e => hne.2 _ hm e.symm)).trans h.blk
  · exact h.sums.keep h3 (fun e => h.ne _ hm e.symm)
  · intro p hp
    by_cases e : p.2 = b
    · rw [e, upd_same]; exact h2
    · rw [upd_ne R _ e]; exact (h.rows p hp).keep h3 e

theorem dec_new (h : DecAt w cb bs hf cnt S R) {key : ByteArray} (hb : mget S key = none) (hok : key.size ≤ maxLen) :
    ∃ w', (Instr.mapUpdate 50 (.map (some bs)) (.string key) (.map (some w.heap.size))).run Try.prog (w.alloc (.map #[] 0)) = .ok () w' ∧ DecAt w' cb bs hf cnt (S ++ [(key, w.heap.size)]) (upd R w.heap.size []) ∧ Keeps (decFoot cb bs S) w w' := by
  have hlt := h.foot_lt
  have hne := h.cb_ne
  have hA : Keeps (fun _ => False) w (w.alloc (.map #[] 0)) := (Keeps.refl _ _).alloc _
  have hs1 := h.sums.alloc (.map #[] 0)
  obtain ⟨w', h1, h2, h3, h4⟩ := hs1.put strKey Try.underlying50 (x := key) hok w.heap.size
  have e2 : mput S key w.heap.size = S ++ [(key, w.heap.size)] := by unfold mput; rw [hb]; simp
  rw [e2] at h2
  have hbs := h.sums.lt
  have hfr : ∀ p ∈ S, p.2 ≠ w.heap.size := fun p hp e => by have := (h.rows p hp).lt; omega
  refine ⟨w', h1, ⟨?_, h2, ?_, ?_, ?_⟩, ?_⟩
  · exact (h3.block cb (by have := (Array.getElem?_eq_some_iff.1 h.blk).1; simp; omega) (fun e => hne.1 e)).trans ((hA.block cb (Array.getElem?_eq_some_iff.1 h.blk).1 (fun e => e)).trans h.blk)
  · intro p hp
    rcases List.mem_append.1 hp with hp | hp
    · rw [upd_ne R _ (hfr p hp)]
      exact ((h.rows p hp).alloc _).keep h3 (h.ne p hp)
    · simp at hp
      subst hp
      simp only [upd_same]
      exact (MapIs.made w _ _ _).keep h3 (by omega)
  · intro p hp
    rcases List.mem_append.1 hp with hp | hp
    · exact h.ne p hp
    · simp at hp; subst hp; simp only; omega
  · rw [List.map_append, List.nodup_append]
    refine ⟨h.apart, by simp, ?_⟩
    intro a ha c hc
    simp at hc
    subst hc
    obtain ⟨p, hp, rfl⟩ := List.mem_map.1 ha
    exact hfr p hp
  · exact (hA.mono (fun _ _ h => h.elim)).trans h3 (fun k _ e => .inr (.inl e))
end

/-- What put leaves. -/
def DPut (w : World) (cb bs : Nat) (hf c0 : Int) (S : KeysL) (hist : List AddD) (cnt : Int) (e : Ending) (w' : World) : Prop :=
  e = .returned (.tuple #[]) ∧ ∃ S' R', DecAt w' cb bs hf c0 S' R' ∧ DecInv S' R' hist cnt ∧ Keeps (decFoot cb bs S) w w' ∧ (∀ k, decFoot cb bs S' k → decFoot cb bs S k ∨ w.heap.size ≤ k)

set_option maxRecDepth 20000 in
set_option maxHeartbeats 1000000 in
theorem dput_any (cb bs : Nat) (hf c0 : Int) (S : KeysL) (R : Nat → RowL) (hist : List AddD) (cnt : Int) (key : ByteArray) (at_ n : Int) (w : World) (h : DecAt w cb bs hf c0 S R) (hI : DecInv S R hist cnt) (hok : key.size ≤ maxLen)
    (a0 : 0 ≤ at_) (a1 : at_ ≤ 1099511627776) (n0 : 0 ≤ n) (n1 : n ≤ 1048576) (hc : cnt < 1048576) :
    Calls Try.prog 25 #[.pointer (some ⟨cb, 0, none⟩), .string key, .int .i64 at_, .int .i64 n] w (DPut w cb bs hf c0 S (hist ++ [⟨key, at_, n⟩]) (cnt + 1)) := by
  obtain ⟨c1, c2, c3⟩ := cell_of_dec h
  have hlo := look_out h.sums hok
  have hmm := @run_makeMap Try.prog
  have hnil : ∀ (W : World) (m : Option Nat), (binOp .eql 54 (.map m) (.map none)).run Try.prog W = .ok (.bool m.isNone) W := fun W m => by
    simp only [binOp]
    simp [run_equal_map_nil W _ _ _ m Try.underlying54]
  by_cases hn : n = 0
  · subst hn
    go_enter Try.func25, Try.ntmps25
    go_wp2
    refine bodyPost_ret (results_none rfl _ _ _) rfl ?_
    exact ⟨rfl, S, R, h, hI.zero rfl ⟨a0, a1⟩ hc, Keeps.refl _ _, fun k hk => .inl hk⟩
  · have hn' : (n == 0) = false := by simp [hn]
    cases hb : mget S key with
    | some b =>
      rw [hb] at hlo
      have hm := mget_some_mem hb
      have hli := look_in (h.rows _ hm) (x := at_) ⟨by omega, by omega⟩
      have hv := hI.val_bd hm h.sums.nodup at_
      obtain ⟨W2, hrun, hD2, hK2⟩ := dec_store h hb (x := at_) ⟨by omega, by omega⟩ ((mget (R b) at_).getD 0 + n)
      have hI2 := hI.old h.sums.nodup h.apart hb (h.rows _ hm).nodup (by omega) n1 ⟨a0, a1⟩ hc
      have HI := Lib.hid hI2
      have HD := Lib.hid hD2
      clear hI2 hD2 hI
      simp only at hv hli
      generalize (mget (R b) at_).getD 0 = v at *
      go_enter Try.func25, Try.ntmps25
      go_wp2
      go_end0
      exact ⟨rfl, S, _, HD.out, HI.out, hK2, fun k hk => .inl hk⟩
    | none =>
      rw [hb] at hlo
      obtain ⟨W1, hrun1, hD1, hK1⟩ := dec_new h hb hok
      have hS1 : mget (S ++ [(key, w.heap.size)]) key = some w.heap.size := by rw [mget_append, hb]; simp [mget]
      have hlo1 := look_out hD1.sums hok
      rw [hS1] at hlo1
      have hm1 := mget_some_mem hS1
      have hli1 := look_in (hD1.rows _ hm1) (x := at_) ⟨by omega, by omega⟩
      simp only [upd_same, mget, Option.getD_none] at hli1
      obtain ⟨W2, hrun, hD2, hK2⟩ := dec_store hD1 hS1 (x := at_) ⟨by omega, by omega⟩ n
      obtain ⟨d1, d2, d3⟩ := cell_of_dec hD1
      have hI2 := hI.new (at_ := at_) (n := n) hb (b := w.heap.size) (fun p hp e => by have := (h.rows p hp).lt; omega) (by omega) n1 ⟨a0, a1⟩ hc
      have e3 : upd (upd R w.heap.size []) w.heap.size (mput (upd R w.heap.size [] w.heap.size) at_ n) = upd R w.heap.size [(at_, n)] := by
        funext k
        by_cases e : k = w.heap.size
        · subst e; simp [upd_same, mput, mget]
        · rw [upd_ne _ _ e, upd_ne _ _ e, upd_ne _ _ e]
      rw [e3] at hD2
      have hfoot : ∀ k, decFoot cb bs (S ++ [(key, w.heap.size)]) k → decFoot cb bs S k ∨ w.heap.size ≤ k := by
        rintro k (rfl | rfl | ⟨p, hp, rfl⟩)
        · exact .inl (.inl rfl)
        · exact .inl (.inr (.inl rfl))
        · rcases List.mem_append.1 hp with hp | hp
          · exact .inl (.inr (.inr ⟨p, hp, rfl⟩))
          · simp at hp; subst hp; exact .inr (Nat.le_refl _)
      have hKK : Keeps (decFoot cb bs S) w W2 := hK1.trans hK2 (fun k hk hf' => by
        rcases hfoot k hf' with h1 | h1
        · exact h1
        · omega)
      have HI := Lib.hid hI2
      have HD := Lib.hid hD2
      have HF := Lib.hid hfoot
      clear hI2 hD2 hI hfoot e3 hD1 hm1 hS1
      go_enter Try.func25, Try.ntmps25
      go_wp2
      go_end0
      exact ⟨rfl, _, _, HD.out, HI.out, hKK, HF.out⟩
end Go.Proofs.Ytgahopkbgefjdaa
