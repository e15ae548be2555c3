/- An entry of a map in two steps: made or found, and stored into. Lemmas over any program. -/
import Derived.Test.YtaollcpoibgblaaDoorKitM
namespace Go.Proofs.YtaollcpoibgblaaDoor
open Go.ChangeShapes Go.WideShapes Go.ChangeAt Go.RowKit
open Go.ChangeMaps (setBlock)
set_option linter.unusedVariables false
set_option linter.unusedSimpArgs false

section
variable {κ υ : Type} [DecidableEq κ] {P : Program} {k : TypeId} {kf : κ → Value} {vf : υ → Value} {Ok : κ → Prop} {w : World} {b : Nat} {l : List (κ × υ)}
/-- A key's entry is made or found, and then stored into. -/
theorem MapIs.entryAny (h : MapIs w kf vf Ok b l) (K : KeyFn P k kf Ok) {t e : TypeId} (ht : P.underlying t = some (.map k e)) {x : κ} (hx : Ok x) (v : υ) {z : Value} (hz : ∀ W, (zeroValue e).run P W = .ok z W) (z0 : υ) (hz0 : vf z0 = z) :
    ∃ w1 w2 u clock, (Instr.mapEntry t (.map (some b)) (kf x)).run P w = .ok (.tuple #[u, .int .i64 (clock : Nat)]) w1 ∧ (Instr.entryStore t (.map (some b)) (.int .i64 (clock : Nat)) (vf v)).run P w1 = .ok () w2 ∧ MapIs w2 kf vf Ok b (mput l x v) ∧ Keeps (fun k => k = b) w w2 ∧ w2.heap.size = w.heap.size ∧
      Keeps (fun k => k = b) w w1 ∧ w1.heap.size = w.heap.size ∧ ∃ l1, MapIs w1 kf vf Ok b l1 ∧ ∀ y, mget l1 y = if y = x then some ((mget l x).getD z0) else mget l y := by
  obtain ⟨wp, hput, hmp, hkp, hzp⟩ := h.put (P := P) K ht hx v
  have hlt := h.lt
  have hf := h.find (P := P) K hx
  obtain ⟨es, clock, hb, hm, hpw, hcl, hok, hnd⟩ := h
  obtain ⟨es', clock', hb', h1⟩ := hf
  rw [hb] at hb'
  injection hb' with hb'
  injection hb' with e1 e2
  subst e1 e2
  rcases h1 with ⟨h1, h2⟩ | ⟨j, e0, u, h1, hj, hlj, hkey, h2⟩
  · have hb1 : (setBlock w b (.map (es.push ⟨kf x, z, clock⟩) (clock + 1))).heap[b]? = some (.map (es.push ⟨kf x, z, clock⟩) (clock + 1)) := heap_setBlock_eq _ hlt
    have hfi : (es.push ⟨kf x, z, clock⟩).findIdx? (fun e => (e.born : Int) == (clock : Int)) = some es.size := by
      rw [Array.findIdx?_eq_some_iff_getElem]
      refine ⟨by simp, by simp, fun j hj => ?_⟩
      rw [Array.getElem_push_lt hj]
      have := hcl es[j] (by simp)
      simp
      omega
    have hmod : (es.push ⟨kf x, z, clock⟩).modify es.size (fun e => { e with val := vf v }) = es.push ⟨kf x, vf v, clock⟩ := by
      apply Array.ext_getElem?
      intro i
      rw [Array.getElem?_modify]
      by_cases hi : es.size = i
      · subst hi; simp
      · rw [if_neg hi, Array.getElem?_push, Array.getElem?_push, if_neg (Ne.symm hi), if_neg (Ne.symm hi)]
    refine ⟨setBlock w b (.map (es.push ⟨kf x, z, clock⟩) (clock + 1)), setBlock w b (.map (es.push ⟨kf x, vf v, clock⟩) (clock + 1)), z, clock, ?_, ?_, ?_, Keeps.setBlock_ _ _ _, size_setBlock _, Keeps.setBlock_ _ _ _, size_setBlock _, l ++ [(x, z0)], ?_, ?_⟩
    · simp [Instr.mapEntry, run_underlying ht, MapKept.run_getObj_map hb, K.check w false hx, h2, hz, MapKept.run_setObj_map _ hb, Result.andThen, setBlock, goInt]
    · have hww : setBlock (setBlock w b (.map (es.push ⟨kf x, z, clock⟩) (clock + 1))) b (.map (es.push ⟨kf x, vf v, clock⟩) (clock + 1)) = setBlock w b (.map (es.push ⟨kf x, vf v, clock⟩) (clock + 1)) := by
        unfold setBlock
        simp
      rw [← hww]
      generalize setBlock w b (.map (es.push ⟨kf x, z, clock⟩) (clock + 1)) = W1 at *
      simp [Instr.entryStore, MapKept.run_getObj_map hb1, asInt, asIntOf, hfi, hmod, MapKept.run_setObj_map _ hb1, Result.andThen, setBlock]
    · refine ⟨_, _, heap_setBlock_eq _ hlt, ?_, ?_, ?_, ?_, nodup_mput hnd x v⟩
      · simp [mput, h1, hm]
      · rw [Array.toList_push, List.pairwise_append]
        exact ⟨hpw, by simp, fun a ha c hc => by simp at hc; subst hc; exact hcl a ha⟩
      · intro a ha
        rw [Array.toList_push] at ha
        rcases List.mem_append.1 ha with ha | ha
        · have := hcl a ha; omega
        · simp at ha; subst ha; exact Nat.lt_succ_self _
      · intro p hp
        simp only [mput, h1, Option.isSome_none, Bool.false_eq_true, if_false, List.mem_append, List.mem_singleton] at hp
        rcases hp with hp | rfl
        · exact hok p hp
        · exact hx
    · have hnd2 := nodup_mput hnd x z0
      simp only [mput, h1, Option.isSome_none, Bool.false_eq_true, if_false] at hnd2
      refine ⟨_, _, hb1, ?_, ?_, ?_, ?_, hnd2⟩
      · simp [hm, hz0]
      · rw [Array.toList_push, List.pairwise_append]
        exact ⟨hpw, by simp, fun a ha c hc => by simp at hc; subst hc; exact hcl a ha⟩
      · intro a ha
        rw [Array.toList_push] at ha
        rcases List.mem_append.1 ha with ha | ha
        · have := hcl a ha; omega
        · simp at ha; subst ha; exact Nat.lt_succ_self _
      · intro p hp
        rcases List.mem_append.1 hp with hp | hp
        · exact hok p hp
        · simp at hp; subst hp; exact hx
    · intro y
      rw [mget_append]
      by_cases hy : y = x
      · subst hy; simp [h1, mget]
      · simp [hy, mget]
  · have hjs : es[j]? = some e0 := by simpa using hj
    have hjl : j < es.size := (Array.getElem?_eq_some_iff.1 hjs).1
    have hje : es[j] = e0 := (Array.getElem?_eq_some_iff.1 hjs).2
    have hb1 : (setBlock w b (.map (es.modify j fun e => { e with key := kf x }) clock)).heap[b]? = some (.map (es.modify j fun e => { e with key := kf x }) clock) := heap_setBlock_eq _ hlt
    have hfi : (es.modify j fun e => { e with key := kf x }).findIdx? (fun e => (e.born : Int) == (e0.born : Int)) = some j := by
      rw [Array.findIdx?_eq_some_iff_getElem]
      refine ⟨by simpa using hjl, by rw [Array.getElem_modify, if_pos rfl]; simp [hje], fun i hi => ?_⟩
      have hil : i < es.size := by omega
      rw [Array.getElem_modify, if_neg (by omega)]
      have := (List.pairwise_iff_getElem.1 hpw) i j (by simpa using hil) (by simpa using hjl) hi
      simp only [Array.getElem_toList, hje] at this
      simp
      omega
    have hmod : (es.modify j fun e => { e with key := kf x }).modify j (fun e => { e with val := vf v }) = es.modify j fun e => { e with key := kf x, val := vf v } := by
      apply Array.ext_getElem?
      intro i
      rw [Array.getElem?_modify, Array.getElem?_modify, Array.getElem?_modify]
      by_cases hi : j = i
      · subst hi; simp [hjs]
      · simp [hi]
    have hpw2 : wp = setBlock w b (.map (es.modify j fun e => { e with key := kf x, val := vf v }) clock) := by
      have hr : (Instr.mapUpdate t (.map (some b)) (kf x) (vf v)).run P w = .ok () (setBlock w b (.map (es.modify j fun e => { e with key := kf x, val := vf v }) clock)) := by
        simp [Instr.mapUpdate, run_underlying ht, MapKept.run_getObj_map hb, K.check w false hx, h2, hjs, hkey, K.stays w hx, MapKept.run_setObj_map _ hb, Result.andThen, setBlock]
      rw [hr] at hput
      injection hput with _ h2
      exact h2.symm
    refine ⟨setBlock w b (.map (es.modify j fun e => { e with key := kf x }) clock), wp, vf u, e0.born, ?_, ?_, hmp, hkp, hzp, Keeps.setBlock_ _ _ _, size_setBlock _, l, ?_, ?_⟩
    · simp [Instr.mapEntry, run_underlying ht, MapKept.run_getObj_map hb, K.check w false hx, h2, hjs, hkey, K.stays w hx, MapKept.run_setObj_map _ hb, Result.andThen, setBlock, goInt]
    · have hww : setBlock (setBlock w b (.map (es.modify j fun e => { e with key := kf x }) clock)) b (.map (es.modify j fun e => { e with key := kf x, val := vf v }) clock) = wp := by
        rw [hpw2]
        unfold setBlock
        simp
      rw [← hww]
      generalize setBlock w b (.map (es.modify j fun e => { e with key := kf x }) clock) = W1 at *
      simp [Instr.entryStore, MapKept.run_getObj_map hb1, asInt, asIntOf, hfi, hmod, MapKept.run_setObj_map _ hb1, Result.andThen, setBlock]
    · have hsame : (es.modify j fun e => { e with key := kf x }) = es := by
        apply Array.ext_getElem?
        intro i
        rw [Array.getElem?_modify]
        by_cases hi : j = i
        · subst hi; rw [hjs, ← hkey]; simp
        · simp [hi]
      rw [hsame]
      exact ⟨_, _, heap_setBlock_eq _ hlt, hm, hpw, hcl, hok, hnd⟩
    · intro y
      by_cases hy : y = x
      · subst hy; simp [h1]
      · simp [hy]
end
end Go.Proofs.YtaollcpoibgblaaDoor
