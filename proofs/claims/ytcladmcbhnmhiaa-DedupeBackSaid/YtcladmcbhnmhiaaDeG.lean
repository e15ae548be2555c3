/- A new entry of a map in two steps; bits; contract of dedupe.number at bytes that putNumber has put. -/
import Derived.Test.YtcladmcbhnmhiaaDdN
import Derived.Test.YtcladmcbhnmhiaaKitC
namespace Go.Proofs.Ytcladmcbhnmhiaa
open Go.ChangeShapes Go.WideShapes Go.ChangeAt Go.RowKit Go.Shelf Go.Lib Go.Sort Go.Proofs
open Go.ChangeMaps (setBlock)
set_option linter.unusedVariables false
set_option linter.unusedSimpArgs false

section
variable {κ υ : Type} [DecidableEq κ] {P : Program} {k : TypeId} {kf : κ → Value} {vf : υ → Value} {Ok : κ → Prop} {w : World} {b : Nat} {l : List (κ × υ)}
/-- A key's entry is made, and then stored into. -/
theorem MapIs.entryNew (h : MapIs w kf vf Ok b l) (K : KeyFn P k kf Ok) {t e : TypeId} (ht : P.underlying t = some (.map k e)) {x : κ} (hx : Ok x) (hno : mget l x = none) (v : υ) {z : Value} (hz : ∀ W, (zeroValue e).run P W = .ok z W) :
    ∃ w1 w2 clock, (Instr.mapEntry t (.map (some b)) (kf x)).run P w = .ok (.tuple #[z, .int .i64 (clock : Nat)]) w1 ∧ (Instr.entryStore t (.map (some b)) (.int .i64 (clock : Nat)) (vf v)).run P w1 = .ok () w2 ∧ MapIs w2 kf vf Ok b (mput l x v) ∧ Keeps (fun k => k = b) w w2 ∧ w2.heap.size = w.heap.size := by
  have hlt := h.lt
  have hf := h.find (P := P) K hx
  obtain ⟨es, clock, hb, hm, hpw, hcl, hok, hnd⟩ := h
  obtain ⟨es', clock', hb', h1⟩ := hf
  rw [hb] at hb'
  injection hb' with hb'
  injection hb' with e1 e2
  subst e1 e2
  rcases h1 with ⟨h1, h2⟩ | ⟨j, e0, u, h1, hj, hlj, hkey, h2⟩
  · have hb1 : (setBlock w b (.map (es.push ⟨kf x, z, clock⟩) (clock + 1))).heap[b]? = some (.map (es.push ⟨kf x, z, clock⟩) (clock + 1)) := heap_setBlock_eq _ hlt
    have hfi : (es.push ⟨kf x, z, clock⟩).findIdx? (fun e => (e.born : Int) == (clock : Int)) = some es.size := by
      rw [Array.findIdx?_eq_some_iff_getElem]
      refine ⟨by simp, by simp, fun j hj => ?_⟩
      rw [Array.getElem_push_lt hj]
      have := hcl es[j] (by simp)
      simp
      omega
    have hmod : (es.push ⟨kf x, z, clock⟩).modify es.size (fun e => { e with val := vf v }) = es.push ⟨kf x, vf v, clock⟩ := by
      apply Array.ext_getElem?
      intro i
      rw [Array.getElem?_modify]
      by_cases hi : es.size = i
      · subst hi; simp
      · rw [if_neg hi, Array.getElem?_push, Array.getElem?_push, if_neg (Ne.symm hi), if_neg (Ne.symm hi)]
    refine ⟨setBlock w b (.map (es.push ⟨kf x, z, clock⟩) (clock + 1)), setBlock w b (.map (es.push ⟨kf x, vf v, clock⟩) (clock + 1)), clock, ?_, ?_, ?_, Keeps.setBlock_ _ _ _, size_setBlock _⟩
    · simp [Instr.mapEntry, run_underlying ht, MapKept.run_getObj_map hb, K.check w false hx, h2, hz, MapKept.run_setObj_map _ hb, Result.andThen, setBlock, goInt]
    · have hww : setBlock (setBlock w b (.map (es.push ⟨kf x, z, clock⟩) (clock + 1))) b (.map (es.push ⟨kf x, vf v, clock⟩) (clock + 1)) = setBlock w b (.map (es.push ⟨kf x, vf v, clock⟩) (clock + 1)) := by
        unfold setBlock
        simp
      rw [← hww]
      generalize setBlock w b (.map (es.push ⟨kf x, z, clock⟩) (clock + 1)) = W1 at *
      simp [Instr.entryStore, MapKept.run_getObj_map hb1, asInt, asIntOf, hfi, hmod, MapKept.run_setObj_map _ hb1, Result.andThen, setBlock]
    · refine ⟨_, _, heap_setBlock_eq _ hlt, ?_, ?_, ?_, ?_, nodup_mput hnd x v⟩
      · simp [mput, h1, hm]
      · rw [Array.toList_push, List.pairwise_append]
        exact ⟨hpw, by simp, fun a ha c hc => by simp at hc; subst hc; exact hcl a ha⟩
      · intro a ha
        rw [Array.toList_push] at ha
        rcases List.mem_append.1 ha with ha | ha
        · have := hcl a ha; omega
        · simp at ha; subst ha; exact Nat.lt_succ_self _
      · intro p hp
        simp only [mput, h1, Option.isSome_none, Bool.false_eq_true, if_false, List.mem_append, List.mem_singleton] at hp
        rcases hp with hp | rfl
        · exact hok p hp
        · exact hx
  · rw [hno] at h1; cases h1
end

theorem or_low {a x k : Nat} (ha : a < 2 ^ k) (hx : 2 ^ k * x + a < 2 ^ 62) : bits BinOp.or IntKind.i64 (a : Int) ((2 ^ k * x : Nat) : Int) = ((2 ^ k * x + a : Nat) : Int) := by
  unfold bits
  have e1 : BitVec.ofInt IntKind.i64.bits (a : Int) = BitVec.ofNat 64 a := by rw [BitVec.ofInt_natCast]; rfl
  have e2 : BitVec.ofInt IntKind.i64.bits ((2 ^ k * x : Nat) : Int) = BitVec.ofNat 64 (2 ^ k * x) := by rw [BitVec.ofInt_natCast]; rfl
  simp only [e1, e2]
  have h1 : (BitVec.ofNat 64 a ||| BitVec.ofNat 64 (2 ^ k * x)).toNat = 2 ^ k * x + a := by
    rw [BitVec.toNat_or, BitVec.toNat_ofNat, BitVec.toNat_ofNat, Nat.mod_eq_of_lt (by omega), Nat.mod_eq_of_lt (by omega), Nat.or_comm, ← Nat.two_pow_add_eq_or_of_lt ha]
  have h2 : IntKind.i64.wrap (((BitVec.ofNat 64 a ||| BitVec.ofNat 64 (2 ^ k * x)).toNat : Nat) : Int) = ((2 ^ k * x + a : Nat) : Int) := by
    rw [h1]
    exact IntWalk.i64_in _ (by omega)
  exact h2
set_option maxRecDepth 100000 in
theorem and127_fin : ∀ z : Fin 256, bits BinOp.and IntKind.u8 ((z.1 : Nat) : Int) 127 = ((z.1 % 128 : Nat) : Int) := by decide
end Go.Proofs.Ytcladmcbhnmhiaa
