/- Contract of (*dedupe.Set).Merge. -/
import Derived.Test.YtcladmcbhnmhiaaDdU
import Derived.Test.YtcladmcbhnmhiaaKitC
import Derived.LaidEqlPtr
namespace Go.Proofs.Ytcladmcbhnmhiaa
open Go.ChangeShapes Go.WideShapes Go.ChangeAt Go.RowKit Go.Shelf Go.Lib Go.Sort Go.Proofs
set_option linter.unusedVariables false
set_option linter.unusedSimpArgs false

theorem mergeR_ne {A B : List Rg} (hA : RowOk 0 A) (hB : RowOk 0 B) (hne : B ≠ []) : mergeR A B ≠ [] := fun e => by
  cases B with
  | nil => exact hne rfl
  | cons r B =>
    have h := (mergeR_ok hA hB).2.1 r.1
    rw [e] at h
    have h1 := hB.2.1
    exact absurd (h.2 (.inr ((memR_cons _ _ _).2 (.inl ⟨Int.le_refl _, h1⟩)))) (memR_nil _)
theorem mg_keep {w w' : World} {sb mb : Nat} {D : SlotL} {F : RowsF} (h : SetAt w sb mb D F) (hb : Below w.heap.size w w') {key : ByteArray} (hok : key.size ≤ maxLen) {v : Value} (hv : ((mget D key).map slotVf).getD (.slice none 0 0) = v) :
    w'.cell? ⟨sb, 0, none⟩ = some (.map (some mb)) ∧ (Instr.lookup 64 (.map (some mb)) (.string key) false).run Try.prog w' = .ok v w' := by
  have h2 : SetAt w' sb mb D F := h.keep (Keeps.ofBelow hb (fun _ => False)) (fun _ _ e => e)
  refine ⟨h2.cells, ?_⟩
  rw [← hv]
  exact look_rows h2.mp hok
theorem size_set : (Try.prog.info? 66).map (·.size) = some 1 := by kernel_rfl
theorem under_set : Try.prog.underlying 25 = some (.pointer 66) := by kernel_rfl
theorem eql_sets {w : World} {sb ob mb mbo : Nat} {D Do : SlotL} {F Fo : RowsF} (h : SetAt w sb mb D F) (ho : SetAt w ob mbo Do Fo) (hne : ¬ sb = ob) : (binOp .eql 25 (.pointer (some ⟨sb, 0, none⟩)) (.pointer (some ⟨ob, 0, none⟩))).run Try.prog w = .ok (.bool false) w := by
  obtain ⟨j, hj, hjs⟩ := Option.map_eq_some_iff.1 size_set
  exact run_eql_ptr_other w under_set hj (by rw [hjs]; decide) (fun e => hne (by injection e)) h.blk ho.blk
theorem eql_set1 (w : World) (a : Addr) : (binOp .eql 25 (.pointer (some a)) (.pointer (some a))).run Try.prog w = .ok (.bool true) w := by
  obtain ⟨j, hj, hjs⟩ := Option.map_eq_some_iff.1 size_set
  exact run_eql_ptr_same w a under_set hj
/-- What may be merged. -/
structure SetBd (F : RowsF) : Prop where
  top : ∀ k, ∀ r ∈ F k, r.2 ≤ 1099511627777
  len : ∀ k, (F k).length < 400000
/-- What is merged so far. -/
def FcOk (F Fo Fc : RowsF) (left : SlotL) : Prop := ∀ k, (k ∈ left.map (·.1) → Fc k = F k) ∧ (k ∉ left.map (·.1) → Fc k = mergeF F Fo k)
theorem FcOk.step {F Fo Fc : RowsF} {left : SlotL} (h : FcOk F Fo Fc left) {p : ByteArray × Slot} (hp : p ∈ left) : FcOk F Fo (updF Fc p.1 (mergeR (F p.1) (Fo p.1))) (mdel left p.1) := by
  have hm : ∀ k, k ∈ (mdel left p.1).map (·.1) ↔ k ∈ left.map (·.1) ∧ k ≠ p.1 := fun k => by
    constructor
    · intro hk
      obtain ⟨q, hq, rfl⟩ := List.mem_map.1 hk
      obtain ⟨h1, h2⟩ := List.mem_filter.1 hq
      exact ⟨List.mem_map.2 ⟨q, h1, rfl⟩, by simpa using h2⟩
    · rintro ⟨hk, hne⟩
      obtain ⟨q, hq, rfl⟩ := List.mem_map.1 hk
      exact List.mem_map.2 ⟨q, List.mem_filter.2 ⟨hq, by simpa using hne⟩, rfl⟩
  intro k
  rw [hm k]
  unfold updF
  refine ⟨fun ⟨h1, h2⟩ => ?_, fun h1 => ?_⟩
  · rw [if_neg h2]; exact (h k).1 h1
  · by_cases e : k = p.1
    · rw [if_pos e, e]; rfl
    · rw [if_neg e]
      exact (h k).2 (fun hk => h1 ⟨hk, e⟩)
def MergeNew (sb : Nat) (G : Nat → Prop) (F : RowsF) (w : World) (e : Ending) (w' : World) : Prop := ∃ G', e = .returned (.tuple #[]) ∧ SetObj w' sb G' F ∧ Upd G w G' w'

set_option maxHeartbeats 8000000 in
set_option maxRecDepth 100000 in
/-- A set merged with itself. -/
theorem msame_any (sb : Nat) (G : Nat → Prop) (F : RowsF) (w : World) (h : SetObj w sb G F) : Calls Try.prog 27 #[.pointer (some ⟨sb, 0, none⟩), .pointer (some ⟨sb, 0, none⟩)] w (MergeNew sb G F w) := by
  have HF : Hid (MergeNew sb G F w (.returned (.tuple #[])) w) := Lib.hid ⟨G, rfl, h, Upd.refl _ _⟩
  have hq := eql_set1 w ⟨sb, 0, none⟩
  clear h
  go_enter Try.func27, Try.ntmps27
  go_wp2
  (try simp only [Exit.inBlock, Exit.then])
  refine bodyPost_ret (results_none rfl _ _ _) rfl ?_
  exact HF.out

set_option maxHeartbeats 8000000 in
set_option maxRecDepth 100000 in
theorem merge_any (sb ob : Nat) (G Go : Nat → Prop) (F Fo : RowsF) (w : World) (h : SetObj w sb G F) (ho : SetObj w ob Go Fo) (hap : Apart G Go) (hbd : SetBd F) (hbo : SetBd Fo) :
    Calls Try.prog 27 #[.pointer (some ⟨sb, 0, none⟩), .pointer (some ⟨ob, 0, none⟩)] w (MergeNew sb G (mergeF F Fo) w) := by
  obtain ⟨mb, D, hD, hG⟩ := h
  obtain ⟨mbo, Do, hDo, hGo⟩ := ho
  have hne : ¬ sb = ob := fun e => hap sb (by rw [hG]; exact .inl rfl) (by rw [hGo]; exact .inl e)
  have c1 := hD.cells
  have c2 := hDo.cells
  have hm := hDo.mp
  have hlt := hD.foot_lt
  have hlto := hDo.foot_lt
  have hRo : ∀ k, RowOk 0 (F k) ∧ RowOk 0 (Fo k) := fun k => ⟨hD.ok k, hDo.ok k⟩
  have hfin0 : FcOk F Fo F Do := fun k => ⟨fun _ => rfl, fun hk => by
    have : Fo k = [] := hDo.no k (mget_none_iff.2 (fun p hp e => hk (List.mem_map.2 ⟨p, hp, e⟩)))
    unfold mergeF
    rw [this, mergeR_nil (hD.ok k)]⟩
  have hDno : ∀ p ∈ Do, Fo p.1 ≠ [] := fun p hp => (hDo.rows p hp).2
  have hst : ∀ p ∈ Do, p.1.size ≤ maxLen := hDo.mp.ok
  have hneq := eql_sets hD hDo hne
  have HD := Lib.hid hD
  have HDO := Lib.hid hDo
  have HAP := Lib.hid hap
  have HGG := Lib.hid (And.intro hG hGo)
  have HLT := Lib.hid (And.intro hlt hlto)
  have HRO := Lib.hid hRo
  have HF0 := Lib.hid hfin0
  have HNO := Lib.hid hDno
  have HST := Lib.hid hst
  have HBD := Lib.hid (And.intro hbd hbo)
  clear hD hDo hap hG hGo hlt hlto hRo hfin0 hDno hst hbd hbo
  go_enter Try.func27, Try.ntmps27
  go_wp2_with (at_range; refine wpList_range_is rfl _ _ rfl Try.underlying64 rfl hm ?_; intro w0 hrg0 hb0 hs0)
  clear hm hneq hne
  (try go_frame)
  go_loopg [] Do.length (fun rest wr => ∃ (left : SlotL) (Dc : SlotL) (Fc : RowsF), RangeAt wr strKf slotVf w.heap.size (some mbo) left ∧ Hid (∀ q ∈ left, q ∈ Do) ∧ Hid (SetAt wr sb mb Dc Fc) ∧ Hid (FcOk F Fo Fc left) ∧ Hid (rest = left.length) ∧ Hid (Keeps (fun k => setFoot sb mb D k ∨ k = w.heap.size) w0 wr) ∧ Hid (∀ k, setFoot sb mb Dc k → setFoot sb mb D k ∨ w0.heap.size ≤ k))
  case atStart => exact ⟨Do, D, F, hrg0, Lib.hid (fun _ h => h), Lib.hid (HD.out.keep (Keeps.ofBelow hb0 (fun _ => False)) (fun _ _ e => e)), HF0, Lib.hid rfl, Lib.hid (Keeps.refl _ _), Lib.hid (fun _ h => .inl h)⟩
  case round =>
    obtain ⟨left, Dc, Fc, hrg, HS, HSA, HFC, HL, HKP, HFT⟩ := hrel
    go_wp2_with (at_next; refine wpList_next_is rfl _ rfl rfl hrg ?_ ?_)
    · intro h0
      subst h0
      have hFc : Fc = mergeF F Fo := funext (fun k => (HFC.out k).2 (by simp))
      have hend : MergeNew sb G (mergeF F Fo) w (.returned (.tuple #[])) wr := by
        refine ⟨setFoot sb mb Dc, rfl, ⟨mb, Dc, hFc ▸ HSA.out, rfl⟩, ?_, ?_⟩
        · rw [HGG.out.1]
          refine (Keeps.ofBelow hb0 (setFoot sb mb D)).trans HKP.out (fun k hk hf => ?_)
          rcases hf with hf | hf
          · exact hf
          · omega
        · rw [HGG.out.1]
          intro k hk
          rcases HFT.out k hk with h1 | h1
          · exact .inl h1
          · exact .inr (by omega)
      have HE := Lib.hid hend
      clear hend
      (try go_frame)
      go_wp2
      (try simp only [Exit.inBlock, Exit.then])
      refine bodyPost_ret (results_none rfl _ _ _) rfl ?_
      exact HE.out
    · intro key g n c wn hmem hrg2 hk2 hz2 hen
      have hDm := HS.out _ hmem
      have hml : (mdel left key).length + 1 = left.length := mdel_len hrg.nodup (p := (key, (g, n, c))) hmem
      have HS2 : Hid (∀ q ∈ mdel left key, q ∈ Do) := Lib.hid (fun q hq => HS.out _ ((List.mem_filter.1 hq).1))
      have hFk : Fc key = F key := (HFC.out key).1 (List.mem_map.2 ⟨_, hmem, rfl⟩)
      have HFC2 := Lib.hid (HFC.out.step hmem)
      have hkz : key.size ≤ maxLen := HST.out _ hDm
      have hKn : Keeps (fun k => setFoot sb mb D k ∨ k = w.heap.size) w0 wn := HKP.out.trans hk2 (fun k _ e => .inr e)
      have hgz : ∀ k, setFoot sb mb Dc k → ¬ k = w.heap.size := fun k hk e => by
        rcases HFT.out k hk with h1 | h1
        · have := HLT.out.1 k h1; omega
        · omega
      have hSn : SetAt wn sb mb Dc Fc := HSA.out.keep hk2 hgz
      have hDn : SetAt wn ob mbo Do Fo := (HDO.out.keep (Keeps.ofBelow hb0 (fun _ => False)) (fun _ _ e => e)).keep hKn (fun k hk hf => by
        rcases hf with hf | hf
        · exact HAP.out k (by rw [HGG.out.1]; exact hf) (by rw [HGG.out.2]; exact hk)
        · have := HLT.out.2 k hk; omega)
      obtain ⟨⟨hn, hown⟩, -⟩ := hDn.rows _ hDm
      simp only at hn hown
      subst hn
      have hrdo := own_reads hown
      obtain ⟨A, ca, hv, hownA, hA⟩ := hSn.row key
      have hrda := own_reads hownA
      have hna : A = none → ca = 0 := fun e => by
        rcases hA with ⟨-, -, h1, -⟩ | ⟨g1, h1, -⟩
        · exact h1
        · rw [e] at h1; cases h1
      rw [hFk] at hv hrda
      have hKR := fun W (hW : Below wn.heap.size wn W) => mg_keep hSn hW hkz hv
      have hKe : Below wn.heap.size wn wn.drew := (Below.refl _ _).drew
      have hun := fun W (hW : Below wn.heap.size wn W) => union_any A (some ⟨g, 0, none⟩) ca c (F key) (Fo key) W ((hrda.below hW).more hW.size) hna ((hrdo.below hW).more hW.size) (fun e => by cases e) (HRO.out key).1 (HRO.out key).2 (HBD.out.1.top key) (HBD.out.2.top key) (by have := HBD.out.1.len key; omega) (by have := HBD.out.2.len key; omega)
      have hne' := mergeR_ne (HRO.out key).1 (HRO.out key).2 (HNO.out _ hDm)
      have hok' := (mergeR_ok (HRO.out key).1 (HRO.out key).2).1
      have HUN := Lib.hid hun
      have HML := Lib.hid hml
      have HRG2 := Lib.hid hrg2
      have HSN := Lib.hid hSn
      have HKN := Lib.hid hKn
      have HGZ := Lib.hid hgz
      have HNE := Lib.hid (And.intro hne' hok')
      have hc0 := (hKR wn (Below.refl _ _)).1
      simp only [strKf, slotVf] at hen
      clear hun hml hrg2 hSn hDn hown hownA hA hrda hrdo hmem hDm hk2 hz2 hrg hKn hgz hne' hok' hFk hv HS HSA HFC
      (try go_frame)
      go_wp2_with fail
      refine heldStart 13 (S := fun W => W.cell? ⟨sb, 0, none⟩ = some (.map (some mb)) ∧ (Instr.lookup 64 (.map (some mb)) (.string key) false).run Try.prog W = .ok (.slice A (F key).length ca) W) (by kernel_rfl) ?_ (fun hHeld => ?_)
      · exact hKR _ hKe
      refine heldTake 0 (v := ?_) (by simp only [List.getElem?_toArray, List.getElem?_cons_succ, List.getElem?_cons_zero]; rfl) (by kernel_rfl) (by intro _ _ _ h; exact h) (by rfl) (by assumption) ?_ ?_
      rotate_left
      · intro W hSw; (try dsimp only at hSw); go_simp; try with_reducible rfl
      simp only [Act.put, List.setIfInBounds_toArray, List.set_cons_zero, List.set_cons_succ]
      refine heldTake 1 (v := ?_) (by simp only [List.getElem?_toArray, List.getElem?_cons_succ, List.getElem?_cons_zero]; rfl) (by kernel_rfl) (by intro _ _ _ h; exact h) (by rfl) (by assumption) ?_ ?_
      rotate_left
      · intro W hSw; (try dsimp only at hSw); go_simp; try with_reducible rfl
      simp only [Act.put, List.setIfInBounds_toArray, List.set_cons_zero, List.set_cons_succ]
      refine heldTake 2 (v := ?_) (by simp only [List.getElem?_toArray, List.getElem?_cons_succ, List.getElem?_cons_zero]; rfl) (by kernel_rfl) (by intro _ _ _ h; exact h) (by rfl) (by assumption) ?_ ?_
      rotate_left
      · intro W hSw; (try dsimp only at hSw); go_simp; try with_reducible rfl
      simp only [Act.put, List.setIfInBounds_toArray, List.set_cons_zero, List.set_cons_succ]
      refine heldTake 3 (v := ?_) (by simp only [List.getElem?_toArray, List.getElem?_cons_succ, List.getElem?_cons_zero]; rfl) (by kernel_rfl) (by intro _ _ _ h; exact h) (by rfl) (by assumption) ?_ ?_
      rotate_left
      · intro W hSw; (try dsimp only at hSw); go_simp; try with_reducible rfl
      simp only [Act.put, List.setIfInBounds_toArray, List.set_cons_zero, List.set_cons_succ]
      refine heldTake 4 (v := ?_) (by simp only [List.getElem?_toArray, List.getElem?_cons_succ, List.getElem?_cons_zero]; rfl) (by kernel_rfl) (by intro _ _ _ h; exact h) (by rfl) (by assumption) ?_ ?_
      rotate_left
      · intro W hSw; (try dsimp only at hSw); go_simp; try with_reducible rfl
      simp only [Act.put, List.setIfInBounds_toArray, List.set_cons_zero, List.set_cons_succ]
      refine heldTake 5 (v := ?_) (by simp only [List.getElem?_toArray, List.getElem?_cons_succ, List.getElem?_cons_zero]; rfl) (by kernel_rfl) (by intro _ _ _ h; exact h) (by rfl) (by assumption) ?_ ?_
      rotate_left
      · intro W hSw; (try dsimp only at hSw); go_simp; try with_reducible rfl
      simp only [Act.put, List.setIfInBounds_toArray, List.set_cons_zero, List.set_cons_succ]
      refine heldTake 6 (v := ?_) (by simp only [List.getElem?_toArray, List.getElem?_cons_succ, List.getElem?_cons_zero]; rfl) (by kernel_rfl) (by intro _ _ _ h; exact h) (by rfl) (by assumption) ?_ ?_
      rotate_left
      · intro W hSw; (try dsimp only at hSw); go_simp; try with_reducible rfl
      simp only [Act.put, List.setIfInBounds_toArray, List.set_cons_zero, List.set_cons_succ]
      refine heldTake 7 (v := ?_) (by simp only [List.getElem?_toArray, List.getElem?_cons_succ, List.getElem?_cons_zero]; rfl) (by kernel_rfl) (by intro _ _ _ h; exact h) (by rfl) (by assumption) ?_ ?_
      rotate_left
      · intro W hSw; (try dsimp only at hSw); go_simp; try with_reducible rfl
      simp only [Act.put, List.setIfInBounds_toArray, List.set_cons_zero, List.set_cons_succ]
      refine heldTake 8 (v := ?_) (by simp only [List.getElem?_toArray, List.getElem?_cons_succ, List.getElem?_cons_zero]; rfl) (by kernel_rfl) (by intro _ _ _ h; exact h) (by rfl) (by assumption) ?_ ?_
      rotate_left
      · intro W hSw; (try dsimp only at hSw); go_simp; try with_reducible rfl
      simp only [Act.put, List.setIfInBounds_toArray, List.set_cons_zero, List.set_cons_succ]
      refine heldTake 9 (v := ?_) (by simp only [List.getElem?_toArray, List.getElem?_cons_succ, List.getElem?_cons_zero]; rfl) (by kernel_rfl) (by intro _ _ _ h; exact h) (by rfl) (by assumption) ?_ ?_
      rotate_left
      · intro W hSw; (try dsimp only at hSw); go_simp; try with_reducible rfl
      simp only [Act.put, List.setIfInBounds_toArray, List.set_cons_zero, List.set_cons_succ]
      refine heldTake 10 (v := ?_) (by simp only [List.getElem?_toArray, List.getElem?_cons_succ, List.getElem?_cons_zero]; rfl) (by kernel_rfl) (by intro _ _ _ h; exact h) (by rfl) (by assumption) ?_ ?_
      rotate_left
      · intro W hSw; (try dsimp only at hSw); go_simp; try with_reducible rfl
      simp only [Act.put, List.setIfInBounds_toArray, List.set_cons_zero, List.set_cons_succ]
      refine heldTake 11 (v := ?_) (by simp only [List.getElem?_toArray, List.getElem?_cons_succ, List.getElem?_cons_zero]; rfl) (by kernel_rfl) (by intro _ _ _ h; exact h) (by rfl) (by assumption) ?_ ?_
      rotate_left
      · intro W hSw; (try dsimp only at hSw); go_simp; try with_reducible rfl
      simp only [Act.put, List.setIfInBounds_toArray, List.set_cons_zero, List.set_cons_succ]
      refine heldCall 12 (by simp only [List.getElem?_toArray, List.getElem?_cons_succ, List.getElem?_cons_zero]; rfl) (by kernel_rfl) (fun K hK => ?_)
      go_simp
      refine Calls.mono (HUN.out _ hKe) ?_
      rintro e w5 ⟨A5, c5, rfl, hown5, hb5⟩
      have hKe2 : Below wn.heap.size wn w5 := hKe.trans (hb5.mono hKe.size)
      obtain ⟨g5, cap5, hv5, hlo5, -⟩ := hown5.form (by have := List.length_pos_iff.2 HNE.out.1; omega)
      injection hv5 with ev ev2 ev3
      subst ev ev3
      obtain ⟨w6, hrun, hS6, hU6⟩ := HSN.out.put key hkz (Keeps.ofBelow hKe2 _) ⟨rfl, own_base hown5 (Nat.zero_le _)⟩ HNE.out.1 HNE.out.2 (.inr (Nat.le_trans hKe.size hlo5))
      have HS6 := Lib.hid hS6
      have HU6 := Lib.hid hU6
      clear hKe hown5 hb5 hS6 hU6
      have hKe := hKe2
      clear hKe2
      refine hK.out _ _ ?_ (fun hHeld => ?_)
      · exact hKR _ hKe
      clear hK K
      (try simp only [Act.put, List.setIfInBounds_toArray, List.set_cons_zero, List.set_cons_succ])
      refine heldLast 13 (by simp only [List.getElem?_toArray, List.getElem?_cons_succ, List.getElem?_cons_zero]; rfl) (by kernel_rfl) rfl (fun K hK => ?_)
      go_simp
      refine hK.out _ _ ?_
      clear hK K
      (try simp only [Act.put, List.setIfInBounds_toArray, List.set_cons_zero, List.set_cons_succ])
      refine heldDone (by kernel_rfl) ?_ _
      have hK6 : Keeps (fun k => setFoot sb mb D k ∨ k = w.heap.size) w0 w6 := HKN.out.trans HU6.out.keeps (fun k hk hf => by
        rcases HFT.out k hf with h1 | h1
        · exact .inl h1
        · omega)
      have hR6 : RangeAt w6 strKf slotVf w.heap.size (some mbo) (mdel left key) := HRG2.out.keep HU6.out.keeps (fun e => HGZ.out _ e rfl) (fun b e hb => by
        injection e with e
        subst e
        rcases HFT.out _ hb with h1 | h1
        · exact HAP.out mbo (by rw [HGG.out.1]; exact h1) (by rw [HGG.out.2]; exact .inr (.inl rfl))
        · have := HLT.out.2 mbo (.inr (.inl rfl)); omega)
      have hF6 : ∀ k, setFoot sb mb (mput Dc key (g5, (mergeR (F key) (Fo key)).length, c5)) k → setFoot sb mb D k ∨ w0.heap.size ≤ k := fun k hk => by
        rcases HU6.out.foot k hk with h1 | h1
        · exact HFT.out k h1
        · exact .inr (Nat.le_trans HKN.out.size h1)
      have HK6 := Lib.hid hK6
      have HR6 := Lib.hid hR6
      have HF6 := Lib.hid hF6
      clear hK6 hR6 hF6
      go_wp2_with fail
      go_roundg (gk - 1)
      case measure => have := HL.out; have := HML.out; omega
      case rel => exact ⟨mdel left key, _, _, HR6.out, HS2, HS6, HFC2, Lib.hid (by have := HL.out; have := HML.out; omega), HK6, HF6⟩
end Go.Proofs.Ytcladmcbhnmhiaa
