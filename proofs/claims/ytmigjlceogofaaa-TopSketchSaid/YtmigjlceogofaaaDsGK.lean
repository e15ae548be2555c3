/- Contract of (*distinct.Counter).Merge. Plain law of what counts unlike names. Plain law of TopSketch: what three heavies, three counters and the exact map hold after adds, and at the end. TopSketch: the end of its plain law, and its objects in memory. The walk of TopSketch. -/
import Derived.Test.YtmigjlceogofaaaDsF
import Derived.Test.YtmigjlceogofaaaLayU
import Derived.Deep.DeepCutAuto
import Derived.Test.YtmigjlceogofaaaKitC
import Derived.Test.YtmigjlceogofaaaHvOb
import Derived.Test.YtmigjlceogofaaaTpA
import Derived.Test.YtmigjlceogofaaaKitOb
namespace Go.Proofs.Ytmigjlceogofaaa
open Go.ChangeShapes Go.WideShapes Go.ChangeAt Go.RowKit Go.Shelf Go.Lib Go.Sort Go.Proofs
set_option linter.unusedVariables false
set_option linter.unusedSimpArgs false

def mergeS (s o : CtS) : CtS := { o.R.foldl addS s with more := (o.R.foldl addS s).more || o.more }
theorem addS_k (s : CtS) (h : Int) : (addS s h).k = s.k := by
  unfold addS; split; rfl; split; split <;> rfl; rfl
theorem foldS_k (l : List Int) (s : CtS) : (l.foldl addS s).k = s.k := by
  induction l generalizing s with
  | nil => rfl
  | cons x l ih => rw [List.foldl_cons, ih, addS_k]
theorem CtAt.setMore {w : World} {cb : Nat} {A : Option Addr} {c : Nat} {s : CtS} (h : CtAt w cb A c s) (b : Bool) : CtAt (w.setCell ⟨cb, 2, none⟩ (.bool b)) cb A c { s with more := b } ∧ Keeps (fun k => k = cb) w (w.setCell ⟨cb, 2, none⟩ (.bool b)) := by
  obtain ⟨h1, h2⟩ := h.store 2 (.bool b)
  exact ⟨⟨h1, h2.own h.row (fun k e => h.row_ne k e), h.ne, h.ris, h.le, h.k0, h.bd⟩, h2⟩

theorem cloneU_any (A : Option Addr) (c : Nat) (R : List Int) (w : World) (hr : w.ownsRow 0 95 1 (.slice A R.length c) R.length (ursCells R)) (hl : R.length ≤ 4096) :
    Calls Try.prog 69 #[.slice A R.length c] w fun e w' => ∃ A' c', e = .returned (.slice A' R.length c') ∧ w'.ownsRow w.heap.size 95 1 (.slice A' R.length c') R.length (ursCells R) ∧ Below w.heap.size w w' := by
  have hrd : Reads w w.heap.size 1 A R.length (ursCells R) := Reads.of_own hr
  have q := clone_all (P := Try.prog) Try.cloneU (z := .int .u64 0) (size := 1) (bytes := 8) i_ur rfl (by omega) sz_ur A w.heap.size R.length c (ursCells R) w hrd (by unfold maxLen; omega) (by omega) (ursCells_one _)
  exact q

theorem foldS_snoc (l : List Int) (x : Int) (s : CtS) : (l ++ [x]).foldl addS s = addS (l.foldl addS s) x := by simp

set_option maxHeartbeats 8000000 in
set_option maxRecDepth 100000 in
theorem cmerge_any (cb ob : Nat) (s o : CtS) (F G : Nat → Prop) (w : World) (hO : CtO cb s w F) (hP : CtO ob o w G) (hFG : Apart F G) (hk : o.k = s.k) :
    Calls Try.prog 27 #[.pointer (some ⟨cb, 0, none⟩), .pointer (some ⟨ob, 0, none⟩)] w (CtNew cb F (mergeS s o) (.bool true) w) := by
  obtain ⟨B, d, hQ, hG⟩ := hP
  obtain ⟨A0, c0, hC0, hF0⟩ := hO
  have hlt : ∀ k, F k → k < w.heap.size := by rw [hF0]; exact hC0.foot_lt
  have hol : o.R.length ≤ 4096 := by have := hQ.le; have := hQ.k0; omega
  obtain ⟨x0, -, -, -⟩ := hC0.cells
  obtain ⟨y0, y1, y2, -⟩ := hQ.cells
  rw [hk] at y0
  have HQ := Lib.hid hQ
  have HC0 := Lib.hid hC0
  have HF0 := Lib.hid hF0
  have HGG := Lib.hid hG
  clear hQ hC0 hG
  go_enter Try.func27, Try.ntmps27
  go_wp2_with fail
  go_quiet (fail)
  go_wp2_with fail
  obtain ⟨W3, hW3⟩ : ∃ W3, W3 = w.drewN nq := ⟨_, rfl⟩
  have hQ3 : CtAt W3 ob B d o := by rw [hW3]; exact HQ.out.drewN nq
  have hC3 : CtO cb s W3 F := by rw [hW3]; exact ⟨A0, c0, HC0.out.drewN nq, HF0.out⟩
  have hk3 : Keeps noF w W3 := by rw [hW3]; exact (Keeps.refl noF w).drewN nq
  rw [← hW3]
  clear hW3 HC0 x0 y0 y1 y2
  have hs3 := hk3.size
  refine Calls.mono (cloneU_any B d o.R W3 hQ3.row hol) ?_
  rintro e W2 ⟨A', c', rfl, hrow, hb2⟩
  have hC2 : CtO cb s W2 F := (CtO.own cb s).below hC3 hb2
  have hQ2 : CtAt W2 ob B d o := hQ3.keep (Keeps.ofBelow hb2 noF) (fun _ _ e => e)
  have hkk2 : Keeps noF w W2 := hk3.trans (Keeps.ofBelow hb2 noF) (fun _ _ e => e)
  have hbd := hQ2.bd
  obtain ⟨R, hR⟩ : ∃ R, o.R = R := ⟨_, rfl⟩
  rw [hR] at hrow hol hbd ⊢
  have HR := Lib.hid hR
  have HC2 := Lib.hid hC2
  have HQ2 := Lib.hid hQ2
  have HK2 := Lib.hid hkk2
  have HROW := Lib.hid hrow
  have HLT := Lib.hid hlt
  have HBD := Lib.hid hbd
  clear hR hC2 hQ2 hkk2 hrow hb2 hC3 hQ3 hk3 HQ hlt hbd
  obtain ⟨n, hn⟩ : ∃ n, R.length = n := ⟨_, rfl⟩
  have HN := Lib.hid hn
  rw [hn] at hol ⊢
  clear hn
  go_wp2_with fail
  go_loopg [6, 26] n (fun rest v i wr => ∃ (k : Nat) (F' : Nat → Prop), i = .int .i64 k ∧ Hid (k + rest = n) ∧ Hid (CtO cb ((R.take k).foldl addS s) wr F' ∧ Upd F W2 F' wr))
  case atStart => exact ⟨0, F, rfl, Lib.hid (by simp), Lib.hid ⟨HC2.out, Upd.refl _ _⟩⟩
  case round =>
    obtain ⟨k, F', rfl, HK, HI⟩ := hrel
    by_cases hkn : k < n
    · have hkr : k < R.length := by rw [HN.out]; exact hkn
      have hcell : ∃ g, A' = some ⟨g, 0, none⟩ ∧ wr.cell? ⟨g, k, none⟩ = some (.int .u64 R[k]) := by
        have hr2 : wr.ownsRow W3.heap.size 95 1 (.slice A' R.length c') R.length (ursCells R) := HI.out.2.keeps.own (by rw [HN.out]; have := HROW.out; rw [HN.out] at this; exact this) (fun j e hF => by
          have h1 := HLT.out j hF
          rw [HN.out] at e
          have h2 : W3.heap.size ≤ j := by
            have := HROW.out
            rw [HN.out] at this
            obtain ⟨-, ⟨q1, -⟩ | ⟨g, cap, cur, q1, q2, -⟩⟩ := this
            · rw [q1] at e; cases e
            · rw [q1] at e; injection e with e; have e3 : g = j := e; omega
          omega)
        rcases hr2.2 with ⟨q1, q2⟩ | ⟨g, cap, cur, q1, q2, -⟩
        · omega
        · injection q1 with e1
          refine ⟨g, e1, ?_⟩
          rw [e1] at hr2
          obtain ⟨b, o', e, hb, hc⟩ := (Reads.of_own hr2).2 (by omega)
          injection e with e
          injection e with e1 e2
          subst e1 e2
          have := hc k _ (ursCells_at hkr)
          rwa [Nat.zero_add] at this
      obtain ⟨g, rfl, hx⟩ := hcell
      have hxb := HBD.out R[k] (List.getElem_mem hkr)
      have HX : Hid (addS ((R.take k).foldl addS s) R[k] = (R.take (k + 1)).foldl addS s) := Lib.hid (by rw [List.take_succ_eq_append_getElem hkr, foldS_snoc])
      have ha := cadd_any cb _ F' R[k] wr HI.out.1 hxb
      rw [HX.out] at ha
      have HA := Lib.hid ha
      clear ha HX
      generalize R[k] = x at *
      have p1 : (k : Int) < (n : Int) := by omega
      go_wp2_with fail
      refine Calls.mono HA.out ?_
      rintro e w5 ⟨rfl, F'', hO5, hU5⟩
      have HO5 := Lib.hid hO5
      have HU5 := Lib.hid (HI.out.2.trans hU5)
      clear hO5 hU5
      go_wp2_with fail
      go_roundg (gk - 1)
      case measure => have := HK.out; omega
      case rel => exact ⟨k + 1, F'', by go_num, Lib.hid (by have := HK.out; omega), Lib.hid ⟨HO5.out, HU5.out⟩⟩
    · have hke : k = n := by have := HK.out; omega
      have hst : (R.take k).foldl addS s = o.R.foldl addS s := by rw [hke, ← HN.out, List.take_length, HR.out]
      have h0 := HI.out
      rw [hst] at h0
      obtain ⟨⟨A1, c1, hC, hF⟩, hU⟩ := h0
      obtain ⟨z0, z1, z2, z3⟩ := hC.cells
      have hQ : CtAt wr ob B d o := HQ2.out.keep hU.keeps (fun j hj hf => hFG j hf (by rw [HGG.out]; exact hj))
      obtain ⟨-, -, y2, -⟩ := hQ.cells
      have f2 := z3 2
      obtain ⟨hM, hMk⟩ := hC.setMore ((o.R.foldl addS s).more || o.more)
      have hfin : CtNew cb F (mergeS s o) (.bool true) w (.returned (.bool true)) (wr.setCell ⟨cb, 2, none⟩ (.bool ((o.R.foldl addS s).more || o.more))) := by
        refine ⟨rfl, F', ⟨A1, c1, hM, hF⟩, ?_⟩
        exact ((Upd.stay (HK2.out.toBelow (Nat.le_refl _) (fun _ e => e.elim))).trans hU).trans ⟨hMk.mono (fun j _ e => by rw [hF]; exact .inl e), fun _ e => .inl e⟩
      clear z0 z1 z3
      generalize (o.R.foldl addS s).more = m1 at *
      generalize o.more = m2 at *
      have p1 : ¬ (k : Int) < (n : Int) := by omega
      have p2 : decide ((k : Int) < (n : Int)) = false := by simpa using p1
      clear hM hMk hC hU hQ HI HQ2 HC2 HROW hst
      cases m1 with
      | true =>
        have q8 : wr.cell? ⟨cb, 2, none⟩ = some (.bool true) ∧ wr.cell? ⟨ob, 2, none⟩ = some (.bool m2) ∧ wr.frozen? ⟨cb, 2, none⟩ = false := ⟨z2, y2, f2⟩
        rw [Bool.true_or] at hfin
        have HF := Lib.hid hfin
        clear hfin
        go_wp2
        go_ret
        first | exact HF.out | (have h9 := HF.out; rw [HF0.out] at h9; exact h9)
      | false =>
        have q8 : wr.cell? ⟨cb, 2, none⟩ = some (.bool false) ∧ wr.cell? ⟨ob, 2, none⟩ = some (.bool m2) ∧ wr.frozen? ⟨cb, 2, none⟩ = false := ⟨z2, y2, f2⟩
        rw [Bool.false_or] at hfin
        have HF := Lib.hid hfin
        clear hfin
        go_wp2
        go_ret
        first | exact HF.out | (have h9 := HF.out; rw [HF0.out] at h9; exact h9)
end Go.Proofs.Ytmigjlceogofaaa

namespace Go.Proofs.Ytmigjlceogofaaa
open Go.ChangeShapes Go.WideShapes Go.ChangeAt Go.RowKit
set_option linter.unusedVariables false
set_option linter.unusedSimpArgs false

theorem nodup_sub_lenU {L M : List Int} (h : L.Nodup) (hs : ∀ x ∈ L, x ∈ M) : L.length ≤ M.length := by
  induction L generalizing M with
  | nil => simp
  | cons x L ih =>
    have hx := hs x (List.mem_cons_self)
    obtain ⟨h1, h2⟩ := List.nodup_cons.1 h
    have := ih (M := M.erase x) h2 (fun y hy => by
      have hne : y ≠ x := fun e => h1 (e ▸ hy)
      exact (List.mem_erase_of_ne hne).2 (hs y (List.mem_cons_of_mem _ hy)))
    rw [List.length_erase_of_mem hx] at this
    have hp : 0 < M.length := List.length_pos_of_mem hx
    simp only [List.length_cons]
    omega
theorem ris_nodup {R : List Int} (h : Rising R) : R.Nodup := h.imp (fun h => by omega)
/-- What a counter holds, of the hashes that came. -/
structure CtInv (s : CtS) (P : Int → Prop) : Prop where
  ris : Rising s.R
  le : (s.R.length : Int) ≤ s.k
  sub : ∀ x ∈ s.R, P x
  k1 : 1 ≤ s.k
  more : s.more = true → ∃ L : List Int, L.Nodup ∧ (L.length : Int) = s.k + 1 ∧ ∀ x ∈ L, P x
theorem CtInv.mono {s : CtS} {P Q : Int → Prop} (h : CtInv s P) (hPQ : ∀ x, P x → Q x) : CtInv s Q where
  ris := h.ris
  le := h.le
  sub := fun x hx => hPQ x (h.sub x hx)
  k1 := h.k1
  more := fun e => by obtain ⟨L, h1, h2, h3⟩ := h.more e; exact ⟨L, h1, h2, fun x hx => hPQ x (h3 x hx)⟩
theorem newS_inv (k : Int) : CtInv (newS k) (fun _ => False) where
  ris := List.Pairwise.nil
  le := by unfold newS; show (0 : Int) ≤ min (max k 1) 4096; omega
  sub := fun x hx => by cases hx
  k1 := by unfold newS; show (1 : Int) ≤ min (max k 1) 4096; omega
  more := fun e => by cases e
theorem addS_inv {s : CtS} {P : Int → Prop} (h : CtInv s P) (x : Int) : CtInv (addS s x) (fun y => P y ∨ y = x) := by
  have hp := placeD_le s.R x
  unfold addS
  split
  · exact h.mono (fun _ h => .inl h)
  rename_i hm
  have hfull : (s.R.length : Int) = s.k → ∃ L : List Int, L.Nodup ∧ (L.length : Int) = s.k + 1 ∧ ∀ y ∈ L, P y ∨ y = x := fun e => by
    refine ⟨x :: s.R, List.nodup_cons.2 ⟨hm, ris_nodup h.ris⟩, by simp only [List.length_cons]; omega, fun y hy => ?_⟩
    rcases List.mem_cons.1 hy with rfl | hy
    · exact .inr rfl
    · exact .inl (h.sub y hy)
  split
  · rename_i hf
    split
    · exact ⟨h.ris, h.le, fun y hy => .inl (h.sub y hy), h.k1, fun _ => hfull hf⟩
    · rename_i hk
      have hk1 := h.k1
      have hl : (s.R.take (s.R.length - 1)).length = s.R.length - 1 := by rw [List.length_take]; omega
      have hpl : placeD s.R x ≤ (s.R.take (s.R.length - 1)).length := by rw [hl]; omega
      have hpt : placeD (s.R.take (s.R.length - 1)) x = placeD s.R x := placeD_take rfl (by omega)
      have hmt : x ∉ s.R.take (s.R.length - 1) := fun q => hm (List.mem_of_mem_take q)
      have hrt : Rising (s.R.take (s.R.length - 1)) := Ris_take h.ris _
      refine ⟨insAt_ris hrt hpl (fun t ht q => (placeD_iff hrt x t ht).2 (by rw [hpt]; exact q)) (fun t ht q => place_lt hrt hmt t ht (by rw [hpt]; exact q)), ?_, ?_, h.k1, fun _ => hfull hf⟩
      · show ((insD _ _ _).length : Int) ≤ s.k
        rw [insAt_len hpl, hl]; omega
      · intro y hy
        rcases mem_insAt.1 hy with rfl | hy
        · exact .inr rfl
        · exact .inl (h.sub y (List.mem_of_mem_take hy))
  · rename_i hf
    have hle := h.le
    refine ⟨insAt_ris h.ris hp (fun t ht q => (placeD_iff h.ris x t ht).2 q) (fun t ht q => place_lt h.ris hm t ht q), ?_, ?_, h.k1, fun e => ?_⟩
    · show ((insD _ _ _).length : Int) ≤ s.k
      rw [insAt_len hp]; omega
    · intro y hy
      rcases mem_insAt.1 hy with rfl | hy
      · exact .inr rfl
      · exact .inl (h.sub y hy)
    · obtain ⟨L, h1, h2, h3⟩ := h.more e
      exact ⟨L, h1, h2, fun x hx => .inl (h3 x hx)⟩
theorem foldS_inv {s : CtS} {P Q : Int → Prop} (h : CtInv s P) (l : List Int) (hl : ∀ x ∈ l, Q x) (hPQ : ∀ x, P x → Q x) : CtInv (l.foldl addS s) Q := by
  induction l generalizing s P with
  | nil => exact h.mono hPQ
  | cons x l ih =>
    exact ih (addS_inv h x) (fun y hy => hl y (List.mem_cons_of_mem _ hy)) (fun y hy => by
      rcases hy with hy | rfl
      · exact hPQ y hy
      · exact hl y List.mem_cons_self)
theorem mergeS_inv {s o : CtS} {P Q : Int → Prop} (h : CtInv s P) (k : CtInv o Q) (hk : o.k = s.k) : CtInv (mergeS s o) (fun x => P x ∨ Q x) := by
  have h1 := foldS_inv (Q := fun x => P x ∨ Q x) h o.R (fun x hx => .inr (k.sub x hx)) (fun x hx => .inl hx)
  refine ⟨h1.ris, h1.le, h1.sub, h1.k1, fun e => ?_⟩
  unfold mergeS at e
  rcases Bool.or_eq_true_iff.1 e with e | e
  · exact h1.more e
  · obtain ⟨L, q1, q2, q3⟩ := k.more e
    refine ⟨L, q1, ?_, fun x hx => .inr (q3 x hx)⟩
    show (L.length : Int) = (o.R.foldl addS s).k + 1
    rw [foldS_k, q2, hk]
/-- Of unlike names never more are told than there are. -/
theorem least_le {s : CtS} {P : Int → Prop} (h : CtInv s P) (N : List ByteArray) (hP : ∀ x, P x → ∃ a ∈ N, hashD a = x) : leastC s ≤ N.length := by
  have hsub : ∀ L : List Int, L.Nodup → (∀ x ∈ L, P x) → L.length ≤ N.length := fun L h1 h2 => by
    have := nodup_sub_lenU (M := N.map hashD) h1 (fun x hx => by
      obtain ⟨a, ha, e⟩ := hP x (h2 x hx)
      exact List.mem_map.2 ⟨a, ha, e⟩)
    rwa [List.length_map] at this
  unfold leastC
  split
  · rename_i e
    obtain ⟨L, q1, q2, q3⟩ := h.more e
    have := hsub L q1 q3
    omega
  · have := hsub s.R (ris_nodup h.ris) h.sub
    omega
end Go.Proofs.Ytmigjlceogofaaa

namespace Go.Proofs.Ytmigjlceogofaaa
open Go.ChangeShapes Go.WideShapes Go.ChangeAt Go.RowKit
set_option linter.unusedVariables false
set_option linter.unusedSimpArgs false

def toC (a : AddD) : CntV := ⟨a.key, a.n⟩
def sumN (L : List AddD) : Int := (L.map (·.n)).foldr (· + ·) 0
theorem sumN_snoc (L : List AddD) (a : AddD) : sumN (L ++ [a]) = sumN L + a.n := by
  unfold sumN
  induction L with
  | nil => simp
  | cons x L ih => simp only [List.cons_append, List.map_cons, List.foldr_cons]; rw [ih]; omega
def HashOf (L : List AddD) (x : Int) : Prop := ∃ a ∈ L, hashD a.key = x
def updN {α : Type} (f : Nat → α) (i : Nat) (x : α) : Nat → α := fun j => if j = i then x else f j
structure SkInv (room kk : Int) (L : List AddD) (s : Nat → HvS) (t : Nat → CtS) (S : CntrL) : Prop where
  room : ∀ i, (s i).room = room
  inv : ∀ i, HvInv (s i)
  add : ∀ i, (s i).added ≤ L.length
  tot : (s 0).total + (s 1).total + (s 2).total = sumN L
  tr : ∃ f : Nat → ByteArray → Int, (∀ i, Tr (s i) (f i)) ∧ ∀ k, f 0 k + f 1 k + f 2 k = truthV (L.map toC) k
  ck : ∀ i, (t i).k = kk
  ci : ∀ i, CtInv (t i) (HashOf L)
  val : ∀ k, lowV S k = truthV (L.map toC) k
  keys : ∀ a ∈ L, ∃ n, mget S a.key = some n
theorem SkInv.start (m kk : Int) (hm : 1 ≤ m ∧ m ≤ 4096) (hk : 1 ≤ kk ∧ kk ≤ 4096) : SkInv m kk [] (fun _ => newH m) (fun _ => newS kk) [] where
  room := fun i => by show min (max m 1) 4096 = m; omega
  inv := fun i => newH_inv m
  add := fun i => by show (0 : Int) ≤ _; simp
  tot := rfl
  tr := ⟨fun _ _ => 0, fun i => Tr.new m, fun k => rfl⟩
  ck := fun i => by show min (max kk 1) 4096 = kk; omega
  ci := fun i => (newS_inv kk).mono (fun _ h => h.elim)
  val := fun k => by rw [lowV_nil]; rfl
  keys := fun a ha => by cases ha
theorem SkInv.step {room kk : Int} {L : List AddD} {s : Nat → HvS} {t : Nat → CtS} {S : CntrL} (h : SkInv room kk L s t S) (a : AddD) (hm : mayB (toC a) = true) (hl : (L.length : Int) < 1000) {i : Nat} (hi : i < 3) :
    SkInv room kk (L ++ [a]) (updN s i (addH (s i) a.key a.n)) (updN t i (addS (t i) (hashD a.key))) (mput S a.key (lowV S a.key + a.n)) ∧ hokB (s i) a.key a.n = true := by
  have hai := h.add i
  have hok : hokB (s i) a.key a.n = true := (hokB_may (s i) (toC a) (by omega)).trans hm
  obtain ⟨f, hf1, hf2⟩ := h.tr
  have hlen : ((L ++ [a]).length : Int) = L.length + 1 := by simp
  have hmap : (L ++ [a]).map toC = L.map toC ++ [toC a] := by simp
  have htot : (addH (s i) a.key a.n).total = (s i).total + a.n := by unfold addH; rw [if_pos hok]
  refine ⟨⟨?_, ?_, ?_, ?_, ?_, ?_, ?_, ?_, ?_⟩, hok⟩
  · intro j
    unfold updN
    split
    · rw [addH_room]; exact h.room i
    · exact h.room j
  · intro j
    unfold updN
    split
    · exact addH_inv (h.inv i) _ _
    · exact h.inv j
  · intro j
    unfold updN
    rw [hlen]
    split
    · have := addH_added (s i) a.key a.n; omega
    · have := h.add j; omega
  · have := h.tot
    rw [sumN_snoc]
    unfold updN
    have e3 : i = 0 ∨ i = 1 ∨ i = 2 := by omega
    rcases e3 with rfl | rfl | rfl
    · simp only [if_true]; rw [htot]; simp; omega
    · simp only [if_true]; rw [htot]; simp; omega
    · simp only [if_true]; rw [htot]; simp; omega
  · refine ⟨updN f i (fun k => f i k + if a.key = k ∧ mayB (toC a) = true then a.n else 0), ?_, ?_⟩
    · intro j
      unfold updN
      by_cases e : j = i
      · rw [if_pos e, if_pos e]; exact Tr.add (h.inv i) (hf1 i) (toC a) (by omega)
      · rw [if_neg e, if_neg e]; exact hf1 j
    · intro k
      have h2 := hf2 k
      rw [hmap, truthV_snoc, ← h2]
      have e9 : (if (toC a).key = k ∧ mayB (toC a) = true then (toC a).n else 0) = (if a.key = k ∧ mayB (toC a) = true then a.n else 0) := rfl
      rw [e9]
      obtain ⟨z, hz⟩ : ∃ z, (if a.key = k ∧ mayB (toC a) = true then a.n else 0) = z := ⟨_, rfl⟩
      have e3 : i = 0 ∨ i = 1 ∨ i = 2 := by omega
      rcases e3 with rfl | rfl | rfl
      · show (f 0 k + (if a.key = k ∧ mayB (toC a) = true then a.n else 0)) + f 1 k + f 2 k = _
        rw [hz]; omega
      · show f 0 k + (f 1 k + (if a.key = k ∧ mayB (toC a) = true then a.n else 0)) + f 2 k = _
        rw [hz]; omega
      · show f 0 k + f 1 k + (f 2 k + (if a.key = k ∧ mayB (toC a) = true then a.n else 0)) = _
        rw [hz]; omega
  · intro j
    unfold updN
    split
    · rw [addS_k]; exact h.ck i
    · exact h.ck j
  · intro j
    unfold updN
    split
    · refine (addS_inv (h.ci i) _).mono ?_
      rintro x (⟨b, hb, e⟩ | rfl)
      · exact ⟨b, by simp [hb], e⟩
      · exact ⟨a, by simp, rfl⟩
    · exact (h.ci j).mono (fun x ⟨b, hb, e⟩ => ⟨b, by simp [hb], e⟩)
  · intro k
    rw [hmap, truthV_snoc]
    have h1 := h.val k
    show (mget (mput S a.key (lowV S a.key + a.n)) k).getD 0 = _
    rw [mget_mput]
    by_cases e : k = a.key
    · subst e
      rw [if_pos rfl]
      have : (if (toC a).key = a.key ∧ mayB (toC a) = true then (toC a).n else 0) = a.n := by rw [if_pos ⟨rfl, hm⟩]; rfl
      rw [this]
      simp only [Option.getD_some]
      omega
    · rw [if_neg e]
      have : (if (toC a).key = k ∧ mayB (toC a) = true then (toC a).n else 0) = 0 := by rw [if_neg]; rintro ⟨q, -⟩; exact e q.symm
      rw [this]
      have h2 : (mget S k).getD 0 = truthV (L.map toC) k := h1
      omega
  · intro b hb
    rw [mget_mput]
    by_cases e : b.key = a.key
    · rw [if_pos e]; exact ⟨_, rfl⟩
    · rw [if_neg e]
      rcases List.mem_append.1 hb with hb | hb
      · exact h.keys b hb
      · simp at hb; exact absurd (by rw [hb]) e
end Go.Proofs.Ytmigjlceogofaaa

namespace Go.Proofs.Ytmigjlceogofaaa
open Go.ChangeShapes Go.WideShapes Go.ChangeAt Go.RowKit
set_option linter.unusedVariables false
set_option linter.unusedSimpArgs false

noncomputable def finH (s : Nat → HvS) : HvS := mergeH (mergeH (s 0) (s 1)) (s 2)
def finC (t : Nat → CtS) : CtS := mergeS (mergeS (t 0) (t 1)) (t 2)
theorem mergeS_k (s o : CtS) : (mergeS s o).k = s.k := by unfold mergeS; exact foldS_k _ _
/-- What holds at the end. -/
structure SkEnd (room : Int) (L : List AddD) (s : HvS) (t : CtS) (S : CntrL) : Prop where
  tot : s.total = sumN L
  slack : ¬ sumN L / (room + 1) < s.slack
  least : ¬ (S.length : Int) < leastC t
  low : ∀ p ∈ S, ¬ p.2 < lowV s.S p.1 ∧ ¬ lowV s.S p.1 + s.slack < p.2
  bd : ∀ k, 0 ≤ lowV s.S k ∧ lowV s.S k ≤ 1099511627776
  sl : 0 ≤ s.slack ∧ s.slack ≤ 1099511627776
theorem SkInv.fin {room kk : Int} {L : List AddD} {s : Nat → HvS} {t : Nat → CtS} {S : CntrL} (h : SkInv room kk L s t S) (hn : (S.map (·.1)).Nodup) (hl : (L.length : Int) ≤ 60) (hr : 1 ≤ room) :
    SkEnd room L (finH s) (finC t) S := by
  have a0 := h.add 0
  have a1 := h.add 1
  have a2 := h.add 2
  have r1 : (s 1).room = (s 0).room := by rw [h.room 1, h.room 0]
  have r2 : (s 2).room = (mergeH (s 0) (s 1)).room := by show (s 2).room = (s 0).room; rw [h.room 2, h.room 0]
  have i1 := mergeH_inv (h.inv 0) (h.inv 1) r1 (by omega)
  have i2 : HvInv (finH s) := mergeH_inv i1 (h.inv 2) r2 (by show (s 0).added + (s 1).added + (s 2).added ≤ _; omega)
  obtain ⟨f, hf1, hf2⟩ := h.tr
  have t2 : Tr (finH s) (fun x => (f 0 x + f 1 x) + f 2 x) := Tr.merge i1 (h.inv 2) r2 (Tr.merge (h.inv 0) (h.inv 1) r1 (hf1 0) (hf1 1)) (hf1 2)
  have c1 := mergeS_inv (h.ci 0) (h.ci 1) (by rw [h.ck 1, h.ck 0])
  have c2 : CtInv (finC t) _ := mergeS_inv c1 (h.ci 2) (by rw [mergeS_k, h.ck 2, h.ck 0])
  have htot : (finH s).total = sumN L := h.tot
  have hroom : (finH s).room = room := h.room 0
  have hsl := i2.sl
  refine ⟨htot, ?_, ?_, ?_, ?_, ⟨i2.s0, by omega⟩⟩
  · have h1 := i2.sum
    have h2 := sumS_nonneg i2.pos
    rw [hroom, htot] at h1
    have : (finH s).slack ≤ sumN L / (room + 1) := by
      rw [Int.le_ediv_iff_mul_le (by omega), Int.mul_comm]
      omega
    omega
  · have := least_le c2 (S.map (·.1)) (fun x hx => by
      have : HashOf L x := by
        rcases hx with (hx | hx) | hx <;> exact hx
      obtain ⟨a, ha, e⟩ := this
      obtain ⟨n, hn⟩ := h.keys a ha
      exact ⟨a.key, List.mem_map.2 ⟨_, mget_some_mem hn, rfl⟩, e⟩)
    rw [List.length_map] at this
    omega
  · intro p hp
    have h1 := t2 p.1
    have h2 := hf2 p.1
    have h3 := h.val p.1
    rw [lowV_mem hn hp] at h3
    simp only at h1 h2
    constructor <;> omega
  · intro k
    have := i2.low k
    omega

/-! ### The merges, one behind the other -/
noncomputable def mgS (s : Nat → HvS) : Nat → Nat → HvS
  | 0 => s
  | n + 1 => updN (mgS s n) 0 (mergeH (mgS s n 0) (mgS s n (n + 1)))
def mgT (t : Nat → CtS) : Nat → Nat → CtS
  | 0 => t
  | n + 1 => updN (mgT t n) 0 (mergeS (mgT t n 0) (mgT t n (n + 1)))
theorem mgS_ne (s : Nat → HvS) (n : Nat) {j : Nat} (h : j ≠ 0) : mgS s n j = s j := by
  induction n with
  | zero => rfl
  | succ n ih => show updN _ _ _ j = _; unfold updN; rw [if_neg h]; exact ih
theorem mgT_ne (t : Nat → CtS) (n : Nat) {j : Nat} (h : j ≠ 0) : mgT t n j = t j := by
  induction n with
  | zero => rfl
  | succ n ih => show updN _ _ _ j = _; unfold updN; rw [if_neg h]; exact ih
theorem mgS_at (s : Nat → HvS) (n : Nat) : mgS s (n + 1) 0 = mergeH (mgS s n 0) (s (n + 1)) := by
  show updN _ _ _ 0 = _; unfold updN; rw [if_pos rfl, mgS_ne s n (Nat.succ_ne_zero n)]
theorem mgT_at (t : Nat → CtS) (n : Nat) : mgT t (n + 1) 0 = mergeS (mgT t n 0) (t (n + 1)) := by
  show updN _ _ _ 0 = _; unfold updN; rw [if_pos rfl, mgT_ne t n (Nat.succ_ne_zero n)]
theorem mgS_fin (s : Nat → HvS) : mgS s 2 0 = finH s := by rw [mgS_at, mgS_at]; rfl
theorem mgT_fin (t : Nat → CtS) : mgT t 2 0 = finC t := by rw [mgT_at, mgT_at]; rfl
theorem SkInv.mg {room kk : Int} {L : List AddD} {s : Nat → HvS} {t : Nat → CtS} {S : CntrL} (h : SkInv room kk L s t S) (hl : (L.length : Int) ≤ 60) (n : Nat) (hn : n ≤ 2) :
    (mgS s n 0).room = room ∧ (mgS s n 0).added ≤ 60 * ((n : Int) + 1) ∧ (mgT t n 0).k = kk := by
  induction n with
  | zero => exact ⟨h.room 0, by have := h.add 0; show (s 0).added ≤ _; omega, h.ck 0⟩
  | succ n ih =>
    obtain ⟨a, b, c⟩ := ih (by omega)
    rw [mgS_at, mgT_at, mergeS_k]
    refine ⟨a, ?_, c⟩
    have := h.add (n + 1)
    show (mgS s n 0).added + (s (n + 1)).added ≤ _
    omega
theorem SkInv.mgNext {room kk : Int} {L : List AddD} {s : Nat → HvS} {t : Nat → CtS} {S : CntrL} (h : SkInv room kk L s t S) (hl : (L.length : Int) ≤ 60) (n : Nat) (hn : n < 2) :
    (mgS s n (n + 1)).room = (mgS s n 0).room ∧ (mgS s n 0).added + (mgS s n (n + 1)).added ≤ 1048576 ∧ (mgT t n (n + 1)).k = (mgT t n 0).k := by
  obtain ⟨a, b, c⟩ := h.mg hl n (by omega)
  rw [mgS_ne s n (by omega), mgT_ne t n (by omega), a, c]
  have := h.add (n + 1)
  exact ⟨h.room _, by omega, h.ck _⟩

/-! ### The objects -/
def kOs (pb : Nat) (o : Obj) : Ob1 := ⟨fun w F => F = (fun k => k = pb) ∧ w.heap[pb]? = some o, ⟨by
  rintro w w' F G ⟨rfl, h⟩ hk hd
  exact ⟨rfl, (hk.block pb (Array.getElem?_eq_some_iff.1 h).1 (hd pb rfl)).trans h⟩, by
  rintro w F ⟨rfl, h⟩ k rfl
  exact (Array.getElem?_eq_some_iff.1 h).1⟩⟩
def hOs (c : Nat) (s : HvS) : Ob1 := ⟨fun w F => HvO w c F s, HvO.own c s⟩
def uOs (c : Nat) (s : CtS) : Ob1 := ⟨fun w F => CtO c s w F, CtO.own c s⟩
def mOs (b : Nat) (S : CntrL) : Ob1 := ⟨fun w F => F = (fun k => k = b) ∧ MapIs w strKf intVf strOk b S, ⟨by
  rintro w w' F G ⟨rfl, h⟩ hk hd
  exact ⟨rfl, h.keep hk (hd b rfl)⟩, by
  rintro w F ⟨rfl, h⟩ k rfl
  exact h.lt⟩⟩
def ptrs3 (c : Nat → Nat) (t : TypeId) : Obj := .cells #[.pointer (some ⟨c 0, 0, none⟩), .pointer (some ⟨c 1, 0, none⟩), .pointer (some ⟨c 2, 0, none⟩)] t
def skL (hc uc : Nat → Nat) (pb qb mb : Nat) (s : Nat → HvS) (t : Nat → CtS) (S : CntrL) (ks : List Ob1) : List Ob1 :=
  hOs (hc 0) (s 0) :: hOs (hc 1) (s 1) :: hOs (hc 2) (s 2) :: kOs pb (ptrs3 hc 51) :: uOs (uc 0) (t 0) :: uOs (uc 1) (t 1) :: uOs (uc 2) (t 2) :: kOs qb (ptrs3 uc 54) :: mOs mb S :: ks
def SkMem (w0 w : World) (hc uc : Nat → Nat) (pb qb mb : Nat) (s : Nat → HvS) (t : Nat → CtS) (S : CntrL) (ks : List Ob1) : Prop :=
  ∃ Fo, Objs w0 w w0.heap.size (skL hc uc pb qb mb s t S ks) Fo
section
variable {w0 w w' : World} {hc uc : Nat → Nat} {pb qb mb : Nat} {s : Nat → HvS} {t : Nat → CtS} {S : CntrL} {ks : List Ob1}
theorem SkMem.bl (h : SkMem w0 w hc uc pb qb mb s t S ks) : Below w0.heap.size w0 w := by obtain ⟨Fo, h⟩ := h; exact h.bl
theorem SkMem.below (h : SkMem w0 w hc uc pb qb mb s t S ks) (hb : Below w.heap.size w w') : SkMem w0 w' hc uc pb qb mb s t S ks := by obtain ⟨Fo, h⟩ := h; exact ⟨Fo, h.below hb⟩
theorem SkMem.heavy (h : SkMem w0 w hc uc pb qb mb s t S ks) {j : Nat} (hj : j < 3) :
    ∃ F, HvO w (hc j) F (s j) ∧ (∀ w' F' x, HvO w' (hc j) F' x → Upd F w F' w' → SkMem w0 w' hc uc pb qb mb (updN s j x) t S ks) := by
  obtain ⟨Fo, h⟩ := h
  have e3 : j = 0 ∨ j = 1 ∨ j = 2 := by omega
  rcases e3 with rfl | rfl | rfl
  · exact ⟨Fo 0, h.get (i := 0) rfl, fun w' F' x hx hu => h.upd (i := 0) (hOs (hc 0) x) rfl hu hx⟩
  · exact ⟨Fo 1, h.get (i := 1) rfl, fun w' F' x hx hu => h.upd (i := 1) (hOs (hc 1) x) rfl hu hx⟩
  · exact ⟨Fo 2, h.get (i := 2) rfl, fun w' F' x hx hu => h.upd (i := 2) (hOs (hc 2) x) rfl hu hx⟩
theorem SkMem.heavies (h : SkMem w0 w hc uc pb qb mb s t S ks) {j : Nat} (hj : j < 3) (h0 : j ≠ 0) :
    ∃ F G, HvO w (hc 0) F (s 0) ∧ HvO w (hc j) G (s j) ∧ Apart F G ∧ (∀ w' F' x, HvO w' (hc 0) F' x → Upd F w F' w' → SkMem w0 w' hc uc pb qb mb (updN s 0 x) t S ks) := by
  obtain ⟨Fo, h⟩ := h
  have e3 : j = 1 ∨ j = 2 := by omega
  rcases e3 with rfl | rfl
  · exact ⟨Fo 0, Fo 1, h.get (i := 0) rfl, h.get (i := 1) rfl, h.ap 0 1 (by omega) (by simp [skL]) (by simp [skL]), fun w' F' x hx hu => h.upd (i := 0) (hOs (hc 0) x) rfl hu hx⟩
  · exact ⟨Fo 0, Fo 2, h.get (i := 0) rfl, h.get (i := 2) rfl, h.ap 0 2 (by omega) (by simp [skL]) (by simp [skL]), fun w' F' x hx hu => h.upd (i := 0) (hOs (hc 0) x) rfl hu hx⟩
theorem SkMem.ctr (h : SkMem w0 w hc uc pb qb mb s t S ks) {j : Nat} (hj : j < 3) :
    ∃ F, CtO (uc j) (t j) w F ∧ (∀ w' F' x, CtO (uc j) x w' F' → Upd F w F' w' → SkMem w0 w' hc uc pb qb mb s (updN t j x) S ks) := by
  obtain ⟨Fo, h⟩ := h
  have e3 : j = 0 ∨ j = 1 ∨ j = 2 := by omega
  rcases e3 with rfl | rfl | rfl
  · exact ⟨Fo 4, h.get (i := 4) rfl, fun w' F' x hx hu => h.upd (i := 4) (uOs (uc 0) x) rfl hu hx⟩
  · exact ⟨Fo 5, h.get (i := 5) rfl, fun w' F' x hx hu => h.upd (i := 5) (uOs (uc 1) x) rfl hu hx⟩
  · exact ⟨Fo 6, h.get (i := 6) rfl, fun w' F' x hx hu => h.upd (i := 6) (uOs (uc 2) x) rfl hu hx⟩
theorem SkMem.ctrs (h : SkMem w0 w hc uc pb qb mb s t S ks) {j : Nat} (hj : j < 3) (h0 : j ≠ 0) :
    ∃ F G, CtO (uc 0) (t 0) w F ∧ CtO (uc j) (t j) w G ∧ Apart F G ∧ (∀ w' F' x, CtO (uc 0) x w' F' → Upd F w F' w' → SkMem w0 w' hc uc pb qb mb s (updN t 0 x) S ks) := by
  obtain ⟨Fo, h⟩ := h
  have e3 : j = 1 ∨ j = 2 := by omega
  rcases e3 with rfl | rfl
  · exact ⟨Fo 4, Fo 5, h.get (i := 4) rfl, h.get (i := 5) rfl, h.ap 4 5 (by omega) (by simp [skL]) (by simp [skL]), fun w' F' x hx hu => h.upd (i := 4) (uOs (uc 0) x) rfl hu hx⟩
  · exact ⟨Fo 4, Fo 6, h.get (i := 4) rfl, h.get (i := 6) rfl, h.ap 4 6 (by omega) (by simp [skL]) (by simp [skL]), fun w' F' x hx hu => h.upd (i := 4) (uOs (uc 0) x) rfl hu hx⟩
theorem SkMem.map (h : SkMem w0 w hc uc pb qb mb s t S ks) :
    MapIs w strKf intVf strOk mb S ∧ (∀ w' S', MapIs w' strKf intVf strOk mb S' → Keeps (fun k => k = mb) w w' → SkMem w0 w' hc uc pb qb mb s t S' ks) := by
  obtain ⟨Fo, h⟩ := h
  obtain ⟨hF, hM⟩ := h.get (i := 8) rfl
  refine ⟨hM, fun w' S' hm hk => ?_⟩
  refine h.upd (i := 8) (mOs mb S') (F' := fun k => k = mb) rfl ⟨by rw [hF]; exact hk, fun k e => .inl (by rw [hF]; exact e)⟩ ⟨rfl, hm⟩
theorem SkMem.pc (h : SkMem w0 w hc uc pb qb mb s t S ks) {j : Nat} (hj : j < 3) : w.cell? ⟨pb, j, none⟩ = some (.pointer (some ⟨hc j, 0, none⟩)) ∧ w.cell? ⟨qb, j, none⟩ = some (.pointer (some ⟨uc j, 0, none⟩)) := by
  obtain ⟨Fo, h⟩ := h
  obtain ⟨-, h1⟩ := h.get (i := 3) rfl
  obtain ⟨-, h2⟩ := h.get (i := 7) rfl
  unfold ptrs3 at h1 h2
  have e3 : j = 0 ∨ j = 1 ∨ j = 2 := by omega
  rcases e3 with rfl | rfl | rfl <;> constructor <;> simp [World.cell?, h1, h2]
/-- A block just made joins, and goes. -/
theorem SkMem.box (h : SkMem w0 w hc uc pb qb mb s t S []) (o : Obj) : SkMem w0 (w.alloc o) hc uc pb qb mb s t S [kOs w.heap.size o] := by
  obtain ⟨Fo, h⟩ := h
  exact h.new (kOs w.heap.size o) ((Below.refl _ w).alloc (Nat.le_refl _) o) (F' := fun k => k = w.heap.size) ⟨rfl, heap_alloc_new w o⟩ (fun k e => Nat.le_of_eq e.symm)
theorem SkMem.at {bx : Nat} {o : Obj} (h : SkMem w0 w hc uc pb qb mb s t S [kOs bx o]) : w.heap[bx]? = some o := by
  obtain ⟨Fo, h⟩ := h
  exact (h.get (i := 9) rfl).2
theorem SkMem.unbox (h : SkMem w0 w hc uc pb qb mb s t S ks) : SkMem w0 w hc uc pb qb mb s t S [] := by
  obtain ⟨Fo, h⟩ := h
  have hlen : (skL hc uc pb qb mb s t S ks).length = 9 + ks.length := by simp [skL]; omega
  refine ⟨Fo, h.hB, fun i o hi => ?_, fun i j hij hi hj => h.ap i j hij ?_ ?_, fun i hi => h.lo i ?_, h.bl⟩
  · have hi9 : i < 9 := (List.getElem?_eq_some_iff.1 hi).1
    refine h.ob i o ?_
    have e : skL hc uc pb qb mb s t S ks = skL hc uc pb qb mb s t S [] ++ ks := rfl
    rw [e, List.getElem?_append_left hi9]
    exact hi
  · rw [hlen]; have : i < 9 := hi; omega
  · rw [hlen]; have : j < 9 := hj; omega
  · rw [hlen]; have : i < 9 := hi; omega
end
/-! ### The calls -/
section
variable {w0 w w' : World} {hc uc : Nat → Nat} {pb qb mb : Nat} {s : Nat → HvS} {t : Nat → CtS} {S : CntrL} {ks : List Ob1}
theorem SkMem.callAdd (h : SkMem w0 w hc uc pb qb mb s t S ks) {j : Nat} (hj : j < 3) {k : ByteArray} {n : Int} (hok : hokB (s j) k n = true) :
    Calls Try.prog 24 #[.pointer (some ⟨hc j, 0, none⟩), .string k, .int .i64 n] w fun e w' => e = .returned (.bool true) ∧ SkMem w0 w' hc uc pb qb mb (updN s j (addH (s j) k n)) t S ks := by
  obtain ⟨F, hO, hnew⟩ := h.heavy hj
  have hk := (hokB_iff.1 hok).2.1
  refine (hadd_any (hc j) F (s j) k n w hO (by omega)).mono ?_
  rintro e w' ⟨rfl, F', h1, h2⟩
  exact ⟨by rw [hok], hnew w' F' _ h1 h2⟩
theorem SkMem.callName (h : SkMem w0 w hc uc pb qb mb s t S ks) {j : Nat} (hj : j < 3) {k : ByteArray} (hk : (k.size : Int) ≤ 24) :
    Calls Try.prog 25 #[.pointer (some ⟨uc j, 0, none⟩), .string k] w fun e w' => (∃ b, e = .returned (.bool b)) ∧ SkMem w0 w' hc uc pb qb mb s (updN t j (addS (t j) (hashD k))) S ks := by
  obtain ⟨F, hO, hnew⟩ := h.ctr hj
  refine (caddS_any (uc j) (t j) F k w hO (by omega)).mono ?_
  rintro e w' ⟨rfl, F', h1, h2⟩
  exact ⟨⟨_, rfl⟩, hnew w' F' _ h1 h2⟩
theorem SkMem.callMerge (h : SkMem w0 w hc uc pb qb mb s t S ks) {j : Nat} (hj : j < 3) (h0 : j ≠ 0) (hr : (s j).room = (s 0).room) (ha : (s 0).added + (s j).added ≤ 1048576) :
    Calls Try.prog 26 #[.pointer (some ⟨hc 0, 0, none⟩), .pointer (some ⟨hc j, 0, none⟩)] w fun e w' => e = .returned (.bool true) ∧ SkMem w0 w' hc uc pb qb mb (updN s 0 (mergeH (s 0) (s j))) t S ks := by
  obtain ⟨F, G, hO, hP, hap, hnew⟩ := h.heavies hj h0
  refine (hmerge_o hO hP hap hr ha).mono ?_
  rintro e w' ⟨rfl, F', h1, h2⟩
  exact ⟨rfl, hnew w' F' _ h1 h2⟩
theorem SkMem.callJoin (h : SkMem w0 w hc uc pb qb mb s t S ks) {j : Nat} (hj : j < 3) (h0 : j ≠ 0) (hr : (t j).k = (t 0).k) :
    Calls Try.prog 27 #[.pointer (some ⟨uc 0, 0, none⟩), .pointer (some ⟨uc j, 0, none⟩)] w fun e w' => e = .returned (.bool true) ∧ SkMem w0 w' hc uc pb qb mb s (updN t 0 (mergeS (t 0) (t j))) S ks := by
  obtain ⟨F, G, hO, hP, hap, hnew⟩ := h.ctrs hj h0
  refine (cmerge_any (uc 0) (uc j) (t 0) (t j) F G w hO hP hap hr).mono ?_
  rintro e w' ⟨rfl, F', h1, h2⟩
  exact ⟨rfl, hnew w' F' _ h1 h2⟩
theorem SkMem.callTotal (h : SkMem w0 w hc uc pb qb mb s t S ks) :
    Calls Try.prog 28 #[.pointer (some ⟨hc 0, 0, none⟩)] w fun e w' => e = .returned (.int .i64 (s 0).total) ∧ w = w' := by
  obtain ⟨F, hO, -⟩ := h.heavy (j := 0) (by omega)
  exact htotal_o hO
theorem SkMem.callSlack (h : SkMem w0 w hc uc pb qb mb s t S ks) :
    Calls Try.prog 29 #[.pointer (some ⟨hc 0, 0, none⟩)] w fun e w' => e = .returned (.int .i64 (s 0).slack) ∧ w = w' := by
  obtain ⟨F, hO, -⟩ := h.heavy (j := 0) (by omega)
  exact hslack_o hO
theorem SkMem.callLow (h : SkMem w0 w hc uc pb qb mb s t S ks) {k : ByteArray} (hk : strOk k) :
    Calls Try.prog 31 #[.pointer (some ⟨hc 0, 0, none⟩), .string k] w fun e w' => e = .returned (.int .i64 (lowV (s 0).S k)) ∧ w = w' := by
  obtain ⟨F, hO, -⟩ := h.heavy (j := 0) (by omega)
  exact hlow_o hO k hk
theorem SkMem.callHigh (h : SkMem w0 w hc uc pb qb mb s t S ks) {k : ByteArray} (hk : strOk k) :
    Calls Try.prog 32 #[.pointer (some ⟨hc 0, 0, none⟩), .string k] w fun e w' => e = .returned (.int .i64 (lowV (s 0).S k + (s 0).slack)) ∧ Below w.heap.size w w' := by
  obtain ⟨F, hO, -⟩ := h.heavy (j := 0) (by omega)
  exact hhigh_o hO k hk
theorem SkMem.callLeast (h : SkMem w0 w hc uc pb qb mb s t S ks) :
    Calls Try.prog 30 #[.pointer (some ⟨uc 0, 0, none⟩)] w fun e w' => e = .returned (.int .i64 (leastC (t 0))) ∧ w = w' := by
  obtain ⟨F, hO, -⟩ := h.ctr (j := 0) (by omega)
  exact cleast_any _ _ F w hO
def bxO (k : ByteArray) (a n : Int) : Obj := .cells #[.string k, .int .u16 a, .int .u16 n] 31
theorem SkMem.bc {bx : Nat} {k : ByteArray} {a n : Int} (h : SkMem w0 w hc uc pb qb mb s t S [kOs bx (bxO k a n)]) :
    w.cell? ⟨bx, 0, none⟩ = some (.string k) ∧ w.cell? ⟨bx, 2, none⟩ = some (.int .u16 n) := by
  have h1 := h.at
  unfold bxO at h1
  constructor <;> simp [World.cell?, h1]
theorem SkMem.look (h : SkMem w0 w hc uc pb qb mb s t S ks) {k : ByteArray} (hk : strOk k) : (Instr.lookup 57 (.map (some mb)) (.string k) false).run Try.prog w = .ok (.int .i64 (lowV S k)) w := look_low h.map.1 hk
theorem SkMem.put (h : SkMem w0 w hc uc pb qb mb s t S ks) {k : ByteArray} (hk : strOk k) (v : Int) :
    ∃ w', (Instr.mapUpdate 57 (.map (some mb)) (.string k) (.int .i64 v)).run Try.prog w = .ok () w' ∧ SkMem w0 w' hc uc pb qb mb s t (mput S k v) ks := by
  obtain ⟨hM, hnew⟩ := h.map
  obtain ⟨w', hrun, hM', hK, -⟩ := hM.put strKey Try.underlying57 (x := k) hk v
  exact ⟨w', hrun, hnew w' _ hM' hK⟩
theorem SkMem.mlen (h : SkMem w0 w hc uc pb qb mb s t S ks) (ty : TypeId) : (Builtin.len_ #[57] ty #[.map (some mb)]).run Try.prog w = .ok (.int .i64 (List.length S)) w := h.map.1.len (P := Try.prog) Try.underlying57 (ty := ty)
end
theorem SkMem.start {w w1 : World} {hc uc : Nat → Nat} {m kk : Int} {hb1 : Below w.heap.size w w1} {w2 w3 w4 w5 w6 w7 w8 : World} {H0 H1 H2 U0 U1 U2 : Nat → Prop}
    (o0 : HvO w2 (hc 0) H0 (newH m)) (f0 : ∀ k, H0 k → w1.heap.size ≤ k) (b2 : Below w1.heap.size w1 w2)
    (o1 : HvO w3 (hc 1) H1 (newH m)) (f1 : ∀ k, H1 k → w2.heap.size ≤ k) (b3 : Below w2.heap.size w2 w3)
    (o2 : HvO w4 (hc 2) H2 (newH m)) (f2 : ∀ k, H2 k → w3.heap.size ≤ k) (b4 : Below w3.heap.size w3 w4)
    (e5 : w5 = w4.alloc (ptrs3 hc 51))
    (o3 : CtO (uc 0) (newS kk) w6 U0) (f3 : ∀ k, U0 k → w5.heap.size ≤ k) (b6 : Below w5.heap.size w5 w6)
    (o4 : CtO (uc 1) (newS kk) w7 U1) (f4 : ∀ k, U1 k → w6.heap.size ≤ k) (b7 : Below w6.heap.size w6 w7)
    (o5 : CtO (uc 2) (newS kk) w8 U2) (f5 : ∀ k, U2 k → w7.heap.size ≤ k) (b8 : Below w7.heap.size w7 w8) :
    SkMem w ((w8.alloc (ptrs3 uc 54)).alloc (.map #[] 0)) hc uc w4.heap.size w8.heap.size (w8.alloc (ptrs3 uc 54)).heap.size (fun _ => newH m) (fun _ => newS kk) [] [] := by
  have h0 := Objs.nil (B := w.heap.size) (Nat.le_refl _) hb1
  obtain ⟨_, h1⟩ := h0.new (hOs (hc 0) (newH m)) b2 o0 f0
  obtain ⟨_, h2⟩ := h1.new (hOs (hc 1) (newH m)) b3 o1 f1
  obtain ⟨_, h3⟩ := h2.new (hOs (hc 2) (newH m)) b4 o2 f2
  obtain ⟨_, h4⟩ := h3.new (kOs w4.heap.size (ptrs3 hc 51)) (w' := w5) (by rw [e5]; exact (Below.refl _ w4).alloc (Nat.le_refl _) _) (F' := fun k => k = w4.heap.size) ⟨rfl, by rw [e5]; exact heap_alloc_new w4 _⟩ (fun k e => Nat.le_of_eq e.symm)
  obtain ⟨_, h5⟩ := h4.new (uOs (uc 0) (newS kk)) b6 o3 f3
  obtain ⟨_, h6⟩ := h5.new (uOs (uc 1) (newS kk)) b7 o4 f4
  obtain ⟨_, h7⟩ := h6.new (uOs (uc 2) (newS kk)) b8 o5 f5
  obtain ⟨_, h8⟩ := h7.new (kOs w8.heap.size (ptrs3 uc 54)) ((Below.refl _ w8).alloc (Nat.le_refl _) _) (F' := fun k => k = w8.heap.size) ⟨rfl, heap_alloc_new w8 _⟩ (fun k e => Nat.le_of_eq e.symm)
  obtain ⟨_, h9⟩ := h8.new (mOs _ []) ((Below.refl _ (w8.alloc (ptrs3 uc 54))).alloc (Nat.le_refl _) _) (F' := fun k => k = (w8.alloc (ptrs3 uc 54)).heap.size) ⟨rfl, MapIs.made _ _ _ _⟩ (fun k e => Nat.le_of_eq e.symm)
  exact ⟨_, h9⟩
end Go.Proofs.Ytmigjlceogofaaa

namespace Go.Proofs.Ytmigjlceogofaaa
open Go.ChangeShapes Go.WideShapes Go.ChangeAt Go.RowKit Go.Shelf Go.Lib Go.Sort Go.Proofs
set_option linter.unusedVariables false
set_option linter.unusedSimpArgs false

def c3n (a b c : Nat) (i : Nat) : Nat := if i = 0 then a else if i = 1 then b else c
theorem mod3n (k : Nat) : ∃ j : Nat, j < 3 ∧ (k : Int).tmod 3 = (j : Int) := ⟨k % 3, Nat.mod_lt _ (by omega), by rw [Int.tmod_eq_emod_of_nonneg (by omega)]; omega⟩
/-- The first loop's relation. -/
def Sk1 (w0 : World) (room kk : Int) (hc uc : Nat → Nat) (pb qb mb : Nat) (l : List AddD) (rest : Nat) (tt ii : Value) (wr : World) : Prop :=
  ∃ (k : Nat) (x : Int) (s : Nat → HvS) (t : Nat → CtS) (S : CntrL), tt = .int .i64 x ∧ ii = .int .i64 k ∧ Hid (k + rest = l.length) ∧ Hid (x = sumN (l.take k)) ∧ (0 ≤ x ∧ x ≤ (k : Int) * 65535) ∧ Hid (SkMem w0 wr hc uc pb qb mb s t S []) ∧ Hid (SkInv room kk (l.take k) s t S)
/-- The second one's. -/
def Sk2 (w0 : World) (hc uc : Nat → Nat) (pb qb mb : Nat) (s : Nat → HvS) (t : Nat → CtS) (S : CntrL) (rest : Nat) (ii : Value) (wr : World) : Prop :=
  ∃ (j n : Nat), ii = .int .i64 j ∧ Hid (j = n + 1) ∧ Hid (n + rest = 2) ∧ Hid (SkMem w0 wr hc uc pb qb mb (mgS s n) (mgT t n) S [])
/-- The third one's. -/
def Sk3 (mb r1 : Nat) (W8 : World) (S : CntrL) (rest : Nat) (wr : World) : Prop :=
  ∃ left, Hid (rest = List.length left) ∧ Hid (∀ p ∈ left, p ∈ S) ∧ Hid (RangeAt wr strKf intVf r1 (some mb) left) ∧ Hid (Below r1 W8 wr)

set_option maxRecDepth 20000 in
set_option maxHeartbeats 16000000 in
theorem topSketch_walk (A : Option Addr) (c : Nat) (l : List AddD) (m q : Int) (w : World) (h : TAddsAt w w.heap.size A l) (hl : (l.length : Int) ≤ 9223372036854775807) (hm : 0 ≤ m ∧ m ≤ 255) (hq : 0 ≤ q ∧ q ≤ 255) :
    Calls Try.prog 5 #[.slice A l.length c, .int .u8 m, .int .u8 q] w fun e w' => e = .returned (.bool true) ∧ Below w.heap.size w w' := by
  by_cases g1 : fewB l = true
  · obtain ⟨hl60, hk24⟩ := fewB_yes g1
    have HK24 := Lib.hid hk24
    clear hk24
    obtain ⟨m0, m1⟩ := hm
    obtain ⟨q0, q1⟩ := hq
    obtain ⟨r, hr⟩ : ∃ r, m % 9 = r := ⟨_, rfl⟩
    obtain ⟨v, hv⟩ : ∃ v, q % 9 = v := ⟨_, rfl⟩
    have r0 : 0 ≤ r ∧ r ≤ 8 := by omega
    have v0 : 0 ≤ v ∧ v ≤ 8 := by omega
    have t1 : m.tmod 9 = r := by rw [Int.tmod_eq_emod_of_nonneg m0]; exact hr
    have t2 : q.tmod 9 = v := by rw [Int.tmod_eq_emod_of_nonneg q0]; exact hv
    clear hr hv
    obtain ⟨r0, r1⟩ := r0
    obtain ⟨v0, v1⟩ := v0
    have hmm := @run_makeMap Try.prog
    go_enter Try.func5, Try.ntmps5
    go_wp2_with fail
    refine (counts_any _).mono ?_
    rintro e w1 ⟨rfl, hb1⟩
    go_wp2_with fail
    refine (few_any A c l _ ⟨(h.1.below hb1).more hb1.size, h.2⟩ hl).mono ?_
    rintro e w2 ⟨rfl, hb2⟩
    rw [g1]
    have hB2 : Below w.heap.size w w2 := hb1.trans (hb2.mono hb1.size)
    clear hb1 hb2
    go_wp2_with fail
    refine (hnew_o (1 + r) _).mono ?_
    rintro e w3 ⟨c0, F0, rfl, ho0, hF0, hb3⟩
    go_wp2_with fail
    refine (hnew_o (1 + r) _).mono ?_
    rintro e w4 ⟨c1, F1, rfl, ho1, hF1, hb4⟩
    go_wp2_with fail
    refine (hnew_o (1 + r) _).mono ?_
    rintro e w5 ⟨c2, F2, rfl, ho2, hF2, hb5⟩
    go_wp2_with fail
    obtain ⟨wA, hwA⟩ : ∃ wA, wA = w5.alloc (ptrs3 (c3n c0 c1 c2) 51) := ⟨_, rfl⟩
    have hwA' : w5.alloc (.cells #[.pointer (some ⟨c0, 0, none⟩), .pointer (some ⟨c1, 0, none⟩), .pointer (some ⟨c2, 0, none⟩)] 51) = wA := hwA.symm
    rw [hwA']
    refine (cnew_any (1 + v) _).mono ?_
    rintro e w6 ⟨u0, U0, rfl, ou0, hU0, hb6⟩
    go_wp2_with fail
    refine (cnew_any (1 + v) _).mono ?_
    rintro e w7 ⟨u1, U1, rfl, ou1, hU1, hb7⟩
    go_wp2_with fail
    refine (cnew_any (1 + v) _).mono ?_
    rintro e w8 ⟨u2, U2, rfl, ou2, hU2, hb8⟩
    have hst := SkMem.start (hc := c3n c0 c1 c2) (uc := c3n u0 u1 u2) (m := 1 + r) (kk := 1 + v) (hb1 := hB2) ho0 hF0 hb3 ho1 hF1 hb4 ho2 hF2 hb5 hwA ou0 hU0 hb6 ou1 hU1 hb7 ou2 hU2 hb8
    clear ho0 hF0 hb3 ho1 hF1 hb4 ho2 hF2 hb5 ou0 hU0 hb6 ou1 hU1 hb7 ou2 hU2 hb8 hB2 hwA hwA'
    have hsz : (w8.alloc (ptrs3 (c3n u0 u1 u2) 54)).heap.size = w8.heap.size + 1 := by simp
    rw [hsz] at hst
    clear hsz
    obtain ⟨wB, hwB⟩ : ∃ wB, wB = (w8.alloc (.cells #[.pointer (some ⟨u0, 0, none⟩), .pointer (some ⟨u1, 0, none⟩), .pointer (some ⟨u2, 0, none⟩)] 54)).alloc (.map #[] 0) := ⟨_, rfl⟩
    have hst' : SkMem w wB (c3n c0 c1 c2) (c3n u0 u1 u2) w5.heap.size w8.heap.size (w8.heap.size + 1) (fun _ => newH (1 + r)) (fun _ => newS (1 + v)) [] [] := by rw [hwB]; exact hst
    have HST := Lib.hid hst'
    clear hst hst'
    go_wp2_with fail
    rw [← hwB]
    clear hwB hmm
    generalize w5.heap.size = pb at *
    generalize w8.heap.size = qb at *
    generalize qb + 1 = mb at *
    generalize c3n c0 c1 c2 = hc at *
    generalize c3n u0 u1 u2 = uc at *
    go_loopg [10, 59] l.length (Sk1 w (1 + r) (1 + v) hc uc pb qb mb l)
    case atStart => exact ⟨0, 0, _, _, _, rfl, rfl, Lib.hid (by simp), Lib.hid rfl, by omega, HST, Lib.hid (SkInv.start _ _ (by omega) (by omega))⟩
    case round =>
      clear HST
      obtain ⟨k, x, s, t, S, rfl, rfl, HK, HX, ⟨x0, x1⟩, HM, HI⟩ := hrel
      have hb := HM.out.bl
      have hz := hb.size
      have hkl' : (k : Int) ≤ (l.length : Int) := by have := HK.out; omega
      by_cases hk : (k : Int) < (l.length : Int)
      · have hkl : k < l.length := by omega
        obtain ⟨b, o, rfl, hbl, d0, d1, d2⟩ := (h.below hb).one hkl
        have hx : l.take (k + 1) = l.take k ++ [l[k]] := by simp
        have hok := h.2 _ (List.getElem_mem hkl)
        have h24 := HK24.out _ (List.getElem_mem hkl)
        have HT := Lib.hid hx
        clear hx
        generalize l[k] = y at *
        obtain ⟨yk, ya, yn⟩ := y
        obtain ⟨k1, ⟨a0, a1⟩, n0, n1⟩ := hok
        simp only at *
        by_cases he : yk = ⟨#[]⟩
        · have hee : yk.toList = [] := by rw [he]; simp
          have hxs : yk.size = 0 := by rw [he]; rfl
          clear he
          go_wp2_with fail
          have d0 : (wr.alloc (.cells #[.string yk, .int .u16 ya, .int .u16 yn] 31)).drew.cell? ⟨wr.heap.size, 0, none⟩ = some (.string yk) := by simp
          go_quiet (fail)
          go_wp2
          go_ret
          exact ⟨rfl, below_drewN (hb.alloc hz _) nq⟩
        · have hee : ¬ yk.toList = [] := by
            intro h0
            have : (yk.toList == (⟨#[]⟩ : ByteArray).toList) = false := by rw [str_beq]; simp [he]
            rw [h0] at this
            simp at this
          have hee2 : (yk.toList == []) = false := by simpa using hee
          have hee3 : (yk.toList == (⟨#[]⟩ : ByteArray).toList) = false := by rw [str_beq]; simp [he]
          have hwn : IntKind.i64.wrap yn = yn := IntWalk.i64_in _ (by omega)
          have hxs : 1 ≤ (yk.size : Int) := by
            rcases Nat.eq_zero_or_pos yk.size with h0 | h0
            · exact absurd (ByteArray.size_eq_zero_iff.1 h0) he
            · omega
          have hks : strOk yk := by show yk.size ≤ maxLen; unfold maxLen; omega
          obtain ⟨j, hj, hjm⟩ := mod3n k
          have hj3 : (j : Int) < 3 := by omega
          have hstep := HI.out.step ⟨yk, ya, yn⟩ (mayB_iff.2 ⟨hxs, h24, n0, by show yn ≤ _; omega⟩) (by rw [List.length_take]; omega) hj
          rw [← HT.out] at hstep
          have HS := Lib.hid hstep.1
          have HOK := Lib.hid hstep.2
          have hlv := HI.out.val yk
          have hlb := truthV_bd ((l.take k).map toC) yk
          rw [← hlv, List.length_map, List.length_take] at hlb
          have hlb0 := hlb.1
          have hlb1 : lowV S yk ≤ 62914560 := by have := hlb.2; omega
          have hwv : IntKind.i64.wrap (lowV S yk + yn) = lowV S yk + yn := IntWalk.i64_in _ (by omega)
          have hwx : IntKind.i64.wrap (x + yn) = x + yn := IntWalk.i64_in _ (by omega)
          clear hstep he hlv hlb
          go_wp2_with fail
          have HM1 : Hid (SkMem w (wr.alloc (.cells #[.string yk, .int .u16 ya, .int .u16 yn] 31)).drew hc uc pb qb mb s t S [kOs wr.heap.size (bxO yk ya yn)]) := Lib.hid ((HM.out.box (bxO yk ya yn)).below ((Below.refl _ _).drew))
          obtain ⟨bx, hbx⟩ : ∃ bx, bx = wr.heap.size := ⟨_, rfl⟩
          rw [← hbx] at HM1 ⊢
          obtain ⟨wa, hwa⟩ : ∃ wa, wa = wr.alloc (.cells #[.string yk, .int .u16 ya, .int .u16 yn] 31) := ⟨_, rfl⟩
          rw [← hwa] at HM1 ⊢
          clear hwa hbx d0 d1 d2 hb hz HM hbl
          have e0 := HM1.out.bc.1
          have e2 := HM1.out.bc.2
          have e3 := (HM1.out.pc hj).1
          refine heldStart 17 (S := fun W => W.cell? ⟨bx, 0, none⟩ = some (.string yk) ∧ W.cell? ⟨bx, 2, none⟩ = some (.int .u16 yn) ∧ W.cell? ⟨pb, j, none⟩ = some (.pointer (some ⟨hc j, 0, none⟩))) (by kernel_rfl) ?_ (fun hHeld => ?_)
          · first | exact ⟨e0, e2, e3⟩ | exact ⟨HM6.out.bc.1, HM6.out.bc.2, (HM6.out.pc hj).1⟩
          refine heldTake 0 (v := ?_) (by simp only [List.getElem?_toArray, List.getElem?_cons_succ, List.getElem?_cons_zero]; rfl) (by kernel_rfl) (by intro _ _ _ h; exact h) (by rfl) (by assumption) ?_ ?_
          rotate_left
          · intro W hSw; (try dsimp only at hSw); go_simp; try with_reducible rfl
          simp only [Act.put, List.setIfInBounds_toArray, List.set_cons_zero, List.set_cons_succ]
          refine heldTake 1 (v := ?_) (by simp only [List.getElem?_toArray, List.getElem?_cons_succ, List.getElem?_cons_zero]; rfl) (by kernel_rfl) (by intro _ _ _ h; exact h) (by rfl) (by assumption) ?_ ?_
          rotate_left
          · intro W hSw; (try dsimp only at hSw); go_simp; try with_reducible rfl
          simp only [Act.put, List.setIfInBounds_toArray, List.set_cons_zero, List.set_cons_succ]
          refine heldTake 2 (v := ?_) (by simp only [List.getElem?_toArray, List.getElem?_cons_succ, List.getElem?_cons_zero]; rfl) (by kernel_rfl) (by intro _ _ _ h; exact h) (by rfl) (by assumption) ?_ ?_
          rotate_left
          · intro W hSw; (try dsimp only at hSw); go_simp; try with_reducible rfl
          simp only [Act.put, List.setIfInBounds_toArray, List.set_cons_zero, List.set_cons_succ]
          refine heldTake 3 (v := ?_) (by simp only [List.getElem?_toArray, List.getElem?_cons_succ, List.getElem?_cons_zero]; rfl) (by kernel_rfl) (by intro _ _ _ h; exact h) (by rfl) (by assumption) ?_ ?_
          rotate_left
          · intro W hSw; (try dsimp only at hSw); go_simp; try with_reducible rfl
          simp only [Act.put, List.setIfInBounds_toArray, List.set_cons_zero, List.set_cons_succ]
          refine heldTake 4 (v := ?_) (by simp only [List.getElem?_toArray, List.getElem?_cons_succ, List.getElem?_cons_zero]; rfl) (by kernel_rfl) (by intro _ _ _ h; exact h) (by rfl) (by assumption) ?_ ?_
          rotate_left
          · intro W hSw; (try dsimp only at hSw); go_simp; try with_reducible rfl
          simp only [Act.put, List.setIfInBounds_toArray, List.set_cons_zero, List.set_cons_succ]
          refine heldTake 5 (v := ?_) (by simp only [List.getElem?_toArray, List.getElem?_cons_succ, List.getElem?_cons_zero]; rfl) (by kernel_rfl) (by intro _ _ _ h; exact h) (by rfl) (by assumption) ?_ ?_
          rotate_left
          · intro W hSw; (try dsimp only at hSw); go_simp; try with_reducible rfl
          simp only [Act.put, List.setIfInBounds_toArray, List.set_cons_zero, List.set_cons_succ]
          refine heldTake 6 (v := ?_) (by simp only [List.getElem?_toArray, List.getElem?_cons_succ, List.getElem?_cons_zero]; rfl) (by kernel_rfl) (by intro _ _ _ h; exact h) (by rfl) (by assumption) ?_ ?_
          rotate_left
          · intro W hSw; (try dsimp only at hSw); go_simp; try with_reducible rfl
          simp only [Act.put, List.setIfInBounds_toArray, List.set_cons_zero, List.set_cons_succ]
          refine heldTake 7 (v := ?_) (by simp only [List.getElem?_toArray, List.getElem?_cons_succ, List.getElem?_cons_zero]; rfl) (by kernel_rfl) (by intro _ _ _ h; exact h) (by rfl) (by assumption) ?_ ?_
          rotate_left
          · intro W hSw; (try dsimp only at hSw); go_simp; try with_reducible rfl
          simp only [Act.put, List.setIfInBounds_toArray, List.set_cons_zero, List.set_cons_succ]
          refine heldTake 8 (v := ?_) (by simp only [List.getElem?_toArray, List.getElem?_cons_succ, List.getElem?_cons_zero]; rfl) (by kernel_rfl) (by intro _ _ _ h; exact h) (by rfl) (by assumption) ?_ ?_
          rotate_left
          · intro W hSw; (try dsimp only at hSw); go_simp; try with_reducible rfl
          simp only [Act.put, List.setIfInBounds_toArray, List.set_cons_zero, List.set_cons_succ]
          refine heldTake 9 (v := ?_) (by simp only [List.getElem?_toArray, List.getElem?_cons_succ, List.getElem?_cons_zero]; rfl) (by kernel_rfl) (by intro _ _ _ h; exact h) (by rfl) (by assumption) ?_ ?_
          rotate_left
          · intro W hSw; (try dsimp only at hSw); go_simp; try with_reducible rfl
          simp only [Act.put, List.setIfInBounds_toArray, List.set_cons_zero, List.set_cons_succ]
          refine heldTake 10 (v := ?_) (by simp only [List.getElem?_toArray, List.getElem?_cons_succ, List.getElem?_cons_zero]; rfl) (by kernel_rfl) (by intro _ _ _ h; exact h) (by rfl) (by assumption) ?_ ?_
          rotate_left
          · intro W hSw; (try dsimp only at hSw); go_simp; try with_reducible rfl
          simp only [Act.put, List.setIfInBounds_toArray, List.set_cons_zero, List.set_cons_succ]
          refine heldTake 11 (v := ?_) (by simp only [List.getElem?_toArray, List.getElem?_cons_succ, List.getElem?_cons_zero]; rfl) (by kernel_rfl) (by intro _ _ _ h; exact h) (by rfl) (by assumption) ?_ ?_
          rotate_left
          · intro W hSw; (try dsimp only at hSw); go_simp; try with_reducible rfl
          simp only [Act.put, List.setIfInBounds_toArray, List.set_cons_zero, List.set_cons_succ]
          refine heldTake 12 (v := ?_) (by simp only [List.getElem?_toArray, List.getElem?_cons_succ, List.getElem?_cons_zero]; rfl) (by kernel_rfl) (by intro _ _ _ h; exact h) (by rfl) (by assumption) ?_ ?_
          rotate_left
          · intro W hSw; (try dsimp only at hSw); go_simp; try with_reducible rfl
          simp only [Act.put, List.setIfInBounds_toArray, List.set_cons_zero, List.set_cons_succ]
          refine heldTake 13 (v := ?_) (by simp only [List.getElem?_toArray, List.getElem?_cons_succ, List.getElem?_cons_zero]; rfl) (by kernel_rfl) (by intro _ _ _ h; exact h) (by rfl) (by assumption) ?_ ?_
          rotate_left
          · intro W hSw; (try dsimp only at hSw); go_simp; try with_reducible rfl
          simp only [Act.put, List.setIfInBounds_toArray, List.set_cons_zero, List.set_cons_succ]
          refine heldCall 14 (by simp only [List.getElem?_toArray, List.getElem?_cons_succ, List.getElem?_cons_zero]; rfl) (by kernel_rfl) (fun K hK => ?_)
          go_simp
          refine (HM1.out.callAdd hj HOK.out).mono ?_
          rintro e w6 ⟨rfl, hM6⟩
          have HM6 := Lib.hid hM6
          clear hM6
          go_wp2_with fail
          refine hK.out _ _ ?_ (fun hHeld => ?_)
          · first | exact ⟨e0, e2, e3⟩ | exact ⟨HM6.out.bc.1, HM6.out.bc.2, (HM6.out.pc hj).1⟩
          clear hK K
          (try simp only [Act.put, List.setIfInBounds_toArray, List.set_cons_zero, List.set_cons_succ])
          refine heldTake 15 (v := ?_) (by simp only [List.getElem?_toArray, List.getElem?_cons_succ, List.getElem?_cons_zero]; rfl) (by kernel_rfl) (by intro _ _ _ h; exact h) (by rfl) (by assumption) ?_ ?_
          rotate_left
          · intro W hSw; (try dsimp only at hSw); go_simp; try with_reducible rfl
          simp only [Act.put, List.setIfInBounds_toArray, List.set_cons_zero, List.set_cons_succ]
          refine heldTake 16 (v := ?_) (by simp only [List.getElem?_toArray, List.getElem?_cons_succ, List.getElem?_cons_zero]; rfl) (by kernel_rfl) (by intro _ _ _ h; exact h) (by rfl) (by assumption) ?_ ?_
          rotate_left
          · intro W hSw; (try dsimp only at hSw); go_simp; try with_reducible rfl
          simp only [Act.put, List.setIfInBounds_toArray, List.set_cons_zero, List.set_cons_succ]
          refine heldDone (by kernel_rfl) ?_ _
          clear e0 e2 e3 HM1 HOK
          go_wp2_with fail
          have HM7 : Hid (SkMem w w6.drew hc uc pb qb mb (updN s j (addH (s j) yk yn)) t S [kOs bx (bxO yk ya yn)]) := Lib.hid (HM6.out.below ((Below.refl _ _).drew))
          clear HM6
          have e0 := HM7.out.bc.1
          have e3 := (HM7.out.pc hj).2
          refine heldStart 8 (S := fun W => W.cell? ⟨bx, 0, none⟩ = some (.string yk) ∧ W.cell? ⟨qb, j, none⟩ = some (.pointer (some ⟨uc j, 0, none⟩))) (by kernel_rfl) ?_ (fun hHeld => ?_)
          · first | exact ⟨e0, e3⟩ | exact ⟨HM8.out.bc.1, (HM8.out.pc hj).2⟩
          refine heldTake 0 (v := ?_) (by simp only [List.getElem?_toArray, List.getElem?_cons_succ, List.getElem?_cons_zero]; rfl) (by kernel_rfl) (by intro _ _ _ h; exact h) (by rfl) (by assumption) ?_ ?_
          rotate_left
          · intro W hSw; (try dsimp only at hSw); go_simp; try with_reducible rfl
          simp only [Act.put, List.setIfInBounds_toArray, List.set_cons_zero, List.set_cons_succ]
          refine heldTake 1 (v := ?_) (by simp only [List.getElem?_toArray, List.getElem?_cons_succ, List.getElem?_cons_zero]; rfl) (by kernel_rfl) (by intro _ _ _ h; exact h) (by rfl) (by assumption) ?_ ?_
          rotate_left
          · intro W hSw; (try dsimp only at hSw); go_simp; try with_reducible rfl
          simp only [Act.put, List.setIfInBounds_toArray, List.set_cons_zero, List.set_cons_succ]
          refine heldTake 2 (v := ?_) (by simp only [List.getElem?_toArray, List.getElem?_cons_succ, List.getElem?_cons_zero]; rfl) (by kernel_rfl) (by intro _ _ _ h; exact h) (by rfl) (by assumption) ?_ ?_
          rotate_left
          · intro W hSw; (try dsimp only at hSw); go_simp; try with_reducible rfl
          simp only [Act.put, List.setIfInBounds_toArray, List.set_cons_zero, List.set_cons_succ]
          refine heldTake 3 (v := ?_) (by simp only [List.getElem?_toArray, List.getElem?_cons_succ, List.getElem?_cons_zero]; rfl) (by kernel_rfl) (by intro _ _ _ h; exact h) (by rfl) (by assumption) ?_ ?_
          rotate_left
          · intro W hSw; (try dsimp only at hSw); go_simp; try with_reducible rfl
          simp only [Act.put, List.setIfInBounds_toArray, List.set_cons_zero, List.set_cons_succ]
          refine heldTake 4 (v := ?_) (by simp only [List.getElem?_toArray, List.getElem?_cons_succ, List.getElem?_cons_zero]; rfl) (by kernel_rfl) (by intro _ _ _ h; exact h) (by rfl) (by assumption) ?_ ?_
          rotate_left
          · intro W hSw; (try dsimp only at hSw); go_simp; try with_reducible rfl
          simp only [Act.put, List.setIfInBounds_toArray, List.set_cons_zero, List.set_cons_succ]
          refine heldTake 5 (v := ?_) (by simp only [List.getElem?_toArray, List.getElem?_cons_succ, List.getElem?_cons_zero]; rfl) (by kernel_rfl) (by intro _ _ _ h; exact h) (by rfl) (by assumption) ?_ ?_
          rotate_left
          · intro W hSw; (try dsimp only at hSw); go_simp; try with_reducible rfl
          simp only [Act.put, List.setIfInBounds_toArray, List.set_cons_zero, List.set_cons_succ]
          refine heldTake 6 (v := ?_) (by simp only [List.getElem?_toArray, List.getElem?_cons_succ, List.getElem?_cons_zero]; rfl) (by kernel_rfl) (by intro _ _ _ h; exact h) (by rfl) (by assumption) ?_ ?_
          rotate_left
          · intro W hSw; (try dsimp only at hSw); go_simp; try with_reducible rfl
          simp only [Act.put, List.setIfInBounds_toArray, List.set_cons_zero, List.set_cons_succ]
          refine heldCall 7 (by simp only [List.getElem?_toArray, List.getElem?_cons_succ, List.getElem?_cons_zero]; rfl) (by kernel_rfl) (fun K hK => ?_)
          go_simp
          refine (HM7.out.callName hj h24).mono ?_
          rintro e w8 ⟨⟨bb, rfl⟩, hM8⟩
          have HM8 := Lib.hid hM8
          clear hM8
          go_wp2_with fail
          refine hK.out _ _ ?_ (fun hHeld => ?_)
          · first | exact ⟨e0, e3⟩ | exact ⟨HM8.out.bc.1, (HM8.out.pc hj).2⟩
          clear hK K
          (try simp only [Act.put, List.setIfInBounds_toArray, List.set_cons_zero, List.set_cons_succ])
          refine heldDone (by kernel_rfl) ?_ _
          clear e0 e3 HM7
          have e0 := HM8.out.bc.1
          have e2 := HM8.out.bc.2
          have hlk := HM8.out.look hks
          obtain ⟨w9, hrun, hM9⟩ := HM8.out.put hks (lowV S yk + yn)
          have f2 := hM9.bc.2
          have HM9 := Lib.hid hM9.unbox
          clear hM9 HM8
          go_wp2
          go_roundg (gk - 1)
          case measure => have := HK.out; omega
          case rel => exact ⟨k + 1, x + yn, _, _, _, rfl, by go_num, Lib.hid (by have := HK.out; omega), Lib.hid (by rw [HT.out, sumN_snoc, ← HX.out]), by constructor <;> omega, HM9, HS⟩
      · have hall : l.take k = l := List.take_of_length_le (by omega)
        have hI := HI.out
        have hX := HX.out
        rw [hall] at hI hX
        have HIa := Lib.hid hI
        have hEnd := hI.fin HM.out.map.1.nodup hl60 (by omega)
        have HE := Lib.hid hEnd
        have HNX := Lib.hid (fun n hn => hI.mgNext hl60 n hn)
        have hx60 : x ≤ 3932100 := by omega
        have HX2 := Lib.hid hX
        clear hI hX hEnd hall HX HI hb hz HK x1
        generalize wr = wC at *
        go_wp2_with fail
        go_loopg [13] 2 (Sk2 w hc uc pb qb mb s t S)
        case atStart => exact ⟨1, 0, rfl, Lib.hid rfl, Lib.hid rfl, HM⟩
        case round =>
          clear HM
          obtain ⟨j, n, rfl, HJ, HN, HM⟩ := hrel
          by_cases hj : (j : Int) < 3
          · have hjn : j < 3 := by omega
            have hj0 : j ≠ 0 := by have := HJ.out; omega
            have hj1 : 1 ≤ (j : Int) := by omega
            obtain ⟨p1, p2, p3⟩ := HNX.out n (by have := HJ.out; omega)
            rw [← HJ.out] at p1 p2 p3
            have P1 := Lib.hid p1
            have P2 := Lib.hid p2
            have P3 := Lib.hid p3
            clear p1 p2 p3
            go_wp2_with fail
            have HM1 : Hid (SkMem w wr.drew hc uc pb qb mb (mgS s n) (mgT t n) S []) := Lib.hid (HM.out.below ((Below.refl _ _).drew))
            clear HM
            have e0 := (HM1.out.pc (j := 0) (by omega)).1
            have e1 := (HM1.out.pc hjn).1
            have e2 := (HM1.out.pc (j := 0) (by omega)).2
            have e3 := (HM1.out.pc hjn).2
            refine heldStart 20 (S := fun W => W.cell? ⟨pb, 0, none⟩ = some (.pointer (some ⟨hc 0, 0, none⟩)) ∧ W.cell? ⟨pb, j, none⟩ = some (.pointer (some ⟨hc j, 0, none⟩)) ∧ W.cell? ⟨qb, 0, none⟩ = some (.pointer (some ⟨uc 0, 0, none⟩)) ∧ W.cell? ⟨qb, j, none⟩ = some (.pointer (some ⟨uc j, 0, none⟩))) (by kernel_rfl) ?_ (fun hHeld => ?_)
            · first | exact ⟨e0, e1, e2, e3⟩ | exact ⟨(HM6.out.pc (j := 0) (by omega)).1, (HM6.out.pc hjn).1, (HM6.out.pc (j := 0) (by omega)).2, (HM6.out.pc hjn).2⟩ | exact ⟨(HM7.out.pc (j := 0) (by omega)).1, (HM7.out.pc hjn).1, (HM7.out.pc (j := 0) (by omega)).2, (HM7.out.pc hjn).2⟩
            refine heldTake 0 (v := ?_) (by simp only [List.getElem?_toArray, List.getElem?_cons_succ, List.getElem?_cons_zero]; rfl) (by kernel_rfl) (by intro _ _ _ h; exact h) (by rfl) (by assumption) ?_ ?_
            rotate_left
            · intro W hSw; (try dsimp only at hSw); go_simp; try with_reducible rfl
            simp only [Act.put, List.setIfInBounds_toArray, List.set_cons_zero, List.set_cons_succ]
            refine heldTake 1 (v := ?_) (by simp only [List.getElem?_toArray, List.getElem?_cons_succ, List.getElem?_cons_zero]; rfl) (by kernel_rfl) (by intro _ _ _ h; exact h) (by rfl) (by assumption) ?_ ?_
            rotate_left
            · intro W hSw; (try dsimp only at hSw); go_simp; try with_reducible rfl
            simp only [Act.put, List.setIfInBounds_toArray, List.set_cons_zero, List.set_cons_succ]
            refine heldTake 2 (v := ?_) (by simp only [List.getElem?_toArray, List.getElem?_cons_succ, List.getElem?_cons_zero]; rfl) (by kernel_rfl) (by intro _ _ _ h; exact h) (by rfl) (by assumption) ?_ ?_
            rotate_left
            · intro W hSw; (try dsimp only at hSw); go_simp; try with_reducible rfl
            simp only [Act.put, List.setIfInBounds_toArray, List.set_cons_zero, List.set_cons_succ]
            refine heldTake 3 (v := ?_) (by simp only [List.getElem?_toArray, List.getElem?_cons_succ, List.getElem?_cons_zero]; rfl) (by kernel_rfl) (by intro _ _ _ h; exact h) (by rfl) (by assumption) ?_ ?_
            rotate_left
            · intro W hSw; (try dsimp only at hSw); go_simp; try with_reducible rfl
            simp only [Act.put, List.setIfInBounds_toArray, List.set_cons_zero, List.set_cons_succ]
            refine heldTake 4 (v := ?_) (by simp only [List.getElem?_toArray, List.getElem?_cons_succ, List.getElem?_cons_zero]; rfl) (by kernel_rfl) (by intro _ _ _ h; exact h) (by rfl) (by assumption) ?_ ?_
            rotate_left
            · intro W hSw; (try dsimp only at hSw); go_simp; try with_reducible rfl
            simp only [Act.put, List.setIfInBounds_toArray, List.set_cons_zero, List.set_cons_succ]
            refine heldTake 5 (v := ?_) (by simp only [List.getElem?_toArray, List.getElem?_cons_succ, List.getElem?_cons_zero]; rfl) (by kernel_rfl) (by intro _ _ _ h; exact h) (by rfl) (by assumption) ?_ ?_
            rotate_left
            · intro W hSw; (try dsimp only at hSw); go_simp; try with_reducible rfl
            simp only [Act.put, List.setIfInBounds_toArray, List.set_cons_zero, List.set_cons_succ]
            refine heldTake 6 (v := ?_) (by simp only [List.getElem?_toArray, List.getElem?_cons_succ, List.getElem?_cons_zero]; rfl) (by kernel_rfl) (by intro _ _ _ h; exact h) (by rfl) (by assumption) ?_ ?_
            rotate_left
            · intro W hSw; (try dsimp only at hSw); go_simp; try with_reducible rfl
            simp only [Act.put, List.setIfInBounds_toArray, List.set_cons_zero, List.set_cons_succ]
            refine heldCall 7 (by simp only [List.getElem?_toArray, List.getElem?_cons_succ, List.getElem?_cons_zero]; rfl) (by kernel_rfl) (fun K hK => ?_)
            go_simp
            refine (HM1.out.callMerge hjn hj0 P1.out P2.out).mono ?_
            rintro e w6 ⟨rfl, hM6⟩
            have HM6 := Lib.hid hM6
            clear hM6
            go_wp2_with fail
            refine hK.out _ _ ?_ (fun hHeld => ?_)
            · first | exact ⟨e0, e1, e2, e3⟩ | exact ⟨(HM6.out.pc (j := 0) (by omega)).1, (HM6.out.pc hjn).1, (HM6.out.pc (j := 0) (by omega)).2, (HM6.out.pc hjn).2⟩ | exact ⟨(HM7.out.pc (j := 0) (by omega)).1, (HM7.out.pc hjn).1, (HM7.out.pc (j := 0) (by omega)).2, (HM7.out.pc hjn).2⟩
            clear hK K
            (try simp only [Act.put, List.setIfInBounds_toArray, List.set_cons_zero, List.set_cons_succ])
            refine heldTake 8 (v := ?_) (by simp only [List.getElem?_toArray, List.getElem?_cons_succ, List.getElem?_cons_zero]; rfl) (by kernel_rfl) (by intro _ _ _ h; exact h) (by rfl) (by assumption) ?_ ?_
            rotate_left
            · intro W hSw; (try dsimp only at hSw); go_simp; try with_reducible rfl
            simp only [Act.put, List.setIfInBounds_toArray, List.set_cons_zero, List.set_cons_succ]
            refine heldTake 9 (v := ?_) (by simp only [List.getElem?_toArray, List.getElem?_cons_succ, List.getElem?_cons_zero]; rfl) (by kernel_rfl) (by intro _ _ _ h; exact h) (by rfl) (by assumption) ?_ ?_
            rotate_left
            · intro W hSw; (try dsimp only at hSw); go_simp; try with_reducible rfl
            simp only [Act.put, List.setIfInBounds_toArray, List.set_cons_zero, List.set_cons_succ]
            refine heldTake 10 (v := ?_) (by simp only [List.getElem?_toArray, List.getElem?_cons_succ, List.getElem?_cons_zero]; rfl) (by kernel_rfl) (by intro _ _ _ h; exact h) (by rfl) (by assumption) ?_ ?_
            rotate_left
            · intro W hSw; (try dsimp only at hSw); go_simp; try with_reducible rfl
            simp only [Act.put, List.setIfInBounds_toArray, List.set_cons_zero, List.set_cons_succ]
            refine heldTake 11 (v := ?_) (by simp only [List.getElem?_toArray, List.getElem?_cons_succ, List.getElem?_cons_zero]; rfl) (by kernel_rfl) (by intro _ _ _ h; exact h) (by rfl) (by assumption) ?_ ?_
            rotate_left
            · intro W hSw; (try dsimp only at hSw); go_simp; try with_reducible rfl
            simp only [Act.put, List.setIfInBounds_toArray, List.set_cons_zero, List.set_cons_succ]
            refine heldTake 12 (v := ?_) (by simp only [List.getElem?_toArray, List.getElem?_cons_succ, List.getElem?_cons_zero]; rfl) (by kernel_rfl) (by intro _ _ _ h; exact h) (by rfl) (by assumption) ?_ ?_
            rotate_left
            · intro W hSw; (try dsimp only at hSw); go_simp; try with_reducible rfl
            simp only [Act.put, List.setIfInBounds_toArray, List.set_cons_zero, List.set_cons_succ]
            refine heldTake 13 (v := ?_) (by simp only [List.getElem?_toArray, List.getElem?_cons_succ, List.getElem?_cons_zero]; rfl) (by kernel_rfl) (by intro _ _ _ h; exact h) (by rfl) (by assumption) ?_ ?_
            rotate_left
            · intro W hSw; (try dsimp only at hSw); go_simp; try with_reducible rfl
            simp only [Act.put, List.setIfInBounds_toArray, List.set_cons_zero, List.set_cons_succ]
            refine heldTake 14 (v := ?_) (by simp only [List.getElem?_toArray, List.getElem?_cons_succ, List.getElem?_cons_zero]; rfl) (by kernel_rfl) (by intro _ _ _ h; exact h) (by rfl) (by assumption) ?_ ?_
            rotate_left
            · intro W hSw; (try dsimp only at hSw); go_simp; try with_reducible rfl
            simp only [Act.put, List.setIfInBounds_toArray, List.set_cons_zero, List.set_cons_succ]
            refine heldTake 15 (v := ?_) (by simp only [List.getElem?_toArray, List.getElem?_cons_succ, List.getElem?_cons_zero]; rfl) (by kernel_rfl) (by intro _ _ _ h; exact h) (by rfl) (by assumption) ?_ ?_
            rotate_left
            · intro W hSw; (try dsimp only at hSw); go_simp; try with_reducible rfl
            simp only [Act.put, List.setIfInBounds_toArray, List.set_cons_zero, List.set_cons_succ]
            refine heldTake 16 (v := ?_) (by simp only [List.getElem?_toArray, List.getElem?_cons_succ, List.getElem?_cons_zero]; rfl) (by kernel_rfl) (by intro _ _ _ h; exact h) (by rfl) (by assumption) ?_ ?_
            rotate_left
            · intro W hSw; (try dsimp only at hSw); go_simp; try with_reducible rfl
            simp only [Act.put, List.setIfInBounds_toArray, List.set_cons_zero, List.set_cons_succ]
            refine heldCall 17 (by simp only [List.getElem?_toArray, List.getElem?_cons_succ, List.getElem?_cons_zero]; rfl) (by kernel_rfl) (fun K hK => ?_)
            go_simp
            refine (HM6.out.callJoin hjn hj0 P3.out).mono ?_
            rintro e w7 ⟨rfl, hM7⟩
            have HM7 := Lib.hid hM7
            clear hM7
            go_wp2_with fail
            refine hK.out _ _ ?_ (fun hHeld => ?_)
            · first | exact ⟨e0, e1, e2, e3⟩ | exact ⟨(HM6.out.pc (j := 0) (by omega)).1, (HM6.out.pc hjn).1, (HM6.out.pc (j := 0) (by omega)).2, (HM6.out.pc hjn).2⟩ | exact ⟨(HM7.out.pc (j := 0) (by omega)).1, (HM7.out.pc hjn).1, (HM7.out.pc (j := 0) (by omega)).2, (HM7.out.pc hjn).2⟩
            clear hK K
            (try simp only [Act.put, List.setIfInBounds_toArray, List.set_cons_zero, List.set_cons_succ])
            refine heldTake 18 (v := ?_) (by simp only [List.getElem?_toArray, List.getElem?_cons_succ, List.getElem?_cons_zero]; rfl) (by kernel_rfl) (by intro _ _ _ h; exact h) (by rfl) (by assumption) ?_ ?_
            rotate_left
            · intro W hSw; (try dsimp only at hSw); go_simp; try with_reducible rfl
            simp only [Act.put, List.setIfInBounds_toArray, List.set_cons_zero, List.set_cons_succ]
            refine heldTake 19 (v := ?_) (by simp only [List.getElem?_toArray, List.getElem?_cons_succ, List.getElem?_cons_zero]; rfl) (by kernel_rfl) (by intro _ _ _ h; exact h) (by rfl) (by assumption) ?_ ?_
            rotate_left
            · intro W hSw; (try dsimp only at hSw); go_simp; try with_reducible rfl
            simp only [Act.put, List.setIfInBounds_toArray, List.set_cons_zero, List.set_cons_succ]
            refine heldDone (by kernel_rfl) ?_ _
            have HM8 : Hid (SkMem w w7 hc uc pb qb mb (mgS s (n + 1)) (mgT t (n + 1)) S []) := by
              have hm := HM7.out
              rw [HJ.out] at hm
              exact Lib.hid hm
            clear HM1 HM6 HM7 e0 e1 e2 e3
            go_wp2
            go_roundg (gk - 1)
            case measure => have := HN.out; have := HJ.out; omega
            case rel => exact ⟨j + 1, n + 1, by go_num, Lib.hid (by have := HJ.out; omega), Lib.hid (by have := HN.out; have := HJ.out; omega), HM8⟩
          · have hn2 : n = 2 := by have := HJ.out; have := HN.out; omega
            subst hn2
            have eS := mgS_fin s
            have eT := mgT_fin t
            obtain ⟨z1, z2, z3, z4, z5, z6⟩ := HE.out
            rw [← eS] at z1 z2 z4 z5 z6
            rw [← eT] at z3
            rw [← HX2.out] at z1 z2
            clear eS eT HE HNX HIa HX2
            generalize mgS s 2 = sf at *
            generalize mgT t 2 = tf at *
            have hq2 : x.tdiv (2 + r) = x / (2 + r) := Int.tdiv_eq_ediv_of_nonneg x0
            have hdv : 0 ≤ x / (2 + r) ∧ x / (2 + r) ≤ x := ⟨Int.ediv_nonneg x0 (by omega), Int.ediv_le_self _ x0⟩
            rw [show 1 + r + 1 = 2 + r by omega] at z2
            obtain ⟨z60, z61⟩ := z6
            have Z4 := Lib.hid z4
            have Z5 := Lib.hid z5
            have Z1 := Lib.hid z1
            obtain ⟨sl, hsl⟩ : ∃ sl, (sf 0).slack = sl := ⟨_, rfl⟩
            obtain ⟨le, hle⟩ : ∃ le, leastC (tf 0) = le := ⟨_, rfl⟩
            rw [hsl] at z2 z60 z61
            rw [hle] at z3
            have HSL := Lib.hid hsl
            have HLE := Lib.hid hle
            have hne : (x != x) = false := by simp
            have hrz : ¬ (2 + r) = 0 := by omega
            have hw8 : IntKind.u8.wrap (2 + r) = 2 + r := by rw [IntKind.wrap_u8]; omega
            have hw64 : IntKind.i64.wrap (2 + r) = 2 + r := IntWalk.i64_in _ (by omega)
            have hwq : IntKind.i64.wrap (x / (2 + r)) = x / (2 + r) := IntWalk.i64_in _ (by omega)
            have hdg1 : decide (x / (2 + r) < sl) = false := by simp; omega
            have hdg2 : decide ((List.length S : Int) < le) = false := by simp; omega
            clear z1 z4 z5 hsl hle HN HJ
            go_wp2_with fail
            have HM1 : Hid (SkMem w wr.drew hc uc pb qb mb sf tf S []) := Lib.hid (HM.out.below ((Below.refl _ _).drew))
            clear HM
            have e0 := (HM1.out.pc (j := 0) (by omega)).1
            have e2 := (HM1.out.pc (j := 0) (by omega)).2
            have hll := HM1.out.mlen
            refine heldStart 28 (S := fun W => W.cell? ⟨pb, 0, none⟩ = some (.pointer (some ⟨hc 0, 0, none⟩)) ∧ W.cell? ⟨qb, 0, none⟩ = some (.pointer (some ⟨uc 0, 0, none⟩)) ∧ (∀ ty, (Builtin.len_ #[57] ty #[.map (some mb)]).run Try.prog W = .ok (.int .i64 (List.length S)) W)) (by kernel_rfl) ?_ (fun hHeld => ?_)
            · exact ⟨e0, e2, hll⟩
            refine heldTake 0 (v := ?_) (by simp only [List.getElem?_toArray, List.getElem?_cons_succ, List.getElem?_cons_zero]; rfl) (by kernel_rfl) (by intro _ _ _ h; exact h) (by rfl) (by assumption) ?_ ?_
            rotate_left
            · intro W hSw; (try dsimp only at hSw); go_simp; try with_reducible rfl
            simp only [Act.put, List.setIfInBounds_toArray, List.set_cons_zero, List.set_cons_succ]
            refine heldTake 1 (v := ?_) (by simp only [List.getElem?_toArray, List.getElem?_cons_succ, List.getElem?_cons_zero]; rfl) (by kernel_rfl) (by intro _ _ _ h; exact h) (by rfl) (by assumption) ?_ ?_
            rotate_left
            · intro W hSw; (try dsimp only at hSw); go_simp; try with_reducible rfl
            simp only [Act.put, List.setIfInBounds_toArray, List.set_cons_zero, List.set_cons_succ]
            refine heldTake 2 (v := ?_) (by simp only [List.getElem?_toArray, List.getElem?_cons_succ, List.getElem?_cons_zero]; rfl) (by kernel_rfl) (by intro _ _ _ h; exact h) (by rfl) (by assumption) ?_ ?_
            rotate_left
            · intro W hSw; (try dsimp only at hSw); go_simp; try with_reducible rfl
            simp only [Act.put, List.setIfInBounds_toArray, List.set_cons_zero, List.set_cons_succ]
            refine heldTake 4 (v := ?_) (by simp only [List.getElem?_toArray, List.getElem?_cons_succ, List.getElem?_cons_zero]; rfl) (by kernel_rfl) (by intro _ _ _ h; exact h) (by rfl) (by assumption) ?_ ?_
            rotate_left
            · intro W hSw; (try dsimp only at hSw); go_simp; try with_reducible rfl
            simp only [Act.put, List.setIfInBounds_toArray, List.set_cons_zero, List.set_cons_succ]
            refine heldCall 3 (by simp only [List.getElem?_toArray, List.getElem?_cons_succ, List.getElem?_cons_zero]; rfl) (by kernel_rfl) (fun K hK => ?_)
            go_simp
            refine (HM1.out.callTotal).mono ?_
            rw [Z1.out]
            rintro e w6 ⟨rfl, rfl⟩
            go_wp2_with fail
            refine hK.out _ _ ?_ (fun hHeld => ?_)
            · exact ⟨e0, e2, hll⟩
            clear hK K
            (try simp only [Act.put, List.setIfInBounds_toArray, List.set_cons_zero, List.set_cons_succ])
            refine heldTake 5 (v := ?_) (by simp only [List.getElem?_toArray, List.getElem?_cons_succ, List.getElem?_cons_zero]; rfl) (by kernel_rfl) (by intro _ _ _ h; exact h) (by rfl) (by assumption) ?_ ?_
            rotate_left
            · intro W hSw; (try dsimp only at hSw); go_simp; try with_reducible rfl
            simp only [Act.put, List.setIfInBounds_toArray, List.set_cons_zero, List.set_cons_succ]
            refine heldTake 6 (v := ?_) (by simp only [List.getElem?_toArray, List.getElem?_cons_succ, List.getElem?_cons_zero]; rfl) (by kernel_rfl) (by intro _ _ _ h; exact h) (by rfl) (by assumption) ?_ ?_
            rotate_left
            · intro W hSw; (try dsimp only at hSw); go_simp; try with_reducible rfl
            simp only [Act.put, List.setIfInBounds_toArray, List.set_cons_zero, List.set_cons_succ]
            refine heldTake 7 (v := ?_) (by simp only [List.getElem?_toArray, List.getElem?_cons_succ, List.getElem?_cons_zero]; rfl) (by kernel_rfl) (by intro _ _ _ h; exact h) (by rfl) (by assumption) ?_ ?_
            rotate_left
            · intro W hSw; (try dsimp only at hSw); go_simp; try with_reducible rfl
            simp only [Act.put, List.setIfInBounds_toArray, List.set_cons_zero, List.set_cons_succ]
            refine heldTake 8 (v := ?_) (by simp only [List.getElem?_toArray, List.getElem?_cons_succ, List.getElem?_cons_zero]; rfl) (by kernel_rfl) (by intro _ _ _ h; exact h) (by rfl) (by assumption) ?_ ?_
            rotate_left
            · intro W hSw; (try dsimp only at hSw); go_simp; try with_reducible rfl
            simp only [Act.put, List.setIfInBounds_toArray, List.set_cons_zero, List.set_cons_succ]
            refine heldTake 9 (v := ?_) (by simp only [List.getElem?_toArray, List.getElem?_cons_succ, List.getElem?_cons_zero]; rfl) (by kernel_rfl) (by intro _ _ _ h; exact h) (by rfl) (by assumption) ?_ ?_
            rotate_left
            · intro W hSw; (try dsimp only at hSw); go_simp; try with_reducible rfl
            simp only [Act.put, List.setIfInBounds_toArray, List.set_cons_zero, List.set_cons_succ]
            refine heldTake 11 (v := ?_) (by simp only [List.getElem?_toArray, List.getElem?_cons_succ, List.getElem?_cons_zero]; rfl) (by kernel_rfl) (by intro _ _ _ h; exact h) (by rfl) (by assumption) ?_ ?_
            rotate_left
            · intro W hSw; (try dsimp only at hSw); go_simp; try with_reducible rfl
            simp only [Act.put, List.setIfInBounds_toArray, List.set_cons_zero, List.set_cons_succ]
            refine heldTake 12 (v := ?_) (by simp only [List.getElem?_toArray, List.getElem?_cons_succ, List.getElem?_cons_zero]; rfl) (by kernel_rfl) (by intro _ _ _ h; exact h) (by rfl) (by assumption) ?_ ?_
            rotate_left
            · intro W hSw; (try dsimp only at hSw); go_simp; try with_reducible rfl
            simp only [Act.put, List.setIfInBounds_toArray, List.set_cons_zero, List.set_cons_succ]
            refine heldTake 13 (v := ?_) (by simp only [List.getElem?_toArray, List.getElem?_cons_succ, List.getElem?_cons_zero]; rfl) (by kernel_rfl) (by intro _ _ _ h; exact h) (by rfl) (by assumption) ?_ ?_
            rotate_left
            · intro W hSw; (try dsimp only at hSw); go_simp; try with_reducible rfl
            simp only [Act.put, List.setIfInBounds_toArray, List.set_cons_zero, List.set_cons_succ]
            refine heldTake 14 (v := ?_) (by simp only [List.getElem?_toArray, List.getElem?_cons_succ, List.getElem?_cons_zero]; rfl) (by kernel_rfl) (by intro _ _ _ h; exact h) (by rfl) (by assumption) ?_ ?_
            rotate_left
            · intro W hSw; (try dsimp only at hSw); go_simp; try with_reducible rfl
            simp only [Act.put, List.setIfInBounds_toArray, List.set_cons_zero, List.set_cons_succ]
            refine heldTake 15 (v := ?_) (by simp only [List.getElem?_toArray, List.getElem?_cons_succ, List.getElem?_cons_zero]; rfl) (by kernel_rfl) (by intro _ _ _ h; exact h) (by rfl) (by assumption) ?_ ?_
            rotate_left
            · intro W hSw; (try dsimp only at hSw); go_simp; try with_reducible rfl
            simp only [Act.put, List.setIfInBounds_toArray, List.set_cons_zero, List.set_cons_succ]
            refine heldTake 16 (v := ?_) (by simp only [List.getElem?_toArray, List.getElem?_cons_succ, List.getElem?_cons_zero]; rfl) (by kernel_rfl) (by intro _ _ _ h; exact h) (by rfl) (by assumption) ?_ ?_
            rotate_left
            · intro W hSw; (try dsimp only at hSw); go_simp; try with_reducible rfl
            simp only [Act.put, List.setIfInBounds_toArray, List.set_cons_zero, List.set_cons_succ]
            refine heldCall 10 (by simp only [List.getElem?_toArray, List.getElem?_cons_succ, List.getElem?_cons_zero]; rfl) (by kernel_rfl) (fun K hK => ?_)
            go_simp
            refine (HM1.out.callSlack).mono ?_
            rw [HSL.out]
            rintro e w6 ⟨rfl, rfl⟩
            go_wp2_with fail
            refine hK.out _ _ ?_ (fun hHeld => ?_)
            · exact ⟨e0, e2, hll⟩
            clear hK K
            (try simp only [Act.put, List.setIfInBounds_toArray, List.set_cons_zero, List.set_cons_succ])
            refine heldTake 17 (v := ?_) (by simp only [List.getElem?_toArray, List.getElem?_cons_succ, List.getElem?_cons_zero]; rfl) (by kernel_rfl) (by intro _ _ _ h; exact h) (by rfl) (by assumption) ?_ ?_
            rotate_left
            · intro W hSw; (try dsimp only at hSw); go_simp; try with_reducible rfl
            simp only [Act.put, List.setIfInBounds_toArray, List.set_cons_zero, List.set_cons_succ]
            refine heldTake 18 (v := ?_) (by simp only [List.getElem?_toArray, List.getElem?_cons_succ, List.getElem?_cons_zero]; rfl) (by kernel_rfl) (by intro _ _ _ h; exact h) (by rfl) (by assumption) ?_ ?_
            rotate_left
            · intro W hSw; (try dsimp only at hSw); go_simp; try with_reducible rfl
            simp only [Act.put, List.setIfInBounds_toArray, List.set_cons_zero, List.set_cons_succ]
            refine heldTake 19 (v := ?_) (by simp only [List.getElem?_toArray, List.getElem?_cons_succ, List.getElem?_cons_zero]; rfl) (by kernel_rfl) (by intro _ _ _ h; exact h) (by rfl) (by assumption) ?_ ?_
            rotate_left
            · intro W hSw; (try dsimp only at hSw); go_simp; try with_reducible rfl
            simp only [Act.put, List.setIfInBounds_toArray, List.set_cons_zero, List.set_cons_succ]
            refine heldTake 20 (v := ?_) (by simp only [List.getElem?_toArray, List.getElem?_cons_succ, List.getElem?_cons_zero]; rfl) (by kernel_rfl) (by intro _ _ _ h; exact h) (by rfl) (by assumption) ?_ ?_
            rotate_left
            · intro W hSw; (try dsimp only at hSw); go_simp; try with_reducible rfl
            simp only [Act.put, List.setIfInBounds_toArray, List.set_cons_zero, List.set_cons_succ]
            refine heldTake 21 (v := ?_) (by simp only [List.getElem?_toArray, List.getElem?_cons_succ, List.getElem?_cons_zero]; rfl) (by kernel_rfl) (by intro _ _ _ h; exact h) (by rfl) (by assumption) ?_ ?_
            rotate_left
            · intro W hSw; (try dsimp only at hSw); go_simp; try with_reducible rfl
            simp only [Act.put, List.setIfInBounds_toArray, List.set_cons_zero, List.set_cons_succ]
            refine heldTake 22 (v := ?_) (by simp only [List.getElem?_toArray, List.getElem?_cons_succ, List.getElem?_cons_zero]; rfl) (by kernel_rfl) (by intro _ _ _ h; exact h) (by rfl) (by assumption) ?_ ?_
            rotate_left
            · intro W hSw; (try dsimp only at hSw); go_simp; try with_reducible rfl
            simp only [Act.put, List.setIfInBounds_toArray, List.set_cons_zero, List.set_cons_succ]
            refine heldTake 24 (v := ?_) (by simp only [List.getElem?_toArray, List.getElem?_cons_succ, List.getElem?_cons_zero]; rfl) (by kernel_rfl) (by intro _ _ _ h; exact h) (by rfl) (by assumption) ?_ ?_
            rotate_left
            · intro W hSw; (try dsimp only at hSw); go_simp; try with_reducible rfl
            simp only [Act.put, List.setIfInBounds_toArray, List.set_cons_zero, List.set_cons_succ]
            refine heldCall 23 (by simp only [List.getElem?_toArray, List.getElem?_cons_succ, List.getElem?_cons_zero]; rfl) (by kernel_rfl) (fun K hK => ?_)
            go_simp
            refine (HM1.out.callLeast).mono ?_
            rw [HLE.out]
            rintro e w6 ⟨rfl, rfl⟩
            go_wp2_with fail
            refine hK.out _ _ ?_ (fun hHeld => ?_)
            · exact ⟨e0, e2, hll⟩
            clear hK K
            (try simp only [Act.put, List.setIfInBounds_toArray, List.set_cons_zero, List.set_cons_succ])
            refine heldTake 25 (v := ?_) (by simp only [List.getElem?_toArray, List.getElem?_cons_succ, List.getElem?_cons_zero]; rfl) (by kernel_rfl) (by intro _ _ _ h; exact h) (by rfl) (by assumption) ?_ ?_
            rotate_left
            · intro W hSw; (try dsimp only at hSw); go_simp; try with_reducible rfl
            simp only [Act.put, List.setIfInBounds_toArray, List.set_cons_zero, List.set_cons_succ]
            refine heldTake 26 (v := ?_) (by simp only [List.getElem?_toArray, List.getElem?_cons_succ, List.getElem?_cons_zero]; rfl) (by kernel_rfl) (by intro _ _ _ h; exact h) (by rfl) (by assumption) ?_ ?_
            rotate_left
            · intro W hSw; (try dsimp only at hSw); go_simp; try with_reducible rfl
            simp only [Act.put, List.setIfInBounds_toArray, List.set_cons_zero, List.set_cons_succ]
            refine heldTake 27 (v := ?_) (by simp only [List.getElem?_toArray, List.getElem?_cons_succ, List.getElem?_cons_zero]; rfl) (by kernel_rfl) (by intro _ _ _ h; exact h) (by rfl) (by assumption) ?_ ?_
            rotate_left
            · intro W hSw; (try dsimp only at hSw); go_simp; try with_reducible rfl
            simp only [Act.put, List.setIfInBounds_toArray, List.set_cons_zero, List.set_cons_succ]
            refine heldDone (by kernel_rfl) ?_ _
            clear e0 e2 hll
            generalize wr.drew = wa at *
            go_wp2_with (at_range; refine wpList_range_is rfl _ _ rfl Try.underlying57 rfl HM1.out.map.1 ?_; intro w8 hrg8 hb8 hz8)
            have HRG := Lib.hid hrg8
            have HB8 := Lib.hid hb8
            have HMO := Lib.hid HM1.out.map.1.ok
            clear hrg8 hb8 hz8
            (try go_frame)
            go_loopg [] S.length (Sk3 mb wa.heap.size wa S)
            case atStart => exact ⟨S, Lib.hid rfl, Lib.hid (fun _ h => h), HRG, HB8⟩
            case round =>
              clear HRG HB8
              obtain ⟨left, HLN, HSUB, HRGl, HBl⟩ := hrel
              go_wp2_with (at_next; refine wpList_next_is rfl _ rfl rfl HRGl.out ?_ ?_)
              · intro h0
                (try go_frame)
                go_wp2
                go_ret
                exact ⟨rfl, (HM1.out.below HBl.out).bl⟩
              · intro key nn w9 hmem hrg9 hk9 hz9 hen
                have hml := mdel_len HRGl.out.nodup (p := (key, nn)) hmem
                simp only at hml
                have HML := Lib.hid hml
                have hmS := HSUB.out _ hmem
                have hks : strOk key := HMO.out _ hmS
                obtain ⟨y1, y2⟩ := Z4.out _ hmS
                obtain ⟨y3, y4⟩ := Z5.out key
                have HBn : Hid (Below wa.heap.size wa w9) := Lib.hid (HBl.out.trans (hk9.toBelow HBl.out.size (fun j e => by omega)))
                have HSUB9 : Hid (∀ p ∈ mdel left key, p ∈ S) := Lib.hid (fun p hp => HSUB.out p (List.mem_filter.1 hp).1)
                have HRG9 := Lib.hid hrg9
                simp only [strKf, intVf] at hen
                simp only at y1 y2
                rw [HSL.out] at y2
                obtain ⟨lo, hlo⟩ : ∃ lo, lowV (sf 0).S key = lo := ⟨_, rfl⟩
                rw [hlo] at y1 y2 y3 y4
                have HLO := Lib.hid hlo
                have hwl : IntKind.i64.wrap (lo + sl) = lo + sl := IntWalk.i64_in _ (by omega)
                have hdl1 : decide (nn < lo) = false := by simp; omega
                have hdl2 : decide (lo + sl < nn) = false := by simp; omega
                have hdl3 : decide (lo + sl < lo + sl) = false := by simp
                clear hlo hml hmem hrg9 hk9 hz9 hmS
                (try go_frame)
                go_wp2_with fail
                have HMa : Hid (SkMem w w9.drew hc uc pb qb mb sf tf S []) := Lib.hid ((HM1.out.below HBn.out).below ((Below.refl _ _).drew))
                have HBa : Hid (Below wa.heap.size wa w9.drew) := Lib.hid (HBn.out.trans (((Below.refl _ _).drew).mono HBn.out.size))
                have HRGa : Hid (RangeAt w9.drew strKf intVf wa.heap.size (some mb) (mdel left key)) := HRG9
                clear HBn HRG9
                have e0 := (HMa.out.pc (j := 0) (by omega)).1
                refine heldStart 34 (S := fun W => W.cell? ⟨pb, 0, none⟩ = some (.pointer (some ⟨hc 0, 0, none⟩))) (by kernel_rfl) ?_ (fun hHeld => ?_)
                · first | exact e0 | exact (HMb.out.pc (j := 0) (by omega)).1 | exact (HMc.out.pc (j := 0) (by omega)).1
                refine heldTake 0 (v := ?_) (by simp only [List.getElem?_toArray, List.getElem?_cons_succ, List.getElem?_cons_zero]; rfl) (by kernel_rfl) (by intro _ _ _ h; exact h) (by rfl) (by assumption) ?_ ?_
                rotate_left
                · intro W hSw; (try dsimp only at hSw); go_simp; try with_reducible rfl
                simp only [Act.put, List.setIfInBounds_toArray, List.set_cons_zero, List.set_cons_succ]
                refine heldTake 1 (v := ?_) (by simp only [List.getElem?_toArray, List.getElem?_cons_succ, List.getElem?_cons_zero]; rfl) (by kernel_rfl) (by intro _ _ _ h; exact h) (by rfl) (by assumption) ?_ ?_
                rotate_left
                · intro W hSw; (try dsimp only at hSw); go_simp; try with_reducible rfl
                simp only [Act.put, List.setIfInBounds_toArray, List.set_cons_zero, List.set_cons_succ]
                refine heldTake 2 (v := ?_) (by simp only [List.getElem?_toArray, List.getElem?_cons_succ, List.getElem?_cons_zero]; rfl) (by kernel_rfl) (by intro _ _ _ h; exact h) (by rfl) (by assumption) ?_ ?_
                rotate_left
                · intro W hSw; (try dsimp only at hSw); go_simp; try with_reducible rfl
                simp only [Act.put, List.setIfInBounds_toArray, List.set_cons_zero, List.set_cons_succ]
                refine heldTake 3 (v := ?_) (by simp only [List.getElem?_toArray, List.getElem?_cons_succ, List.getElem?_cons_zero]; rfl) (by kernel_rfl) (by intro _ _ _ h; exact h) (by rfl) (by assumption) ?_ ?_
                rotate_left
                · intro W hSw; (try dsimp only at hSw); go_simp; try with_reducible rfl
                simp only [Act.put, List.setIfInBounds_toArray, List.set_cons_zero, List.set_cons_succ]
                refine heldTake 5 (v := ?_) (by simp only [List.getElem?_toArray, List.getElem?_cons_succ, List.getElem?_cons_zero]; rfl) (by kernel_rfl) (by intro _ _ _ h; exact h) (by rfl) (by assumption) ?_ ?_
                rotate_left
                · intro W hSw; (try dsimp only at hSw); go_simp; try with_reducible rfl
                simp only [Act.put, List.setIfInBounds_toArray, List.set_cons_zero, List.set_cons_succ]
                refine heldCall 4 (by simp only [List.getElem?_toArray, List.getElem?_cons_succ, List.getElem?_cons_zero]; rfl) (by kernel_rfl) (fun K hK => ?_)
                go_simp
                refine (HMa.out.callLow hks).mono ?_
                rw [HLO.out]
                rintro e v1 ⟨rfl, rfl⟩
                go_wp2_with fail
                refine hK.out _ _ ?_ (fun hHeld => ?_)
                · first | exact e0 | exact (HMb.out.pc (j := 0) (by omega)).1 | exact (HMc.out.pc (j := 0) (by omega)).1
                clear hK K
                (try simp only [Act.put, List.setIfInBounds_toArray, List.set_cons_zero, List.set_cons_succ])
                refine heldTake 6 (v := ?_) (by simp only [List.getElem?_toArray, List.getElem?_cons_succ, List.getElem?_cons_zero]; rfl) (by kernel_rfl) (by intro _ _ _ h; exact h) (by rfl) (by assumption) ?_ ?_
                rotate_left
                · intro W hSw; (try dsimp only at hSw); go_simp; try with_reducible rfl
                simp only [Act.put, List.setIfInBounds_toArray, List.set_cons_zero, List.set_cons_succ]
                refine heldTake 7 (v := ?_) (by simp only [List.getElem?_toArray, List.getElem?_cons_succ, List.getElem?_cons_zero]; rfl) (by kernel_rfl) (by intro _ _ _ h; exact h) (by rfl) (by assumption) ?_ ?_
                rotate_left
                · intro W hSw; (try dsimp only at hSw); go_simp; try with_reducible rfl
                simp only [Act.put, List.setIfInBounds_toArray, List.set_cons_zero, List.set_cons_succ]
                refine heldTake 8 (v := ?_) (by simp only [List.getElem?_toArray, List.getElem?_cons_succ, List.getElem?_cons_zero]; rfl) (by kernel_rfl) (by intro _ _ _ h; exact h) (by rfl) (by assumption) ?_ ?_
                rotate_left
                · intro W hSw; (try dsimp only at hSw); go_simp; try with_reducible rfl
                simp only [Act.put, List.setIfInBounds_toArray, List.set_cons_zero, List.set_cons_succ]
                refine heldTake 9 (v := ?_) (by simp only [List.getElem?_toArray, List.getElem?_cons_succ, List.getElem?_cons_zero]; rfl) (by kernel_rfl) (by intro _ _ _ h; exact h) (by rfl) (by assumption) ?_ ?_
                rotate_left
                · intro W hSw; (try dsimp only at hSw); go_simp; try with_reducible rfl
                simp only [Act.put, List.setIfInBounds_toArray, List.set_cons_zero, List.set_cons_succ]
                refine heldTake 10 (v := ?_) (by simp only [List.getElem?_toArray, List.getElem?_cons_succ, List.getElem?_cons_zero]; rfl) (by kernel_rfl) (by intro _ _ _ h; exact h) (by rfl) (by assumption) ?_ ?_
                rotate_left
                · intro W hSw; (try dsimp only at hSw); go_simp; try with_reducible rfl
                simp only [Act.put, List.setIfInBounds_toArray, List.set_cons_zero, List.set_cons_succ]
                refine heldTake 11 (v := ?_) (by simp only [List.getElem?_toArray, List.getElem?_cons_succ, List.getElem?_cons_zero]; rfl) (by kernel_rfl) (by intro _ _ _ h; exact h) (by rfl) (by assumption) ?_ ?_
                rotate_left
                · intro W hSw; (try dsimp only at hSw); go_simp; try with_reducible rfl
                simp only [Act.put, List.setIfInBounds_toArray, List.set_cons_zero, List.set_cons_succ]
                refine heldTake 13 (v := ?_) (by simp only [List.getElem?_toArray, List.getElem?_cons_succ, List.getElem?_cons_zero]; rfl) (by kernel_rfl) (by intro _ _ _ h; exact h) (by rfl) (by assumption) ?_ ?_
                rotate_left
                · intro W hSw; (try dsimp only at hSw); go_simp; try with_reducible rfl
                simp only [Act.put, List.setIfInBounds_toArray, List.set_cons_zero, List.set_cons_succ]
                refine heldCall 12 (by simp only [List.getElem?_toArray, List.getElem?_cons_succ, List.getElem?_cons_zero]; rfl) (by kernel_rfl) (fun K hK => ?_)
                go_simp
                refine (HMa.out.callHigh hks).mono ?_
                rw [HLO.out, HSL.out]
                rintro e vb ⟨rfl, hbb⟩
                have HMb := Lib.hid (HMa.out.below hbb)
                have HBb := Lib.hid hbb
                clear hbb
                go_wp2_with fail
                refine hK.out _ _ ?_ (fun hHeld => ?_)
                · first | exact e0 | exact (HMb.out.pc (j := 0) (by omega)).1 | exact (HMc.out.pc (j := 0) (by omega)).1
                clear hK K
                (try simp only [Act.put, List.setIfInBounds_toArray, List.set_cons_zero, List.set_cons_succ])
                refine heldTake 14 (v := ?_) (by simp only [List.getElem?_toArray, List.getElem?_cons_succ, List.getElem?_cons_zero]; rfl) (by kernel_rfl) (by intro _ _ _ h; exact h) (by rfl) (by assumption) ?_ ?_
                rotate_left
                · intro W hSw; (try dsimp only at hSw); go_simp; try with_reducible rfl
                simp only [Act.put, List.setIfInBounds_toArray, List.set_cons_zero, List.set_cons_succ]
                refine heldTake 15 (v := ?_) (by simp only [List.getElem?_toArray, List.getElem?_cons_succ, List.getElem?_cons_zero]; rfl) (by kernel_rfl) (by intro _ _ _ h; exact h) (by rfl) (by assumption) ?_ ?_
                rotate_left
                · intro W hSw; (try dsimp only at hSw); go_simp; try with_reducible rfl
                simp only [Act.put, List.setIfInBounds_toArray, List.set_cons_zero, List.set_cons_succ]
                refine heldTake 16 (v := ?_) (by simp only [List.getElem?_toArray, List.getElem?_cons_succ, List.getElem?_cons_zero]; rfl) (by kernel_rfl) (by intro _ _ _ h; exact h) (by rfl) (by assumption) ?_ ?_
                rotate_left
                · intro W hSw; (try dsimp only at hSw); go_simp; try with_reducible rfl
                simp only [Act.put, List.setIfInBounds_toArray, List.set_cons_zero, List.set_cons_succ]
                refine heldTake 17 (v := ?_) (by simp only [List.getElem?_toArray, List.getElem?_cons_succ, List.getElem?_cons_zero]; rfl) (by kernel_rfl) (by intro _ _ _ h; exact h) (by rfl) (by assumption) ?_ ?_
                rotate_left
                · intro W hSw; (try dsimp only at hSw); go_simp; try with_reducible rfl
                simp only [Act.put, List.setIfInBounds_toArray, List.set_cons_zero, List.set_cons_succ]
                refine heldTake 18 (v := ?_) (by simp only [List.getElem?_toArray, List.getElem?_cons_succ, List.getElem?_cons_zero]; rfl) (by kernel_rfl) (by intro _ _ _ h; exact h) (by rfl) (by assumption) ?_ ?_
                rotate_left
                · intro W hSw; (try dsimp only at hSw); go_simp; try with_reducible rfl
                simp only [Act.put, List.setIfInBounds_toArray, List.set_cons_zero, List.set_cons_succ]
                refine heldTake 19 (v := ?_) (by simp only [List.getElem?_toArray, List.getElem?_cons_succ, List.getElem?_cons_zero]; rfl) (by kernel_rfl) (by intro _ _ _ h; exact h) (by rfl) (by assumption) ?_ ?_
                rotate_left
                · intro W hSw; (try dsimp only at hSw); go_simp; try with_reducible rfl
                simp only [Act.put, List.setIfInBounds_toArray, List.set_cons_zero, List.set_cons_succ]
                refine heldTake 20 (v := ?_) (by simp only [List.getElem?_toArray, List.getElem?_cons_succ, List.getElem?_cons_zero]; rfl) (by kernel_rfl) (by intro _ _ _ h; exact h) (by rfl) (by assumption) ?_ ?_
                rotate_left
                · intro W hSw; (try dsimp only at hSw); go_simp; try with_reducible rfl
                simp only [Act.put, List.setIfInBounds_toArray, List.set_cons_zero, List.set_cons_succ]
                refine heldTake 22 (v := ?_) (by simp only [List.getElem?_toArray, List.getElem?_cons_succ, List.getElem?_cons_zero]; rfl) (by kernel_rfl) (by intro _ _ _ h; exact h) (by rfl) (by assumption) ?_ ?_
                rotate_left
                · intro W hSw; (try dsimp only at hSw); go_simp; try with_reducible rfl
                simp only [Act.put, List.setIfInBounds_toArray, List.set_cons_zero, List.set_cons_succ]
                refine heldTake 23 (v := ?_) (by simp only [List.getElem?_toArray, List.getElem?_cons_succ, List.getElem?_cons_zero]; rfl) (by kernel_rfl) (by intro _ _ _ h; exact h) (by rfl) (by assumption) ?_ ?_
                rotate_left
                · intro W hSw; (try dsimp only at hSw); go_simp; try with_reducible rfl
                simp only [Act.put, List.setIfInBounds_toArray, List.set_cons_zero, List.set_cons_succ]
                refine heldTake 24 (v := ?_) (by simp only [List.getElem?_toArray, List.getElem?_cons_succ, List.getElem?_cons_zero]; rfl) (by kernel_rfl) (by intro _ _ _ h; exact h) (by rfl) (by assumption) ?_ ?_
                rotate_left
                · intro W hSw; (try dsimp only at hSw); go_simp; try with_reducible rfl
                simp only [Act.put, List.setIfInBounds_toArray, List.set_cons_zero, List.set_cons_succ]
                refine heldTake 25 (v := ?_) (by simp only [List.getElem?_toArray, List.getElem?_cons_succ, List.getElem?_cons_zero]; rfl) (by kernel_rfl) (by intro _ _ _ h; exact h) (by rfl) (by assumption) ?_ ?_
                rotate_left
                · intro W hSw; (try dsimp only at hSw); go_simp; try with_reducible rfl
                simp only [Act.put, List.setIfInBounds_toArray, List.set_cons_zero, List.set_cons_succ]
                refine heldTake 27 (v := ?_) (by simp only [List.getElem?_toArray, List.getElem?_cons_succ, List.getElem?_cons_zero]; rfl) (by kernel_rfl) (by intro _ _ _ h; exact h) (by rfl) (by assumption) ?_ ?_
                rotate_left
                · intro W hSw; (try dsimp only at hSw); go_simp; try with_reducible rfl
                simp only [Act.put, List.setIfInBounds_toArray, List.set_cons_zero, List.set_cons_succ]
                refine heldTake 28 (v := ?_) (by simp only [List.getElem?_toArray, List.getElem?_cons_succ, List.getElem?_cons_zero]; rfl) (by kernel_rfl) (by intro _ _ _ h; exact h) (by rfl) (by assumption) ?_ ?_
                rotate_left
                · intro W hSw; (try dsimp only at hSw); go_simp; try with_reducible rfl
                simp only [Act.put, List.setIfInBounds_toArray, List.set_cons_zero, List.set_cons_succ]
                refine heldTake 29 (v := ?_) (by simp only [List.getElem?_toArray, List.getElem?_cons_succ, List.getElem?_cons_zero]; rfl) (by kernel_rfl) (by intro _ _ _ h; exact h) (by rfl) (by assumption) ?_ ?_
                rotate_left
                · intro W hSw; (try dsimp only at hSw); go_simp; try with_reducible rfl
                simp only [Act.put, List.setIfInBounds_toArray, List.set_cons_zero, List.set_cons_succ]
                refine heldCall 21 (by simp only [List.getElem?_toArray, List.getElem?_cons_succ, List.getElem?_cons_zero]; rfl) (by kernel_rfl) (fun K hK => ?_)
                go_simp
                refine (HMb.out.callHigh hks).mono ?_
                rw [HLO.out, HSL.out]
                rintro e vc ⟨rfl, hbc⟩
                have HMc := Lib.hid (HMb.out.below hbc)
                have HBc := Lib.hid hbc
                clear hbc
                go_wp2_with fail
                refine hK.out _ _ ?_ (fun hHeld => ?_)
                · first | exact e0 | exact (HMb.out.pc (j := 0) (by omega)).1 | exact (HMc.out.pc (j := 0) (by omega)).1
                clear hK K
                (try simp only [Act.put, List.setIfInBounds_toArray, List.set_cons_zero, List.set_cons_succ])
                refine heldCall 26 (by simp only [List.getElem?_toArray, List.getElem?_cons_succ, List.getElem?_cons_zero]; rfl) (by kernel_rfl) (fun K hK => ?_)
                go_simp
                refine (HMc.out.callLow hks).mono ?_
                rw [HLO.out]
                rintro e v1 ⟨rfl, rfl⟩
                go_wp2_with fail
                refine hK.out _ _ ?_ (fun hHeld => ?_)
                · first | exact e0 | exact (HMb.out.pc (j := 0) (by omega)).1 | exact (HMc.out.pc (j := 0) (by omega)).1
                clear hK K
                (try simp only [Act.put, List.setIfInBounds_toArray, List.set_cons_zero, List.set_cons_succ])
                refine heldCall 30 (by simp only [List.getElem?_toArray, List.getElem?_cons_succ, List.getElem?_cons_zero]; rfl) (by kernel_rfl) (fun K hK => ?_)
                go_simp
                refine (HMc.out.callSlack).mono ?_
                rw [HSL.out]
                rintro e v1 ⟨rfl, rfl⟩
                go_wp2_with fail
                refine hK.out _ _ ?_ (fun hHeld => ?_)
                · first | exact e0 | exact (HMb.out.pc (j := 0) (by omega)).1 | exact (HMc.out.pc (j := 0) (by omega)).1
                clear hK K
                (try simp only [Act.put, List.setIfInBounds_toArray, List.set_cons_zero, List.set_cons_succ])
                refine heldTake 31 (v := ?_) (by simp only [List.getElem?_toArray, List.getElem?_cons_succ, List.getElem?_cons_zero]; rfl) (by kernel_rfl) (by intro _ _ _ h; exact h) (by rfl) (by assumption) ?_ ?_
                rotate_left
                · intro W hSw; (try dsimp only at hSw); go_simp; try with_reducible rfl
                simp only [Act.put, List.setIfInBounds_toArray, List.set_cons_zero, List.set_cons_succ]
                refine heldTake 32 (v := ?_) (by simp only [List.getElem?_toArray, List.getElem?_cons_succ, List.getElem?_cons_zero]; rfl) (by kernel_rfl) (by intro _ _ _ h; exact h) (by rfl) (by assumption) ?_ ?_
                rotate_left
                · intro W hSw; (try dsimp only at hSw); go_simp; try with_reducible rfl
                simp only [Act.put, List.setIfInBounds_toArray, List.set_cons_zero, List.set_cons_succ]
                refine heldTake 33 (v := ?_) (by simp only [List.getElem?_toArray, List.getElem?_cons_succ, List.getElem?_cons_zero]; rfl) (by kernel_rfl) (by intro _ _ _ h; exact h) (by rfl) (by assumption) ?_ ?_
                rotate_left
                · intro W hSw; (try dsimp only at hSw); go_simp; try with_reducible rfl
                simp only [Act.put, List.setIfInBounds_toArray, List.set_cons_zero, List.set_cons_succ]
                refine heldDone (by kernel_rfl) ?_ _
                have hlt9 := HRGa.out.lt
                have HBd : Hid (Below wa.heap.size wa vc) := Lib.hid (HBa.out.trans ((HBb.out.trans (HBc.out.mono HBb.out.size)).mono HBa.out.size))
                have HRGd : Hid (RangeAt vc strKf intVf wa.heap.size (some mb) (mdel left key)) := Lib.hid (HRGa.out.keep (Keeps.ofBelow (HBb.out.trans (HBc.out.mono HBb.out.size)) (fun _ => False)) (fun e => e) (fun _ _ e => e))
                clear e0 HMa HMb HMc HBa HBb HBc HRGa
                go_wp2
                go_roundg (gk - 1)
                case measure => have := HLN.out; have := HML.out; omega
                case rel => exact ⟨mdel left key, Lib.hid (by have := HLN.out; have := HML.out; omega), HSUB9, HRGd, HBd⟩
  · have g1' : fewB l = false := by simpa using g1
    go_enter Try.func5, Try.ntmps5
    go_wp2_with fail
    refine (counts_any _).mono ?_
    rintro r w1 ⟨rfl, hb1⟩
    go_wp2_with fail
    refine (few_any A c l _ ⟨(h.1.below hb1).more hb1.size, h.2⟩ hl).mono ?_
    rintro r w2 ⟨rfl, hb2⟩
    rw [g1']
    have hB2 : Below w.heap.size w w2 := hb1.trans (hb2.mono hb1.size)
    clear hb1 hb2
    go_wp2_with fail
    refine (counts_any _).mono ?_
    rintro r w3 ⟨rfl, hb3⟩
    go_wp2
    go_ret
    exact ⟨rfl, hB2.trans (hb3.mono hB2.size)⟩
end Go.Proofs.Ytmigjlceogofaaa
