/- The reference's Top (ciceroneref11). -/
import Derived.Test.YtgahopkbgefjdaaRdC
import Derived.Test.YtgahopkbgefjdaaDecS
import Derived.BigQuiet
namespace Go.Proofs.Ytgahopkbgefjdaa
open Go.ChangeShapes Go.WideShapes Go.ChangeAt Go.RowKit Go.Shelf Go.Lib Go.Sort Go.Proofs
set_option linter.unusedVariables false
set_option linter.unusedSimpArgs false

theorem flat_dropD {α : Type} {e : α → List Value} {k : Nat} (he : ∀ a, (e a).length = k) : ∀ (l : List α) (m : Nat), (l.flatMap e).drop (m * k) = (l.drop m).flatMap e
  | [], m => by simp
  | a :: l, 0 => by simp
  | a :: l, m + 1 => by
    rw [List.flatMap_cons, List.drop_append, he a, show (m + 1) * k - k = m * k by rw [Nat.add_mul]; omega, flat_dropD he l m, List.drop_succ_cons]
    rw [List.drop_eq_nil_of_le (by rw [he a, Nat.add_mul]; omega), List.nil_append]
theorem ins_endD {out : List CntV} (hs : out.Pairwise (fun x y => cntLt x y = true)) {x : CntV} {m : Nat} (hm : m ≤ out.length) (h1 : ∀ j (hj : j < out.length), m ≤ j → cntLt x out[j] = true) (h2 : ∀ (hj : m - 1 < out.length), 0 < m → cntLt x out[m - 1] = false) (hx : x ∉ out) :
    (out.take m ++ [x] ++ out.drop m).Pairwise (fun x y => cntLt x y = true) := by
  have hp := List.pairwise_iff_getElem.1 hs
  rw [List.append_assoc, List.pairwise_append]
  refine ⟨hs.sublist (List.take_sublist _ _), ?_, ?_⟩
  · rw [List.singleton_append, List.pairwise_cons]
    refine ⟨fun y hy => ?_, hs.sublist (List.drop_sublist _ _)⟩
    obtain ⟨j, hj, rfl⟩ := List.mem_iff_getElem.1 hy
    rw [List.length_drop] at hj
    rw [List.getElem_drop]
    exact h1 (m + j) (by omega) (by omega)
  · intro a ha b hb
    obtain ⟨i, hi, rfl⟩ := List.mem_iff_getElem.1 ha
    rw [List.length_take] at hi
    rw [List.getElem_take]
    have hax : cntLt out[i] x = true := by
      have hm1 : m - 1 < out.length := by omega
      have h3 := h2 hm1 (by omega)
      have h4 : cntLt out[m - 1] x = true := by
        cases hc : cntLt out[m - 1] x with
        | true => rfl
        | false => exact absurd (cntLt_tot _ _ h3 hc ▸ List.getElem_mem hm1) hx
      rcases Nat.lt_or_ge i (m - 1) with h | h
      · exact cntLt_tr _ _ _ (hp i (m - 1) (by omega) hm1 h) h4
      · have e : i = m - 1 := by omega
        subst e
        exact h4
    rcases List.mem_append.1 hb with hb | hb
    · simp at hb; subst hb; exact hax
    · obtain ⟨j, hj, rfl⟩ := List.mem_iff_getElem.1 hb
      rw [List.length_drop] at hj
      rw [List.getElem_drop]
      exact cntLt_tr _ _ _ hax (h1 (m + j) (by omega) (by omega))
theorem ins_permD {α : Type} (out : List α) (x : α) (m : Nat) : (out.take m ++ [x] ++ out.drop m).Perm (x :: out) := by
  have h1 : (out.take m ++ [x] ++ out.drop m).Perm (x :: (out.take m ++ out.drop m)) := by
    rw [List.append_assoc, List.singleton_append]
    exact List.perm_middle
  rwa [List.take_append_drop] at h1
/-- The row, as far as the keys have been looked at. -/
def TopRf (hf now : Int) (L : List AddD) (pre : List ByteArray) (out : List CntV) : Prop := out.Pairwise (fun x y => cntLt x y = true) ∧ (∀ r, r ∈ out ↔ r.key ∈ pre ∧ r.n = cntV hf L r.key now) ∧ out.length = pre.length
theorem TopRf.nil (hf now : Int) (L : List AddD) : TopRf hf now L [] [] := ⟨List.Pairwise.nil, by simp, rfl⟩
theorem TopRf.put {hf now : Int} {L : List AddD} {pre : List ByteArray} {out : List CntV} (h : TopRf hf now L pre out) {x : ByteArray} (hx : ∀ y ∈ pre, sLt y x = true) {m : Nat} (hm : m ≤ out.length) (h1 : ∀ j (hj : j < out.length), m ≤ j → (out[j]).n < cntV hf L x now) (h2 : ∀ (hj : m - 1 < out.length), 0 < m → ¬ (out[m - 1]).n < cntV hf L x now) :
    TopRf hf now L (pre ++ [x]) (out.take m ++ [⟨x, cntV hf L x now⟩] ++ out.drop m) := by
  have hno : (⟨x, cntV hf L x now⟩ : CntV) ∉ out := fun hmem => by
    have := hx _ ((h.2.1 _).1 hmem).1
    simp only [sLt_irrefl] at this
    cases this
  refine ⟨ins_endD h.1 hm (fun j hj hmj => cntLt_iff _ _ |>.2 (.inl (h1 j hj hmj))) (fun hj h0 => ?_) hno, fun r => ?_, ?_⟩
  · cases hc : cntLt (⟨x, cntV hf L x now⟩ : CntV) out[m - 1] with
    | false => rfl
    | true =>
      rcases (cntLt_iff _ _).1 hc with h' | ⟨_, hlt⟩
      · exact absurd h' (h2 hj h0)
      · have h3 := hx _ ((h.2.1 _).1 (List.getElem_mem hj)).1
        have h4 := sLt_trans hlt h3
        rw [sLt_irrefl] at h4
        cases h4
  · rw [(ins_permD out _ m).mem_iff, List.mem_cons, h.2.1, List.mem_append, List.mem_singleton]
    constructor
    · rintro (rfl | ⟨hr, e⟩)
      · exact ⟨.inr rfl, rfl⟩
      · exact ⟨.inl hr, e⟩
    · rintro ⟨hr | hr, e⟩
      · exact .inr ⟨hr, e⟩
      · exact .inl (CntV.same ⟨hr, by rw [e, hr]⟩)
  · have := (ins_permD out (⟨x, cntV hf L x now⟩ : CntV) m).length_eq
    rw [this, List.length_cons, List.length_append, h.2.2]
    rfl
theorem TopRf.fin {hf now : Int} {L : List AddD} {ks : List ByteArray} {out : List CntV} (h : TopRf hf now L ks out) (hk : KeysD hf L now ks) : AllD hf L now out := by
  refine ⟨h.1, fun r => ?_⟩
  rw [h.2.1, hk.2]
  constructor
  · rintro ⟨h1, h2⟩; exact ⟨h2, by rw [h2]; exact h1⟩
  · rintro ⟨h1, h2⟩; exact ⟨by rw [← h1]; exact h2, h1⟩

/-- What Top of the reference leaves. -/
def RTopNew (w : World) (hf now n : Int) (L : List AddD) (e : Ending) (w' : World) : Prop :=
  ∃ g c ts, e = .returned (.slice (some ⟨g, 0, none⟩) (List.length ts) c) ∧ TopD hf L now n ts ∧ CntsAt w' w'.heap.size (some ⟨g, 0, none⟩) ts ∧ Below w.heap.size w w'

set_option maxRecDepth 20000 in
set_option maxHeartbeats 16000000 in
theorem rtop11_any (mb : Nat) (F : Nat → Prop) (hf cnt : Int) (L : List AddD) (now n : Int) (w : World) (h : RcO w mb F hf cnt L) (hok : ∀ a ∈ L, addOk a = true) (hlen : (L.length : Int) ≤ 1000) (hh : hf ≤ 1099511627776) (n1 : now ≤ 9223372036854775807) :
    Calls Try.prog 34 #[.pointer (some ⟨mb, 0, none⟩), .int .i64 now, .int .i64 n] w (RTopNew w hf now n L) := by
  have HRC := Lib.hid h
  have HOK := Lib.hid hok
  clear h hok
  go_enter Try.func34, Try.ntmps34
  go_wp2_with fail
  refine (rkeys11_any mb F hf cnt L now _ HRC.out HOK.out hlen hh n1).mono ?_
  rintro e w1 ⟨gk1, ck, ks, rfl, hkd, hko, hb1, hkl0⟩
  have hkr : Reads w1 w1.heap.size 1 (some ⟨gk1, 0, none⟩) ks.length (ks.map Value.string) := Reads.of_own hko
  have HKR := Lib.hid hkr
  have HKD := Lib.hid hkd
  have HB1 := Lib.hid hb1
  have hkl : (ks.length : Int) ≤ 1000 := by omega
  clear hkr hkd hko hb1 hkl0
  have ho0 : (w1.alloc (.cells #[] 77)).ownsRow w1.heap.size 77 2 (.slice (some ⟨w1.heap.size, 0, none⟩) 0 0) 0 [] := own_empty (Nat.le_refl _) (heap_alloc_new w1 _)
  have hb0 : Below w1.heap.size w1 (w1.alloc (.cells #[] 77)) := (Below.refl _ _).alloc (Nat.le_refl _) _
  go_wp2_with fail
  generalize w1.alloc (.cells #[] 77) = W0 at *
  go_loopg [8, 9] ks.length (fun rest s i wr => ∃ (k g : Nat) (cq : Nat) (out : List CntV), i = .int .i64 k ∧ Hid (k + rest = ks.length) ∧ s = .slice (some ⟨g, 0, none⟩) out.length cq ∧ Hid (TopRf hf now L (ks.take k) out) ∧
    wr.ownsRow w1.heap.size 77 2 (.slice (some ⟨g, 0, none⟩) out.length cq) out.length (out.flatMap cntEnc) ∧ Hid (Below w1.heap.size w1 wr))
  case atStart => exact ⟨0, _, 0, [], rfl, Lib.hid (by simp), rfl, Lib.hid (TopRf.nil _ _ _), ho0, Lib.hid hb0⟩
  case round =>
    clear ho0 hb0
    obtain ⟨k, g, cq, out, rfl, HK, rfl, HO, hown, HB2⟩ := hrel
    have hol0 : (out.length : Int) ≤ (k : Int) := by
      have h1 := HO.out.2.2
      have h2 := List.length_take_le k ks
      omega
    have hcap := own_capC hown
    have hol : (out.length : Int) ≤ (cq : Int) := by omega
    by_cases hk : (k : Int) < (ks.length : Int)
    · have hkn : k < ks.length := by omega
      have hkc : wr.cell? ⟨gk1, k, none⟩ = some (.string ks[k]) ∧ gk1 < w1.heap.size := by
        obtain ⟨b, o, e, hb, hc⟩ := (HKR.out.below HB2.out).2 (by omega)
        injection e with e
        injection e with e3 e4
        subst e3 e4
        have := hc k (.string ks[k]) (by simp [List.getElem?_eq_getElem hkn])
        rw [Nat.zero_add] at this
        exact ⟨this, hb⟩
      obtain ⟨e1, hgl⟩ := hkc
      have hkt : ks.take (k + 1) = ks.take k ++ [ks[k]] := List.take_succ_eq_append_getElem hkn
      have hpr : ∀ y ∈ ks.take k, sLt y ks[k] = true := fun y hy => by
        have h2 : (ks.take (k + 1)).Pairwise (fun x y => sLt x y = true) := HKD.out.1.sublist (List.take_sublist _ _)
        rw [hkt, List.pairwise_append] at h2
        exact h2.2.2 y hy _ (by simp)
      have HINS : Hid (∀ m, m ≤ out.length → (∀ j (hj : j < out.length), m ≤ j → (out[j]).n < cntV hf L ks[k] now) → (∀ (hj : m - 1 < out.length), 0 < m → ¬ (out[m - 1]).n < cntV hf L ks[k] now) → TopRf hf now L (ks.take (k + 1)) (out.take m ++ [⟨ks[k], cntV hf L ks[k] now⟩] ++ out.drop m)) := Lib.hid (fun m hm h1 h2 => by rw [hkt]; exact HO.out.put hpr hm h1 h2)
      clear hkt hpr HO
      generalize ks[k] = x at *
      have qA := fun W (hb : Below w.heap.size w W) => rat11_any mb F hf cnt L x now W (HRC.out.below hb) HOK.out hlen hh n1
      generalize cntV hf L x now = cv at *
      have QA := Lib.hid qA
      clear qA
      have hcat : CntsAt wr wr.heap.size (some ⟨g, 0, none⟩) out := Reads.of_own hown
      have HCAT := Lib.hid hcat
      have HBW : Hid (Below w.heap.size w wr) := Lib.hid (HB1.out.trans (HB2.out.mono HB1.out.size))
      have hgw : gk1 < wr.heap.size := Nat.lt_of_lt_of_le hgl HB2.out.size
      clear hown hcat hcap hgl
      have hKe : Below wr.heap.size wr wr.drew := (Below.refl _ _).drew
      go_wp2_with fail
      refine heldStart 13 (S := fun W => W.cell? ⟨gk1, k, none⟩ = some (.string x)) (by kernel_rfl) ?_ (fun hHeld => ?_)
      · exact (Below.cell (p := ⟨gk1, k, none⟩) (by first | exact hKe | exact hKe.alloc hKe.size _) hgw).trans e1
      refine heldTake 0 (v := ?_) (by simp only [List.getElem?_toArray, List.getElem?_cons_succ, List.getElem?_cons_zero]; rfl) (by kernel_rfl) (by intro _ _ _ h; exact h) (by rfl) (by assumption) ?_ ?_
      rotate_left
      · intro W hSw; (try dsimp only at hSw); go_simp; try with_reducible rfl
      simp only [Act.put, List.setIfInBounds_toArray, List.set_cons_zero, List.set_cons_succ]
      refine heldTake 1 (v := ?_) (by simp only [List.getElem?_toArray, List.getElem?_cons_succ, List.getElem?_cons_zero]; rfl) (by kernel_rfl) (by intro _ _ _ h; exact h) (by rfl) (by assumption) ?_ ?_
      rotate_left
      · intro W hSw; (try dsimp only at hSw); go_simp; try with_reducible rfl
      simp only [Act.put, List.setIfInBounds_toArray, List.set_cons_zero, List.set_cons_succ]
      refine heldTake 2 (v := ?_) (by simp only [List.getElem?_toArray, List.getElem?_cons_succ, List.getElem?_cons_zero]; rfl) (by kernel_rfl) (by intro _ _ _ h; exact h) (by rfl) (by assumption) ?_ ?_
      rotate_left
      · intro W hSw; (try dsimp only at hSw); go_simp; try with_reducible rfl
      simp only [Act.put, List.setIfInBounds_toArray, List.set_cons_zero, List.set_cons_succ]
      refine heldTake 3 (v := ?_) (by simp only [List.getElem?_toArray, List.getElem?_cons_succ, List.getElem?_cons_zero]; rfl) (by kernel_rfl) (by intro _ _ _ h; exact h) (by rfl) (by assumption) ?_ ?_
      rotate_left
      · intro W hSw; (try dsimp only at hSw); go_simp; try with_reducible rfl
      simp only [Act.put, List.setIfInBounds_toArray, List.set_cons_zero, List.set_cons_succ]
      refine heldTake 4 (v := ?_) (by simp only [List.getElem?_toArray, List.getElem?_cons_succ, List.getElem?_cons_zero]; rfl) (by kernel_rfl) (by intro _ _ _ h; exact h) (by rfl) (by assumption) ?_ ?_
      rotate_left
      · intro W hSw; (try dsimp only at hSw); go_simp; try with_reducible rfl
      simp only [Act.put, List.setIfInBounds_toArray, List.set_cons_zero, List.set_cons_succ]
      refine heldTake 5 (v := ?_) (by simp only [List.getElem?_toArray, List.getElem?_cons_succ, List.getElem?_cons_zero]; rfl) (by kernel_rfl) (by intro _ _ _ h; exact h) (by rfl) (by assumption) ?_ ?_
      rotate_left
      · intro W hSw; (try dsimp only at hSw); go_simp; try with_reducible rfl
      simp only [Act.put, List.setIfInBounds_toArray, List.set_cons_zero, List.set_cons_succ]
      refine heldTake 6 (v := ?_) (by simp only [List.getElem?_toArray, List.getElem?_cons_succ, List.getElem?_cons_zero]; rfl) (by kernel_rfl) (by intro _ _ _ h; exact h) (by rfl) (by assumption) ?_ ?_
      rotate_left
      · intro W hSw; (try dsimp only at hSw); go_simp; try with_reducible rfl
      simp only [Act.put, List.setIfInBounds_toArray, List.set_cons_zero, List.set_cons_succ]
      refine heldTake 7 (v := ?_) (by simp only [List.getElem?_toArray, List.getElem?_cons_succ, List.getElem?_cons_zero]; rfl) (by kernel_rfl) (by intro _ _ _ h; exact h) (by rfl) (by assumption) ?_ ?_
      rotate_left
      · intro W hSw; (try dsimp only at hSw); go_simp; try with_reducible rfl
      simp only [Act.put, List.setIfInBounds_toArray, List.set_cons_zero, List.set_cons_succ]
      refine heldTake 8 (v := ?_) (by simp only [List.getElem?_toArray, List.getElem?_cons_succ, List.getElem?_cons_zero]; rfl) (by kernel_rfl) (by intro _ _ _ h; exact h) (by rfl) (by assumption) ?_ ?_
      rotate_left
      · intro W hSw; (try dsimp only at hSw); go_simp; try with_reducible rfl
      simp only [Act.put, List.setIfInBounds_toArray, List.set_cons_zero, List.set_cons_succ]
      refine heldTake 9 (v := ?_) (by simp only [List.getElem?_toArray, List.getElem?_cons_succ, List.getElem?_cons_zero]; rfl) (by kernel_rfl) (by intro _ _ _ h; exact h) (by rfl) (by assumption) ?_ ?_
      rotate_left
      · intro W hSw; (try dsimp only at hSw); go_simp; try with_reducible rfl
      simp only [Act.put, List.setIfInBounds_toArray, List.set_cons_zero, List.set_cons_succ]
      refine heldFork 10 12 (by kernel_rfl) ?_ ?_
      · refine heldOp 10 (by simp only [List.getElem?_toArray, List.getElem?_cons_succ, List.getElem?_cons_zero]; rfl) (fun K hK => ?_)
        go_simp
        refine (QA.out _ (HBW.out.trans (hKe.mono HBW.out.size))).mono ?_
        rintro e w7 ⟨rfl, hb7⟩
        have hK0 : Below wr.heap.size wr w7 := hKe.trans (hb7.mono hKe.size)
        clear hKe
        have hKe := hK0
        clear hK0 hb7
        go_wp2_with fail
        refine hK.out _ _ ?_ (fun hHeld => ?_)
        · exact (Below.cell (p := ⟨gk1, k, none⟩) (by first | exact hKe | exact hKe.alloc hKe.size _) hgw).trans e1
        clear hK K
        (try simp only [Act.put, List.setIfInBounds_toArray, List.set_cons_zero, List.set_cons_succ])
        refine heldTake 11 (v := ?_) (by simp only [List.getElem?_toArray, List.getElem?_cons_succ, List.getElem?_cons_zero]; rfl) (by kernel_rfl) (by intro _ _ _ h; exact h) (by rfl) (by assumption) ?_ ?_
        rotate_left
        · intro W hSw; (try dsimp only at hSw); go_simp; try with_reducible rfl
        simp only [Act.put, List.setIfInBounds_toArray, List.set_cons_zero, List.set_cons_succ]
        refine heldCall 12 (by simp only [List.getElem?_toArray, List.getElem?_cons_succ, List.getElem?_cons_zero]; rfl) (by kernel_rfl) (fun K hK => ?_)
        go_simp
        refine hK.out _ _ ?_ (fun hHeld => ?_)
        · exact (Below.cell (p := ⟨gk1, k, none⟩) (by first | exact hKe | exact hKe.alloc hKe.size _) hgw).trans e1
        clear hK K
        (try simp only [Act.put, List.setIfInBounds_toArray, List.set_cons_zero, List.set_cons_succ])
        refine heldLast 13 (by simp only [List.getElem?_toArray, List.getElem?_cons_succ, List.getElem?_cons_zero]; rfl) (by kernel_rfl) rfl (fun K hK => ?_)
        go_simp
        refine hK.out _ _ ?_
        clear hK K
        (try simp only [Act.put, List.setIfInBounds_toArray, List.set_cons_zero, List.set_cons_succ])
        refine heldDone (by kernel_rfl) ?_ _
        have hbx : (w7.alloc (.cells #[.string x, .int .i64 cv] 77)).heap[w7.heap.size]? = some (.cells #[.string x, .int .i64 cv] 77 (0, 0)) := heap_alloc_new w7 _
        have hw2b : Below wr.heap.size wr (w7.alloc (.cells #[.string x, .int .i64 cv] 77)) := hKe.alloc hKe.size _
        clear hKe hHeld e1
        generalize w7.alloc (.cells #[.string x, .int .i64 cv] 77) = w2 at *
        generalize w7.heap.size = Bx at *
        have HW2 : Hid (Below wr.heap.size wr w2) := Lib.hid hw2b
        have HBX : Hid (Bx < w2.heap.size) := Lib.hid (Array.getElem?_eq_some_iff.1 hbx).1
        have x1 : w2.cell? ⟨Bx, 0, none⟩ = some (.string x) := by simp [World.cell?, hbx]
        have x2 : w2.cell? ⟨Bx, 1, none⟩ = some (.int .i64 cv) := by simp [World.cell?, hbx]
        clear hw2b hbx
        go_wp2_with fail
        generalize gk = g2 at *
        obtain ⟨wo, rfl⟩ : ∃ wo : World, wo = wr := ⟨_, rfl⟩
        go_loopg [11] out.length (fun rest a wx => ∃ m : Nat, a = .int .i64 m ∧ Hid (m = rest) ∧ Hid (m ≤ out.length) ∧ Hid (∀ j (hj : j < out.length), m ≤ j → (out[j]).n < cv) ∧ Below w2.heap.size w2 wx)
        case atStart => exact ⟨out.length, rfl, Lib.hid rfl, Lib.hid (Nat.le_refl _), Lib.hid (fun j hj h => by omega), Below.refl _ _⟩
        case round =>
          obtain ⟨m, rfl, HM, HML, HG, hbm⟩ := hrel
          have hmle : m ≤ out.length := HML.out
          have y1 := (hbm.cell (p := ⟨Bx, 0, none⟩) HBX.out).trans x1
          have y2 := (hbm.cell (p := ⟨Bx, 1, none⟩) HBX.out).trans x2
          by_cases h0 : m = 0
          · have HIN := Lib.hid (HINS.out m hmle HG.out (fun _ h => by omega))
            have hgt : decide (0 < (m : Int)) = false := by simp; omega
            have hgtN : decide (0 < m) = false := by simp; omega
            have hgtP : ¬ 0 < m := by omega
            have hgtI : ¬ (0 : Int) < (m : Int) := by omega
            clear h0
            go_wp2_with fail
            go_quiet (fail)
            have hbm2 : Below w2.heap.size w2 (wr.drewN nq) := below_drewN hbm _
            clear y1 y2 hbm HG
            go_wp2_with fail
            generalize wr.drewN nq = w6 at *
            have hbm := hbm2
            clear hbm2
            have hmc : (m : Int) ≤ (cq : Int) := by omega
            have hz6 := hbm.size
            have hbl6 : Bx < w6.heap.size := Nat.lt_of_lt_of_le HBX.out hz6
            have e1 := (hbm.cell (p := ⟨Bx, 0, none⟩) HBX.out).trans x1
            have e2 := (hbm.cell (p := ⟨Bx, 1, none⟩) HBX.out).trans x2
            have hrA : Reads w6 w6.heap.size 2 (some ⟨g, 0, none⟩) out.length (out.flatMap cntEnc) := (HCAT.out.below (HW2.out.trans (hbm.mono HW2.out.size))).more (Nat.le_trans HW2.out.size hz6)
            have HB6 : Hid (Below w1.heap.size w1 w6) := Lib.hid (HB2.out.trans ((HW2.out.mono HB2.out.size).trans (hbm.mono (Nat.le_trans HB2.out.size HW2.out.size))))
            have HZ6 : Hid (w1.heap.size ≤ w6.heap.size) := Lib.hid (HB6.out.size)
            clear hbm
            have hrO : Reads w6 w6.heap.size 2 (some ⟨g, 0, none⟩) m ((out.take m).flatMap cntEnc) := by
              have := hrA.take hmle
              rw [flat_take2 cntEnc (fun _ => rfl)] at this
              exact this
            refine heldStart 8 (S := fun W => W.cell? ⟨Bx, 0, none⟩ = some (.string x) ∧ W.cell? ⟨Bx, 1, none⟩ = some (.int .i64 cv)) (by kernel_rfl) ?_ (fun hHeld => ?_)
            · exact ⟨(Below.cell (p := ⟨Bx, 0, none⟩) (by repeat (first | exact Below.refl _ _ | exact hB4 | exact hB5 | refine Below.alloc ?_ (by first | (simp; done) | (have := hB4.size; simp; omega) | (have := hB4.size; omega)) _ | refine Below.drew ?_)) hbl6).trans e1, (Below.cell (p := ⟨Bx, 1, none⟩) (by repeat (first | exact Below.refl _ _ | exact hB4 | exact hB5 | refine Below.alloc ?_ (by first | (simp; done) | (have := hB4.size; simp; omega) | (have := hB4.size; omega)) _ | refine Below.drew ?_)) hbl6).trans e2⟩
            refine heldTake 1 (v := ?_) (by simp only [List.getElem?_toArray, List.getElem?_cons_succ, List.getElem?_cons_zero]; rfl) (by kernel_rfl) (by intro _ _ _ h; exact h) (by rfl) (by assumption) ?_ ?_
            rotate_left
            · intro W hSw; (try dsimp only at hSw); go_simp; try with_reducible rfl
            simp only [Act.put, List.setIfInBounds_toArray, List.set_cons_zero, List.set_cons_succ]
            refine heldTake 2 (v := ?_) (by simp only [List.getElem?_toArray, List.getElem?_cons_succ, List.getElem?_cons_zero]; rfl) (by kernel_rfl) (by intro _ _ _ h; exact h) (by rfl) (by assumption) ?_ ?_
            rotate_left
            · intro W hSw; (try dsimp only at hSw); go_simp; try with_reducible rfl
            simp only [Act.put, List.setIfInBounds_toArray, List.set_cons_zero, List.set_cons_succ]
            refine heldTake 3 (v := ?_) (by simp only [List.getElem?_toArray, List.getElem?_cons_succ, List.getElem?_cons_zero]; rfl) (by kernel_rfl) (by intro _ _ _ h; exact h) (by rfl) (by assumption) ?_ ?_
            rotate_left
            · intro W hSw; (try dsimp only at hSw); go_simp; try with_reducible rfl
            simp only [Act.put, List.setIfInBounds_toArray, List.set_cons_zero, List.set_cons_succ]
            refine heldTake 5 (v := ?_) (by simp only [List.getElem?_toArray, List.getElem?_cons_succ, List.getElem?_cons_zero]; rfl) (by kernel_rfl) (by intro _ _ _ h; exact h) (by rfl) (by assumption) ?_ ?_
            rotate_left
            · intro W hSw; (try dsimp only at hSw); go_simp; try with_reducible rfl
            simp only [Act.put, List.setIfInBounds_toArray, List.set_cons_zero, List.set_cons_succ]
            refine heldFork 0 6 (by kernel_rfl) ?_ ?_
            · refine heldOp 0 (by simp only [List.getElem?_toArray, List.getElem?_cons_succ, List.getElem?_cons_zero]; rfl) (fun K hK => ?_)
              go_simp
              refine hK.out _ _ ?_ (fun hHeld => ?_)
              · exact ⟨(Below.cell (p := ⟨Bx, 0, none⟩) (by repeat (first | exact Below.refl _ _ | exact hB4 | exact hB5 | refine Below.alloc ?_ (by first | (simp; done) | (have := hB4.size; simp; omega) | (have := hB4.size; omega)) _ | refine Below.drew ?_)) hbl6).trans e1, (Below.cell (p := ⟨Bx, 1, none⟩) (by repeat (first | exact Below.refl _ _ | exact hB4 | exact hB5 | refine Below.alloc ?_ (by first | (simp; done) | (have := hB4.size; simp; omega) | (have := hB4.size; omega)) _ | refine Below.drew ?_)) hbl6).trans e2⟩
              clear hK K
              (try simp only [Act.put, List.setIfInBounds_toArray, List.set_cons_zero, List.set_cons_succ])
              refine heldFork 4 6 (by kernel_rfl) ?_ ?_
              · refine heldOpLaw 4 (by simp only [List.getElem?_toArray, List.getElem?_cons_succ, List.getElem?_cons_zero]; rfl) (by rfl) (fun K hK => ?_)
                refine wp_append_to _ (.tmp 52) (.tmp 55) _ rfl w6.heap.size 77 (.agg #[.string ByteArray.empty, .int .i64 0]) 2 24 Try.underlying61 cnt_info rfl (by omega) (some ⟨_, 0, none⟩) 0 0 [] rfl (own_empty (by simp) (by first | exact heapN1 _ _ | exact heapN3 _ _ _ | exact heapN2 _ _ _)) (some ⟨g, 0, none⟩) w6.heap.size m cq ((out.take m).flatMap cntEnc) rfl (hrO.below (by repeat (first | exact Below.refl _ _ | exact hB4 | exact hB5 | refine Below.alloc ?_ (by first | (simp; done) | (have := hB4.size; simp; omega) | (have := hB4.size; omega)) _ | refine Below.drew ?_))) (fun h => by first | rfl | cases h) (cnts_one _) m (by omega) (by unfold maxLen; omega) (by omega) (by first | (simp; done) | (simp; omega)) ?_
                intro A4 c4 w4 hown4 hg4 hb4
                have hB4 : Below w6.heap.size w6 w4 := Below.trans (by repeat (first | exact Below.refl _ _ | exact hB4 | exact hB5 | refine Below.alloc ?_ (by first | (simp; done) | (have := hB4.size; simp; omega) | (have := hB4.size; omega)) _ | refine Below.drew ?_)) hb4
                simp only [List.nil_append] at hown4
                refine hK.out _ _ ?_ (fun hHeld => ?_)
                · exact ⟨(Below.cell (p := ⟨Bx, 0, none⟩) (by repeat (first | exact Below.refl _ _ | exact hB4 | exact hB5 | refine Below.alloc ?_ (by first | (simp; done) | (have := hB4.size; simp; omega) | (have := hB4.size; omega)) _ | refine Below.drew ?_)) hbl6).trans e1, (Below.cell (p := ⟨Bx, 1, none⟩) (by repeat (first | exact Below.refl _ _ | exact hB4 | exact hB5 | refine Below.alloc ?_ (by first | (simp; done) | (have := hB4.size; simp; omega) | (have := hB4.size; omega)) _ | refine Below.drew ?_)) hbl6).trans e2⟩
                clear hK K
                (try simp only [Act.put, List.setIfInBounds_toArray, List.set_cons_zero, List.set_cons_succ])
                refine heldCall 6 (by simp only [List.getElem?_toArray, List.getElem?_cons_succ, List.getElem?_cons_zero]; rfl) (by kernel_rfl) (fun K hK => ?_)
                go_simp
                refine hK.out _ _ ?_ (fun hHeld => ?_)
                · exact ⟨(Below.cell (p := ⟨Bx, 0, none⟩) (by repeat (first | exact Below.refl _ _ | exact hB4 | exact hB5 | refine Below.alloc ?_ (by first | (simp; done) | (have := hB4.size; simp; omega) | (have := hB4.size; omega)) _ | refine Below.drew ?_)) hbl6).trans e1, (Below.cell (p := ⟨Bx, 1, none⟩) (by repeat (first | exact Below.refl _ _ | exact hB4 | exact hB5 | refine Below.alloc ?_ (by first | (simp; done) | (have := hB4.size; simp; omega) | (have := hB4.size; omega)) _ | refine Below.drew ?_)) hbl6).trans e2⟩
                clear hK K
                (try simp only [Act.put, List.setIfInBounds_toArray, List.set_cons_zero, List.set_cons_succ])
                refine heldLaw 7 (by simp only [List.getElem?_toArray, List.getElem?_cons_succ, List.getElem?_cons_zero]; rfl) (by kernel_rfl) (by rfl) (fun K hK => ?_)
                refine wp_append_to _ (.tmp 56) (.tmp 58) _ rfl w6.heap.size 77 (.agg #[.string ByteArray.empty, .int .i64 0]) 2 24 Try.underlying61 cnt_info rfl (by omega) A4 m c4 ((out.take m).flatMap cntEnc) rfl (hown4.alloc _) (some ⟨_, 0, none⟩) _ 1 1 [.string x, .int .i64 cv] rfl (reads_blk (t := 77) (fr := (0, 0)) (heapM1 _ _) rfl) (fun h => by cases h) (by intro u hu; simp at hu; rcases hu with rfl | rfl <;> rfl) (m + 1) rfl (by unfold maxLen; omega) (by omega) (by have := hB4.size; first | (simp; done) | (simp; omega) | omega) ?_
                intro A5 c5 w5 hown5 hg5 hb5
                have hB5 : Below w6.heap.size w6 w5 := Below.trans (by repeat (first | exact Below.refl _ _ | exact hB4 | exact hB5 | refine Below.alloc ?_ (by first | (simp; done) | (have := hB4.size; simp; omega) | (have := hB4.size; omega)) _ | refine Below.drew ?_)) hb5
                refine hK.out _ _ ?_ (fun hHeld => ?_)
                · exact ⟨(Below.cell (p := ⟨Bx, 0, none⟩) (by repeat (first | exact Below.refl _ _ | exact hB4 | exact hB5 | refine Below.alloc ?_ (by first | (simp; done) | (have := hB4.size; simp; omega) | (have := hB4.size; omega)) _ | refine Below.drew ?_)) hbl6).trans e1, (Below.cell (p := ⟨Bx, 1, none⟩) (by repeat (first | exact Below.refl _ _ | exact hB4 | exact hB5 | refine Below.alloc ?_ (by first | (simp; done) | (have := hB4.size; simp; omega) | (have := hB4.size; omega)) _ | refine Below.drew ?_)) hbl6).trans e2⟩
                clear hK K
                (try simp only [Act.put, List.setIfInBounds_toArray, List.set_cons_zero, List.set_cons_succ])
                refine heldTake 8 (v := ?_) (by simp only [List.getElem?_toArray, List.getElem?_cons_succ, List.getElem?_cons_zero]; rfl) (by kernel_rfl) (by intro _ _ _ h; exact h) (by rfl) (by assumption) ?_ ?_
                rotate_left
                · intro W hSw; (try dsimp only at hSw); go_simp; try with_reducible rfl
                simp only [Act.put, List.setIfInBounds_toArray, List.set_cons_zero, List.set_cons_succ]
                refine heldDone (by kernel_rfl) ?_ _
                have hz5 : w6.heap.size ≤ w5.heap.size := hB5.size
                have hrD := hrA.below hB5
                by_cases hq : cq = m
                · have hR1 : Reads w5 w6.heap.size 2 (some ⟨g, 0, none⟩) (out.length - m) ((out.drop m).flatMap cntEnc) := ⟨by rw [flat_len (e := cntEnc) (k := 2) (fun _ => rfl), List.length_drop], fun hp => by omega⟩
                  have hR2 : Reads w5 w6.heap.size 2 (some ⟨g, 0, none⟩) 0 ((out.drop m).flatMap cntEnc) := ⟨by rw [flat_len (e := cntEnc) (k := 2) (fun _ => rfl), List.length_drop, show out.length - m = 0 by omega], fun hp => by omega⟩
                  go_wp2_with (at_builtin; refine wpList_append_to w5 (by rfl) (.tmp 60) (.tmp 63) _ rfl w6.heap.size 77 (.agg #[.string ByteArray.empty, .int .i64 0]) 2 24 Try.underlying61 cnt_info rfl (by omega) A5 (m + 1) c5 _ rfl hown5 _ w6.heap.size _ _ ((out.drop m).flatMap cntEnc) rfl (by first | exact hR1 | exact hR2) (fun h => by cases h) (cnts_one _) (out.length + 1) (by omega) (by unfold maxLen; omega) (by omega) (by omega) ?_; intro A7 c7 w7 hown7 hg7 hb7)
                  obtain ⟨g7, cap7, hv7, _, _⟩ := hown7.form (by omega)
                  injection hv7 with hv7
                  subst hv7
                  go_roundg (g2 - 1)
                  case measure => have := HK.out; omega
                  case rel =>
                    have hln : (out.take m ++ [(⟨x, cv⟩ : CntV)] ++ out.drop m).length = out.length + 1 := by simp; omega
                    refine ⟨k + 1, g7, c7, out.take m ++ [(⟨x, cv⟩ : CntV)] ++ out.drop m, by go_num, Lib.hid (by have := HK.out; omega), by rw [hln], HIN, ?_, Lib.hid (HB6.out.trans ((hB5.mono HZ6.out).trans (hb7.mono HZ6.out)))⟩
                    rw [hln, List.flatMap_append, List.flatMap_append]
                    exact own_base hown7 HZ6.out
                · have hR1 := hrD.drop (m := m) (c := cq) (by omega) (by omega) rfl
                  rw [if_neg hq] at hR1
                  rw [flat_dropD (e := cntEnc) (k := 2) (fun _ => rfl), Nat.zero_add] at hR1
                  have hR2 := hR1
                  go_wp2_with (at_builtin; refine wpList_append_to w5 (by rfl) (.tmp 60) (.tmp 63) _ rfl w6.heap.size 77 (.agg #[.string ByteArray.empty, .int .i64 0]) 2 24 Try.underlying61 cnt_info rfl (by omega) A5 (m + 1) c5 _ rfl hown5 _ w6.heap.size _ _ ((out.drop m).flatMap cntEnc) rfl (by first | exact hR1 | exact hR2) (fun h => by cases h) (cnts_one _) (out.length + 1) (by omega) (by unfold maxLen; omega) (by omega) (by omega) ?_; intro A7 c7 w7 hown7 hg7 hb7)
                  obtain ⟨g7, cap7, hv7, _, _⟩ := hown7.form (by omega)
                  injection hv7 with hv7
                  subst hv7
                  go_roundg (g2 - 1)
                  case measure => have := HK.out; omega
                  case rel =>
                    have hln : (out.take m ++ [(⟨x, cv⟩ : CntV)] ++ out.drop m).length = out.length + 1 := by simp; omega
                    refine ⟨k + 1, g7, c7, out.take m ++ [(⟨x, cv⟩ : CntV)] ++ out.drop m, by go_num, Lib.hid (by have := HK.out; omega), by rw [hln], HIN, ?_, Lib.hid (HB6.out.trans ((hB5.mono HZ6.out).trans (hb7.mono HZ6.out)))⟩
                    rw [hln, List.flatMap_append, List.flatMap_append]
                    exact own_base hown7 HZ6.out
              · refine heldOp 6 (by simp only [List.getElem?_toArray, List.getElem?_cons_succ, List.getElem?_cons_zero]; rfl) (fun K hK => ?_)
                go_simp
                refine hK.out _ _ ?_ (fun hHeld => ?_)
                · exact ⟨(Below.cell (p := ⟨Bx, 0, none⟩) (by repeat (first | exact Below.refl _ _ | exact hB4 | exact hB5 | refine Below.alloc ?_ (by first | (simp; done) | (have := hB4.size; simp; omega) | (have := hB4.size; omega)) _ | refine Below.drew ?_)) hbl6).trans e1, (Below.cell (p := ⟨Bx, 1, none⟩) (by repeat (first | exact Below.refl _ _ | exact hB4 | exact hB5 | refine Below.alloc ?_ (by first | (simp; done) | (have := hB4.size; simp; omega) | (have := hB4.size; omega)) _ | refine Below.drew ?_)) hbl6).trans e2⟩
                clear hK K
                (try simp only [Act.put, List.setIfInBounds_toArray, List.set_cons_zero, List.set_cons_succ])
                refine heldLaw 4 (by simp only [List.getElem?_toArray, List.getElem?_cons_succ, List.getElem?_cons_zero]; rfl) (by kernel_rfl) (by rfl) (fun K hK => ?_)
                refine wp_append_to _ (.tmp 52) (.tmp 55) _ rfl w6.heap.size 77 (.agg #[.string ByteArray.empty, .int .i64 0]) 2 24 Try.underlying61 cnt_info rfl (by omega) (some ⟨_, 0, none⟩) 0 0 [] rfl (own_empty (by simp) (by first | exact heapN1 _ _ | exact heapN3 _ _ _ | exact heapN2 _ _ _)) (some ⟨g, 0, none⟩) w6.heap.size m cq ((out.take m).flatMap cntEnc) rfl (hrO.below (by repeat (first | exact Below.refl _ _ | exact hB4 | exact hB5 | refine Below.alloc ?_ (by first | (simp; done) | (have := hB4.size; simp; omega) | (have := hB4.size; omega)) _ | refine Below.drew ?_))) (fun h => by first | rfl | cases h) (cnts_one _) m (by omega) (by unfold maxLen; omega) (by omega) (by first | (simp; done) | (simp; omega)) ?_
                intro A4 c4 w4 hown4 hg4 hb4
                have hB4 : Below w6.heap.size w6 w4 := Below.trans (by repeat (first | exact Below.refl _ _ | exact hB4 | exact hB5 | refine Below.alloc ?_ (by first | (simp; done) | (have := hB4.size; simp; omega) | (have := hB4.size; omega)) _ | refine Below.drew ?_)) hb4
                simp only [List.nil_append] at hown4
                refine hK.out _ _ ?_ (fun hHeld => ?_)
                · exact ⟨(Below.cell (p := ⟨Bx, 0, none⟩) (by repeat (first | exact Below.refl _ _ | exact hB4 | exact hB5 | refine Below.alloc ?_ (by first | (simp; done) | (have := hB4.size; simp; omega) | (have := hB4.size; omega)) _ | refine Below.drew ?_)) hbl6).trans e1, (Below.cell (p := ⟨Bx, 1, none⟩) (by repeat (first | exact Below.refl _ _ | exact hB4 | exact hB5 | refine Below.alloc ?_ (by first | (simp; done) | (have := hB4.size; simp; omega) | (have := hB4.size; omega)) _ | refine Below.drew ?_)) hbl6).trans e2⟩
                clear hK K
                (try simp only [Act.put, List.setIfInBounds_toArray, List.set_cons_zero, List.set_cons_succ])
                refine heldLaw 7 (by simp only [List.getElem?_toArray, List.getElem?_cons_succ, List.getElem?_cons_zero]; rfl) (by kernel_rfl) (by rfl) (fun K hK => ?_)
                refine wp_append_to _ (.tmp 56) (.tmp 58) _ rfl w6.heap.size 77 (.agg #[.string ByteArray.empty, .int .i64 0]) 2 24 Try.underlying61 cnt_info rfl (by omega) A4 m c4 ((out.take m).flatMap cntEnc) rfl hown4 (some ⟨_, 0, none⟩) _ 1 1 [.string x, .int .i64 cv] rfl (reads_blk (t := 77) (fr := (0, 0)) ((hg4.block _ (by first | (simp; done) | (simp; omega)) (by simp [Value.ownBlock])).trans (by first | exact heapN2 _ _ _ | exact heapN3 _ _ _)) rfl) (fun h => by cases h) (by intro u hu; simp at hu; rcases hu with rfl | rfl <;> rfl) (m + 1) rfl (by unfold maxLen; omega) (by omega) (by have := hB4.size; first | (simp; done) | (simp; omega) | omega) ?_
                intro A5 c5 w5 hown5 hg5 hb5
                have hB5 : Below w6.heap.size w6 w5 := Below.trans (by repeat (first | exact Below.refl _ _ | exact hB4 | exact hB5 | refine Below.alloc ?_ (by first | (simp; done) | (have := hB4.size; simp; omega) | (have := hB4.size; omega)) _ | refine Below.drew ?_)) hb5
                refine hK.out _ _ ?_ (fun hHeld => ?_)
                · exact ⟨(Below.cell (p := ⟨Bx, 0, none⟩) (by repeat (first | exact Below.refl _ _ | exact hB4 | exact hB5 | refine Below.alloc ?_ (by first | (simp; done) | (have := hB4.size; simp; omega) | (have := hB4.size; omega)) _ | refine Below.drew ?_)) hbl6).trans e1, (Below.cell (p := ⟨Bx, 1, none⟩) (by repeat (first | exact Below.refl _ _ | exact hB4 | exact hB5 | refine Below.alloc ?_ (by first | (simp; done) | (have := hB4.size; simp; omega) | (have := hB4.size; omega)) _ | refine Below.drew ?_)) hbl6).trans e2⟩
                clear hK K
                (try simp only [Act.put, List.setIfInBounds_toArray, List.set_cons_zero, List.set_cons_succ])
                refine heldTake 8 (v := ?_) (by simp only [List.getElem?_toArray, List.getElem?_cons_succ, List.getElem?_cons_zero]; rfl) (by kernel_rfl) (by intro _ _ _ h; exact h) (by rfl) (by assumption) ?_ ?_
                rotate_left
                · intro W hSw; (try dsimp only at hSw); go_simp; try with_reducible rfl
                simp only [Act.put, List.setIfInBounds_toArray, List.set_cons_zero, List.set_cons_succ]
                refine heldDone (by kernel_rfl) ?_ _
                have hz5 : w6.heap.size ≤ w5.heap.size := hB5.size
                have hrD := hrA.below hB5
                by_cases hq : cq = m
                · have hR1 : Reads w5 w6.heap.size 2 (some ⟨g, 0, none⟩) (out.length - m) ((out.drop m).flatMap cntEnc) := ⟨by rw [flat_len (e := cntEnc) (k := 2) (fun _ => rfl), List.length_drop], fun hp => by omega⟩
                  have hR2 : Reads w5 w6.heap.size 2 (some ⟨g, 0, none⟩) 0 ((out.drop m).flatMap cntEnc) := ⟨by rw [flat_len (e := cntEnc) (k := 2) (fun _ => rfl), List.length_drop, show out.length - m = 0 by omega], fun hp => by omega⟩
                  go_wp2_with (at_builtin; refine wpList_append_to w5 (by rfl) (.tmp 60) (.tmp 63) _ rfl w6.heap.size 77 (.agg #[.string ByteArray.empty, .int .i64 0]) 2 24 Try.underlying61 cnt_info rfl (by omega) A5 (m + 1) c5 _ rfl hown5 _ w6.heap.size _ _ ((out.drop m).flatMap cntEnc) rfl (by first | exact hR1 | exact hR2) (fun h => by cases h) (cnts_one _) (out.length + 1) (by omega) (by unfold maxLen; omega) (by omega) (by omega) ?_; intro A7 c7 w7 hown7 hg7 hb7)
                  obtain ⟨g7, cap7, hv7, _, _⟩ := hown7.form (by omega)
                  injection hv7 with hv7
                  subst hv7
                  go_roundg (g2 - 1)
                  case measure => have := HK.out; omega
                  case rel =>
                    have hln : (out.take m ++ [(⟨x, cv⟩ : CntV)] ++ out.drop m).length = out.length + 1 := by simp; omega
                    refine ⟨k + 1, g7, c7, out.take m ++ [(⟨x, cv⟩ : CntV)] ++ out.drop m, by go_num, Lib.hid (by have := HK.out; omega), by rw [hln], HIN, ?_, Lib.hid (HB6.out.trans ((hB5.mono HZ6.out).trans (hb7.mono HZ6.out)))⟩
                    rw [hln, List.flatMap_append, List.flatMap_append]
                    exact own_base hown7 HZ6.out
                · have hR1 := hrD.drop (m := m) (c := cq) (by omega) (by omega) rfl
                  rw [if_neg hq] at hR1
                  rw [flat_dropD (e := cntEnc) (k := 2) (fun _ => rfl), Nat.zero_add] at hR1
                  have hR2 := hR1
                  go_wp2_with (at_builtin; refine wpList_append_to w5 (by rfl) (.tmp 60) (.tmp 63) _ rfl w6.heap.size 77 (.agg #[.string ByteArray.empty, .int .i64 0]) 2 24 Try.underlying61 cnt_info rfl (by omega) A5 (m + 1) c5 _ rfl hown5 _ w6.heap.size _ _ ((out.drop m).flatMap cntEnc) rfl (by first | exact hR1 | exact hR2) (fun h => by cases h) (cnts_one _) (out.length + 1) (by omega) (by unfold maxLen; omega) (by omega) (by omega) ?_; intro A7 c7 w7 hown7 hg7 hb7)
                  obtain ⟨g7, cap7, hv7, _, _⟩ := hown7.form (by omega)
                  injection hv7 with hv7
                  subst hv7
                  go_roundg (g2 - 1)
                  case measure => have := HK.out; omega
                  case rel =>
                    have hln : (out.take m ++ [(⟨x, cv⟩ : CntV)] ++ out.drop m).length = out.length + 1 := by simp; omega
                    refine ⟨k + 1, g7, c7, out.take m ++ [(⟨x, cv⟩ : CntV)] ++ out.drop m, by go_num, Lib.hid (by have := HK.out; omega), by rw [hln], HIN, ?_, Lib.hid (HB6.out.trans ((hB5.mono HZ6.out).trans (hb7.mono HZ6.out)))⟩
                    rw [hln, List.flatMap_append, List.flatMap_append]
                    exact own_base hown7 HZ6.out
            · refine heldOp 6 (by simp only [List.getElem?_toArray, List.getElem?_cons_succ, List.getElem?_cons_zero]; rfl) (fun K hK => ?_)
              go_simp
              refine hK.out _ _ ?_ (fun hHeld => ?_)
              · exact ⟨(Below.cell (p := ⟨Bx, 0, none⟩) (by repeat (first | exact Below.refl _ _ | exact hB4 | exact hB5 | refine Below.alloc ?_ (by first | (simp; done) | (have := hB4.size; simp; omega) | (have := hB4.size; omega)) _ | refine Below.drew ?_)) hbl6).trans e1, (Below.cell (p := ⟨Bx, 1, none⟩) (by repeat (first | exact Below.refl _ _ | exact hB4 | exact hB5 | refine Below.alloc ?_ (by first | (simp; done) | (have := hB4.size; simp; omega) | (have := hB4.size; omega)) _ | refine Below.drew ?_)) hbl6).trans e2⟩
              clear hK K
              (try simp only [Act.put, List.setIfInBounds_toArray, List.set_cons_zero, List.set_cons_succ])
              refine heldCall 0 (by simp only [List.getElem?_toArray, List.getElem?_cons_succ, List.getElem?_cons_zero]; rfl) (by kernel_rfl) (fun K hK => ?_)
              go_simp
              refine hK.out _ _ ?_ (fun hHeld => ?_)
              · exact ⟨(Below.cell (p := ⟨Bx, 0, none⟩) (by repeat (first | exact Below.refl _ _ | exact hB4 | exact hB5 | refine Below.alloc ?_ (by first | (simp; done) | (have := hB4.size; simp; omega) | (have := hB4.size; omega)) _ | refine Below.drew ?_)) hbl6).trans e1, (Below.cell (p := ⟨Bx, 1, none⟩) (by repeat (first | exact Below.refl _ _ | exact hB4 | exact hB5 | refine Below.alloc ?_ (by first | (simp; done) | (have := hB4.size; simp; omega) | (have := hB4.size; omega)) _ | refine Below.drew ?_)) hbl6).trans e2⟩
              clear hK K
              (try simp only [Act.put, List.setIfInBounds_toArray, List.set_cons_zero, List.set_cons_succ])
              refine heldLaw 4 (by simp only [List.getElem?_toArray, List.getElem?_cons_succ, List.getElem?_cons_zero]; rfl) (by kernel_rfl) (by rfl) (fun K hK => ?_)
              refine wp_append_to _ (.tmp 52) (.tmp 55) _ rfl w6.heap.size 77 (.agg #[.string ByteArray.empty, .int .i64 0]) 2 24 Try.underlying61 cnt_info rfl (by omega) (some ⟨_, 0, none⟩) 0 0 [] rfl (own_empty (by simp) (by first | exact heapN1 _ _ | exact heapN3 _ _ _ | exact heapN2 _ _ _)) (some ⟨g, 0, none⟩) w6.heap.size m cq ((out.take m).flatMap cntEnc) rfl (hrO.below (by repeat (first | exact Below.refl _ _ | exact hB4 | exact hB5 | refine Below.alloc ?_ (by first | (simp; done) | (have := hB4.size; simp; omega) | (have := hB4.size; omega)) _ | refine Below.drew ?_))) (fun h => by first | rfl | cases h) (cnts_one _) m (by omega) (by unfold maxLen; omega) (by omega) (by first | (simp; done) | (simp; omega)) ?_
              intro A4 c4 w4 hown4 hg4 hb4
              have hB4 : Below w6.heap.size w6 w4 := Below.trans (by repeat (first | exact Below.refl _ _ | exact hB4 | exact hB5 | refine Below.alloc ?_ (by first | (simp; done) | (have := hB4.size; simp; omega) | (have := hB4.size; omega)) _ | refine Below.drew ?_)) hb4
              simp only [List.nil_append] at hown4
              refine hK.out _ _ ?_ (fun hHeld => ?_)
              · exact ⟨(Below.cell (p := ⟨Bx, 0, none⟩) (by repeat (first | exact Below.refl _ _ | exact hB4 | exact hB5 | refine Below.alloc ?_ (by first | (simp; done) | (have := hB4.size; simp; omega) | (have := hB4.size; omega)) _ | refine Below.drew ?_)) hbl6).trans e1, (Below.cell (p := ⟨Bx, 1, none⟩) (by repeat (first | exact Below.refl _ _ | exact hB4 | exact hB5 | refine Below.alloc ?_ (by first | (simp; done) | (have := hB4.size; simp; omega) | (have := hB4.size; omega)) _ | refine Below.drew ?_)) hbl6).trans e2⟩
              clear hK K
              (try simp only [Act.put, List.setIfInBounds_toArray, List.set_cons_zero, List.set_cons_succ])
              refine heldLaw 7 (by simp only [List.getElem?_toArray, List.getElem?_cons_succ, List.getElem?_cons_zero]; rfl) (by kernel_rfl) (by rfl) (fun K hK => ?_)
              refine wp_append_to _ (.tmp 56) (.tmp 58) _ rfl w6.heap.size 77 (.agg #[.string ByteArray.empty, .int .i64 0]) 2 24 Try.underlying61 cnt_info rfl (by omega) A4 m c4 ((out.take m).flatMap cntEnc) rfl hown4 (some ⟨_, 0, none⟩) _ 1 1 [.string x, .int .i64 cv] rfl (reads_blk (t := 77) (fr := (0, 0)) ((hg4.block _ (by first | (simp; done) | (simp; omega)) (by simp [Value.ownBlock])).trans (by first | exact heapN2 _ _ _ | exact heapN3 _ _ _)) rfl) (fun h => by cases h) (by intro u hu; simp at hu; rcases hu with rfl | rfl <;> rfl) (m + 1) rfl (by unfold maxLen; omega) (by omega) (by have := hB4.size; first | (simp; done) | (simp; omega) | omega) ?_
              intro A5 c5 w5 hown5 hg5 hb5
              have hB5 : Below w6.heap.size w6 w5 := Below.trans (by repeat (first | exact Below.refl _ _ | exact hB4 | exact hB5 | refine Below.alloc ?_ (by first | (simp; done) | (have := hB4.size; simp; omega) | (have := hB4.size; omega)) _ | refine Below.drew ?_)) hb5
              refine hK.out _ _ ?_ (fun hHeld => ?_)
              · exact ⟨(Below.cell (p := ⟨Bx, 0, none⟩) (by repeat (first | exact Below.refl _ _ | exact hB4 | exact hB5 | refine Below.alloc ?_ (by first | (simp; done) | (have := hB4.size; simp; omega) | (have := hB4.size; omega)) _ | refine Below.drew ?_)) hbl6).trans e1, (Below.cell (p := ⟨Bx, 1, none⟩) (by repeat (first | exact Below.refl _ _ | exact hB4 | exact hB5 | refine Below.alloc ?_ (by first | (simp; done) | (have := hB4.size; simp; omega) | (have := hB4.size; omega)) _ | refine Below.drew ?_)) hbl6).trans e2⟩
              clear hK K
              (try simp only [Act.put, List.setIfInBounds_toArray, List.set_cons_zero, List.set_cons_succ])
              refine heldTake 8 (v := ?_) (by simp only [List.getElem?_toArray, List.getElem?_cons_succ, List.getElem?_cons_zero]; rfl) (by kernel_rfl) (by intro _ _ _ h; exact h) (by rfl) (by assumption) ?_ ?_
              rotate_left
              · intro W hSw; (try dsimp only at hSw); go_simp; try with_reducible rfl
              simp only [Act.put, List.setIfInBounds_toArray, List.set_cons_zero, List.set_cons_succ]
              refine heldDone (by kernel_rfl) ?_ _
              have hz5 : w6.heap.size ≤ w5.heap.size := hB5.size
              have hrD := hrA.below hB5
              by_cases hq : cq = m
              · have hR1 : Reads w5 w6.heap.size 2 (some ⟨g, 0, none⟩) (out.length - m) ((out.drop m).flatMap cntEnc) := ⟨by rw [flat_len (e := cntEnc) (k := 2) (fun _ => rfl), List.length_drop], fun hp => by omega⟩
                have hR2 : Reads w5 w6.heap.size 2 (some ⟨g, 0, none⟩) 0 ((out.drop m).flatMap cntEnc) := ⟨by rw [flat_len (e := cntEnc) (k := 2) (fun _ => rfl), List.length_drop, show out.length - m = 0 by omega], fun hp => by omega⟩
                go_wp2_with (at_builtin; refine wpList_append_to w5 (by rfl) (.tmp 60) (.tmp 63) _ rfl w6.heap.size 77 (.agg #[.string ByteArray.empty, .int .i64 0]) 2 24 Try.underlying61 cnt_info rfl (by omega) A5 (m + 1) c5 _ rfl hown5 _ w6.heap.size _ _ ((out.drop m).flatMap cntEnc) rfl (by first | exact hR1 | exact hR2) (fun h => by cases h) (cnts_one _) (out.length + 1) (by omega) (by unfold maxLen; omega) (by omega) (by omega) ?_; intro A7 c7 w7 hown7 hg7 hb7)
                obtain ⟨g7, cap7, hv7, _, _⟩ := hown7.form (by omega)
                injection hv7 with hv7
                subst hv7
                go_roundg (g2 - 1)
                case measure => have := HK.out; omega
                case rel =>
                  have hln : (out.take m ++ [(⟨x, cv⟩ : CntV)] ++ out.drop m).length = out.length + 1 := by simp; omega
                  refine ⟨k + 1, g7, c7, out.take m ++ [(⟨x, cv⟩ : CntV)] ++ out.drop m, by go_num, Lib.hid (by have := HK.out; omega), by rw [hln], HIN, ?_, Lib.hid (HB6.out.trans ((hB5.mono HZ6.out).trans (hb7.mono HZ6.out)))⟩
                  rw [hln, List.flatMap_append, List.flatMap_append]
                  exact own_base hown7 HZ6.out
              · have hR1 := hrD.drop (m := m) (c := cq) (by omega) (by omega) rfl
                rw [if_neg hq] at hR1
                rw [flat_dropD (e := cntEnc) (k := 2) (fun _ => rfl), Nat.zero_add] at hR1
                have hR2 := hR1
                go_wp2_with (at_builtin; refine wpList_append_to w5 (by rfl) (.tmp 60) (.tmp 63) _ rfl w6.heap.size 77 (.agg #[.string ByteArray.empty, .int .i64 0]) 2 24 Try.underlying61 cnt_info rfl (by omega) A5 (m + 1) c5 _ rfl hown5 _ w6.heap.size _ _ ((out.drop m).flatMap cntEnc) rfl (by first | exact hR1 | exact hR2) (fun h => by cases h) (cnts_one _) (out.length + 1) (by omega) (by unfold maxLen; omega) (by omega) (by omega) ?_; intro A7 c7 w7 hown7 hg7 hb7)
                obtain ⟨g7, cap7, hv7, _, _⟩ := hown7.form (by omega)
                injection hv7 with hv7
                subst hv7
                go_roundg (g2 - 1)
                case measure => have := HK.out; omega
                case rel =>
                  have hln : (out.take m ++ [(⟨x, cv⟩ : CntV)] ++ out.drop m).length = out.length + 1 := by simp; omega
                  refine ⟨k + 1, g7, c7, out.take m ++ [(⟨x, cv⟩ : CntV)] ++ out.drop m, by go_num, Lib.hid (by have := HK.out; omega), by rw [hln], HIN, ?_, Lib.hid (HB6.out.trans ((hB5.mono HZ6.out).trans (hb7.mono HZ6.out)))⟩
                  rw [hln, List.flatMap_append, List.flatMap_append]
                  exact own_base hown7 HZ6.out
          · have hm1 : m - 1 < out.length := by omega
            obtain ⟨b', o', e', hbl', f1, f2⟩ := (HCAT.out.below (HW2.out.trans (hbm.mono HW2.out.size))).one hm1
            injection e' with e'
            injection e' with e3 e4
            subst e3 e4
            rw [Nat.zero_add] at f1 f2
            have hj3 : ((m : Int) - 1).toNat = m - 1 := by omega
            have hw1 : IntKind.i64.wrap ((m : Int) - 1) = (m : Int) - 1 := IntWalk.i64_in _ (by omega)
            have hw2 : wrap64 ((m : Int) - 1) = (m : Int) - 1 := by unfold wrap64; omega
            have hgt : decide (0 < (m : Int)) = true := by simp; omega
            have hgtN : decide (0 < m) = true := by simp; omega
            have hgtP : 0 < m := by omega
            have hgtI : (0 : Int) < (m : Int) := by omega
            have hix1 : (0 : Int) ≤ (m : Int) - 1 := by omega
            have hix3 : (1 : Int) ≤ (m : Int) := by omega
            have hix2 : (m : Int) - 1 < (out.length : Int) := by omega
            have HIF : Hid (¬ (out[m - 1]).n < cv → TopRf hf now L (ks.take (k + 1)) (out.take m ++ [(⟨x, cv⟩ : CntV)] ++ out.drop m)) := Lib.hid (fun h => HINS.out m hmle HG.out (fun _ _ => by first | exact h | omega))
            have HGO : Hid ((out[m - 1]).n < cv → ∀ j (hj : j < out.length), m - 1 ≤ j → (out[j]).n < cv) := Lib.hid (fun h j hj hmj => by
              by_cases e : j = m - 1
              · subst e; exact h
              · exact HG.out j hj (by omega))
            generalize out[m - 1] = y at *
            by_cases hyx : y.n < cv
            · have HG2 := Lib.hid (HGO.out hyx)
              clear HIF HGO HG
              go_wp2_with fail
              go_quiet (fail)
              have hbm2 : Below w2.heap.size w2 (wr.drewN nq) := below_drewN hbm _
              go_wp2
              go_roundg (gk - 1)
              case measure => have := HM.out; omega
              case rel => exact ⟨m - 1, by go_num, Lib.hid (by have := HM.out; omega), Lib.hid (by omega), HG2, hbm2⟩
            · have HIN := Lib.hid (HIF.out hyx)
              clear HIF HGO HG
              go_wp2_with fail
              go_quiet (fail)
              have hbm2 : Below w2.heap.size w2 (wr.drewN nq) := below_drewN hbm _
              clear y1 y2 f1 f2 hbm hbl'
              go_wp2_with fail
              generalize wr.drewN nq = w6 at *
              have hbm := hbm2
              clear hbm2
              have hmc : (m : Int) ≤ (cq : Int) := by omega
              have hz6 := hbm.size
              have hbl6 : Bx < w6.heap.size := Nat.lt_of_lt_of_le HBX.out hz6
              have e1 := (hbm.cell (p := ⟨Bx, 0, none⟩) HBX.out).trans x1
              have e2 := (hbm.cell (p := ⟨Bx, 1, none⟩) HBX.out).trans x2
              have hrA : Reads w6 w6.heap.size 2 (some ⟨g, 0, none⟩) out.length (out.flatMap cntEnc) := (HCAT.out.below (HW2.out.trans (hbm.mono HW2.out.size))).more (Nat.le_trans HW2.out.size hz6)
              have HB6 : Hid (Below w1.heap.size w1 w6) := Lib.hid (HB2.out.trans ((HW2.out.mono HB2.out.size).trans (hbm.mono (Nat.le_trans HB2.out.size HW2.out.size))))
              have HZ6 : Hid (w1.heap.size ≤ w6.heap.size) := Lib.hid (HB6.out.size)
              clear hbm
              have hrO : Reads w6 w6.heap.size 2 (some ⟨g, 0, none⟩) m ((out.take m).flatMap cntEnc) := by
                have := hrA.take hmle
                rw [flat_take2 cntEnc (fun _ => rfl)] at this
                exact this
              refine heldStart 8 (S := fun W => W.cell? ⟨Bx, 0, none⟩ = some (.string x) ∧ W.cell? ⟨Bx, 1, none⟩ = some (.int .i64 cv)) (by kernel_rfl) ?_ (fun hHeld => ?_)
              · exact ⟨(Below.cell (p := ⟨Bx, 0, none⟩) (by repeat (first | exact Below.refl _ _ | exact hB4 | exact hB5 | refine Below.alloc ?_ (by first | (simp; done) | (have := hB4.size; simp; omega) | (have := hB4.size; omega)) _ | refine Below.drew ?_)) hbl6).trans e1, (Below.cell (p := ⟨Bx, 1, none⟩) (by repeat (first | exact Below.refl _ _ | exact hB4 | exact hB5 | refine Below.alloc ?_ (by first | (simp; done) | (have := hB4.size; simp; omega) | (have := hB4.size; omega)) _ | refine Below.drew ?_)) hbl6).trans e2⟩
              refine heldTake 1 (v := ?_) (by simp only [List.getElem?_toArray, List.getElem?_cons_succ, List.getElem?_cons_zero]; rfl) (by kernel_rfl) (by intro _ _ _ h; exact h) (by rfl) (by assumption) ?_ ?_
              rotate_left
              · intro W hSw; (try dsimp only at hSw); go_simp; try with_reducible rfl
              simp only [Act.put, List.setIfInBounds_toArray, List.set_cons_zero, List.set_cons_succ]
              refine heldTake 2 (v := ?_) (by simp only [List.getElem?_toArray, List.getElem?_cons_succ, List.getElem?_cons_zero]; rfl) (by kernel_rfl) (by intro _ _ _ h; exact h) (by rfl) (by assumption) ?_ ?_
              rotate_left
              · intro W hSw; (try dsimp only at hSw); go_simp; try with_reducible rfl
              simp only [Act.put, List.setIfInBounds_toArray, List.set_cons_zero, List.set_cons_succ]
              refine heldTake 3 (v := ?_) (by simp only [List.getElem?_toArray, List.getElem?_cons_succ, List.getElem?_cons_zero]; rfl) (by kernel_rfl) (by intro _ _ _ h; exact h) (by rfl) (by assumption) ?_ ?_
              rotate_left
              · intro W hSw; (try dsimp only at hSw); go_simp; try with_reducible rfl
              simp only [Act.put, List.setIfInBounds_toArray, List.set_cons_zero, List.set_cons_succ]
              refine heldTake 5 (v := ?_) (by simp only [List.getElem?_toArray, List.getElem?_cons_succ, List.getElem?_cons_zero]; rfl) (by kernel_rfl) (by intro _ _ _ h; exact h) (by rfl) (by assumption) ?_ ?_
              rotate_left
              · intro W hSw; (try dsimp only at hSw); go_simp; try with_reducible rfl
              simp only [Act.put, List.setIfInBounds_toArray, List.set_cons_zero, List.set_cons_succ]
              refine heldFork 0 6 (by kernel_rfl) ?_ ?_
              · refine heldOp 0 (by simp only [List.getElem?_toArray, List.getElem?_cons_succ, List.getElem?_cons_zero]; rfl) (fun K hK => ?_)
                go_simp
                refine hK.out _ _ ?_ (fun hHeld => ?_)
                · exact ⟨(Below.cell (p := ⟨Bx, 0, none⟩) (by repeat (first | exact Below.refl _ _ | exact hB4 | exact hB5 | refine Below.alloc ?_ (by first | (simp; done) | (have := hB4.size; simp; omega) | (have := hB4.size; omega)) _ | refine Below.drew ?_)) hbl6).trans e1, (Below.cell (p := ⟨Bx, 1, none⟩) (by repeat (first | exact Below.refl _ _ | exact hB4 | exact hB5 | refine Below.alloc ?_ (by first | (simp; done) | (have := hB4.size; simp; omega) | (have := hB4.size; omega)) _ | refine Below.drew ?_)) hbl6).trans e2⟩
                clear hK K
                (try simp only [Act.put, List.setIfInBounds_toArray, List.set_cons_zero, List.set_cons_succ])
                refine heldFork 4 6 (by kernel_rfl) ?_ ?_
                · refine heldOpLaw 4 (by simp only [List.getElem?_toArray, List.getElem?_cons_succ, List.getElem?_cons_zero]; rfl) (by rfl) (fun K hK => ?_)
                  refine wp_append_to _ (.tmp 52) (.tmp 55) _ rfl w6.heap.size 77 (.agg #[.string ByteArray.empty, .int .i64 0]) 2 24 Try.underlying61 cnt_info rfl (by omega) (some ⟨_, 0, none⟩) 0 0 [] rfl (own_empty (by simp) (by first | exact heapN1 _ _ | exact heapN3 _ _ _ | exact heapN2 _ _ _)) (some ⟨g, 0, none⟩) w6.heap.size m cq ((out.take m).flatMap cntEnc) rfl (hrO.below (by repeat (first | exact Below.refl _ _ | exact hB4 | exact hB5 | refine Below.alloc ?_ (by first | (simp; done) | (have := hB4.size; simp; omega) | (have := hB4.size; omega)) _ | refine Below.drew ?_))) (fun h => by first | rfl | cases h) (cnts_one _) m (by omega) (by unfold maxLen; omega) (by omega) (by first | (simp; done) | (simp; omega)) ?_
                  intro A4 c4 w4 hown4 hg4 hb4
                  have hB4 : Below w6.heap.size w6 w4 := Below.trans (by repeat (first | exact Below.refl _ _ | exact hB4 | exact hB5 | refine Below.alloc ?_ (by first | (simp; done) | (have := hB4.size; simp; omega) | (have := hB4.size; omega)) _ | refine Below.drew ?_)) hb4
                  simp only [List.nil_append] at hown4
                  refine hK.out _ _ ?_ (fun hHeld => ?_)
                  · exact ⟨(Below.cell (p := ⟨Bx, 0, none⟩) (by repeat (first | exact Below.refl _ _ | exact hB4 | exact hB5 | refine Below.alloc ?_ (by first | (simp; done) | (have := hB4.size; simp; omega) | (have := hB4.size; omega)) _ | refine Below.drew ?_)) hbl6).trans e1, (Below.cell (p := ⟨Bx, 1, none⟩) (by repeat (first | exact Below.refl _ _ | exact hB4 | exact hB5 | refine Below.alloc ?_ (by first | (simp; done) | (have := hB4.size; simp; omega) | (have := hB4.size; omega)) _ | refine Below.drew ?_)) hbl6).trans e2⟩
                  clear hK K
                  (try simp only [Act.put, List.setIfInBounds_toArray, List.set_cons_zero, List.set_cons_succ])
                  refine heldCall 6 (by simp only [List.getElem?_toArray, List.getElem?_cons_succ, List.getElem?_cons_zero]; rfl) (by kernel_rfl) (fun K hK => ?_)
                  go_simp
                  refine hK.out _ _ ?_ (fun hHeld => ?_)
                  · exact ⟨(Below.cell (p := ⟨Bx, 0, none⟩) (by repeat (first | exact Below.refl _ _ | exact hB4 | exact hB5 | refine Below.alloc ?_ (by first | (simp; done) | (have := hB4.size; simp; omega) | (have := hB4.size; omega)) _ | refine Below.drew ?_)) hbl6).trans e1, (Below.cell (p := ⟨Bx, 1, none⟩) (by repeat (first | exact Below.refl _ _ | exact hB4 | exact hB5 | refine Below.alloc ?_ (by first | (simp; done) | (have := hB4.size; simp; omega) | (have := hB4.size; omega)) _ | refine Below.drew ?_)) hbl6).trans e2⟩
                  clear hK K
                  (try simp only [Act.put, List.setIfInBounds_toArray, List.set_cons_zero, List.set_cons_succ])
                  refine heldLaw 7 (by simp only [List.getElem?_toArray, List.getElem?_cons_succ, List.getElem?_cons_zero]; rfl) (by kernel_rfl) (by rfl) (fun K hK => ?_)
                  refine wp_append_to _ (.tmp 56) (.tmp 58) _ rfl w6.heap.size 77 (.agg #[.string ByteArray.empty, .int .i64 0]) 2 24 Try.underlying61 cnt_info rfl (by omega) A4 m c4 ((out.take m).flatMap cntEnc) rfl (hown4.alloc _) (some ⟨_, 0, none⟩) _ 1 1 [.string x, .int .i64 cv] rfl (reads_blk (t := 77) (fr := (0, 0)) (heapM1 _ _) rfl) (fun h => by cases h) (by intro u hu; simp at hu; rcases hu with rfl | rfl <;> rfl) (m + 1) rfl (by unfold maxLen; omega) (by omega) (by have := hB4.size; first | (simp; done) | (simp; omega) | omega) ?_
                  intro A5 c5 w5 hown5 hg5 hb5
                  have hB5 : Below w6.heap.size w6 w5 := Below.trans (by repeat (first | exact Below.refl _ _ | exact hB4 | exact hB5 | refine Below.alloc ?_ (by first | (simp; done) | (have := hB4.size; simp; omega) | (have := hB4.size; omega)) _ | refine Below.drew ?_)) hb5
                  refine hK.out _ _ ?_ (fun hHeld => ?_)
                  · exact ⟨(Below.cell (p := ⟨Bx, 0, none⟩) (by repeat (first | exact Below.refl _ _ | exact hB4 | exact hB5 | refine Below.alloc ?_ (by first | (simp; done) | (have := hB4.size; simp; omega) | (have := hB4.size; omega)) _ | refine Below.drew ?_)) hbl6).trans e1, (Below.cell (p := ⟨Bx, 1, none⟩) (by repeat (first | exact Below.refl _ _ | exact hB4 | exact hB5 | refine Below.alloc ?_ (by first | (simp; done) | (have := hB4.size; simp; omega) | (have := hB4.size; omega)) _ | refine Below.drew ?_)) hbl6).trans e2⟩
                  clear hK K
                  (try simp only [Act.put, List.setIfInBounds_toArray, List.set_cons_zero, List.set_cons_succ])
                  refine heldTake 8 (v := ?_) (by simp only [List.getElem?_toArray, List.getElem?_cons_succ, List.getElem?_cons_zero]; rfl) (by kernel_rfl) (by intro _ _ _ h; exact h) (by rfl) (by assumption) ?_ ?_
                  rotate_left
                  · intro W hSw; (try dsimp only at hSw); go_simp; try with_reducible rfl
                  simp only [Act.put, List.setIfInBounds_toArray, List.set_cons_zero, List.set_cons_succ]
                  refine heldDone (by kernel_rfl) ?_ _
                  have hz5 : w6.heap.size ≤ w5.heap.size := hB5.size
                  have hrD := hrA.below hB5
                  by_cases hq : cq = m
                  · have hR1 : Reads w5 w6.heap.size 2 (some ⟨g, 0, none⟩) (out.length - m) ((out.drop m).flatMap cntEnc) := ⟨by rw [flat_len (e := cntEnc) (k := 2) (fun _ => rfl), List.length_drop], fun hp => by omega⟩
                    have hR2 : Reads w5 w6.heap.size 2 (some ⟨g, 0, none⟩) 0 ((out.drop m).flatMap cntEnc) := ⟨by rw [flat_len (e := cntEnc) (k := 2) (fun _ => rfl), List.length_drop, show out.length - m = 0 by omega], fun hp => by omega⟩
                    go_wp2_with (at_builtin; refine wpList_append_to w5 (by rfl) (.tmp 60) (.tmp 63) _ rfl w6.heap.size 77 (.agg #[.string ByteArray.empty, .int .i64 0]) 2 24 Try.underlying61 cnt_info rfl (by omega) A5 (m + 1) c5 _ rfl hown5 _ w6.heap.size _ _ ((out.drop m).flatMap cntEnc) rfl (by first | exact hR1 | exact hR2) (fun h => by cases h) (cnts_one _) (out.length + 1) (by omega) (by unfold maxLen; omega) (by omega) (by omega) ?_; intro A7 c7 w7 hown7 hg7 hb7)
                    obtain ⟨g7, cap7, hv7, _, _⟩ := hown7.form (by omega)
                    injection hv7 with hv7
                    subst hv7
                    go_roundg (g2 - 1)
                    case measure => have := HK.out; omega
                    case rel =>
                      have hln : (out.take m ++ [(⟨x, cv⟩ : CntV)] ++ out.drop m).length = out.length + 1 := by simp; omega
                      refine ⟨k + 1, g7, c7, out.take m ++ [(⟨x, cv⟩ : CntV)] ++ out.drop m, by go_num, Lib.hid (by have := HK.out; omega), by rw [hln], HIN, ?_, Lib.hid (HB6.out.trans ((hB5.mono HZ6.out).trans (hb7.mono HZ6.out)))⟩
                      rw [hln, List.flatMap_append, List.flatMap_append]
                      exact own_base hown7 HZ6.out
                  · have hR1 := hrD.drop (m := m) (c := cq) (by omega) (by omega) rfl
                    rw [if_neg hq] at hR1
                    rw [flat_dropD (e := cntEnc) (k := 2) (fun _ => rfl), Nat.zero_add] at hR1
                    have hR2 := hR1
                    go_wp2_with (at_builtin; refine wpList_append_to w5 (by rfl) (.tmp 60) (.tmp 63) _ rfl w6.heap.size 77 (.agg #[.string ByteArray.empty, .int .i64 0]) 2 24 Try.underlying61 cnt_info rfl (by omega) A5 (m + 1) c5 _ rfl hown5 _ w6.heap.size _ _ ((out.drop m).flatMap cntEnc) rfl (by first | exact hR1 | exact hR2) (fun h => by cases h) (cnts_one _) (out.length + 1) (by omega) (by unfold maxLen; omega) (by omega) (by omega) ?_; intro A7 c7 w7 hown7 hg7 hb7)
                    obtain ⟨g7, cap7, hv7, _, _⟩ := hown7.form (by omega)
                    injection hv7 with hv7
                    subst hv7
                    go_roundg (g2 - 1)
                    case measure => have := HK.out; omega
                    case rel =>
                      have hln : (out.take m ++ [(⟨x, cv⟩ : CntV)] ++ out.drop m).length = out.length + 1 := by simp; omega
                      refine ⟨k + 1, g7, c7, out.take m ++ [(⟨x, cv⟩ : CntV)] ++ out.drop m, by go_num, Lib.hid (by have := HK.out; omega), by rw [hln], HIN, ?_, Lib.hid (HB6.out.trans ((hB5.mono HZ6.out).trans (hb7.mono HZ6.out)))⟩
                      rw [hln, List.flatMap_append, List.flatMap_append]
                      exact own_base hown7 HZ6.out
                · refine heldOp 6 (by simp only [List.getElem?_toArray, List.getElem?_cons_succ, List.getElem?_cons_zero]; rfl) (fun K hK => ?_)
                  go_simp
                  refine hK.out _ _ ?_ (fun hHeld => ?_)
                  · exact ⟨(Below.cell (p := ⟨Bx, 0, none⟩) (by repeat (first | exact Below.refl _ _ | exact hB4 | exact hB5 | refine Below.alloc ?_ (by first | (simp; done) | (have := hB4.size; simp; omega) | (have := hB4.size; omega)) _ | refine Below.drew ?_)) hbl6).trans e1, (Below.cell (p := ⟨Bx, 1, none⟩) (by repeat (first | exact Below.refl _ _ | exact hB4 | exact hB5 | refine Below.alloc ?_ (by first | (simp; done) | (have := hB4.size; simp; omega) | (have := hB4.size; omega)) _ | refine Below.drew ?_)) hbl6).trans e2⟩
                  clear hK K
                  (try simp only [Act.put, List.setIfInBounds_toArray, List.set_cons_zero, List.set_cons_succ])
                  refine heldLaw 4 (by simp only [List.getElem?_toArray, List.getElem?_cons_succ, List.getElem?_cons_zero]; rfl) (by kernel_rfl) (by rfl) (fun K hK => ?_)
                  refine wp_append_to _ (.tmp 52) (.tmp 55) _ rfl w6.heap.size 77 (.agg #[.string ByteArray.empty, .int .i64 0]) 2 24 Try.underlying61 cnt_info rfl (by omega) (some ⟨_, 0, none⟩) 0 0 [] rfl (own_empty (by simp) (by first | exact heapN1 _ _ | exact heapN3 _ _ _ | exact heapN2 _ _ _)) (some ⟨g, 0, none⟩) w6.heap.size m cq ((out.take m).flatMap cntEnc) rfl (hrO.below (by repeat (first | exact Below.refl _ _ | exact hB4 | exact hB5 | refine Below.alloc ?_ (by first | (simp; done) | (have := hB4.size; simp; omega) | (have := hB4.size; omega)) _ | refine Below.drew ?_))) (fun h => by first | rfl | cases h) (cnts_one _) m (by omega) (by unfold maxLen; omega) (by omega) (by first | (simp; done) | (simp; omega)) ?_
                  intro A4 c4 w4 hown4 hg4 hb4
                  have hB4 : Below w6.heap.size w6 w4 := Below.trans (by repeat (first | exact Below.refl _ _ | exact hB4 | exact hB5 | refine Below.alloc ?_ (by first | (simp; done) | (have := hB4.size; simp; omega) | (have := hB4.size; omega)) _ | refine Below.drew ?_)) hb4
                  simp only [List.nil_append] at hown4
                  refine hK.out _ _ ?_ (fun hHeld => ?_)
                  · exact ⟨(Below.cell (p := ⟨Bx, 0, none⟩) (by repeat (first | exact Below.refl _ _ | exact hB4 | exact hB5 | refine Below.alloc ?_ (by first | (simp; done) | (have := hB4.size; simp; omega) | (have := hB4.size; omega)) _ | refine Below.drew ?_)) hbl6).trans e1, (Below.cell (p := ⟨Bx, 1, none⟩) (by repeat (first | exact Below.refl _ _ | exact hB4 | exact hB5 | refine Below.alloc ?_ (by first | (simp; done) | (have := hB4.size; simp; omega) | (have := hB4.size; omega)) _ | refine Below.drew ?_)) hbl6).trans e2⟩
                  clear hK K
                  (try simp only [Act.put, List.setIfInBounds_toArray, List.set_cons_zero, List.set_cons_succ])
                  refine heldLaw 7 (by simp only [List.getElem?_toArray, List.getElem?_cons_succ, List.getElem?_cons_zero]; rfl) (by kernel_rfl) (by rfl) (fun K hK => ?_)
                  refine wp_append_to _ (.tmp 56) (.tmp 58) _ rfl w6.heap.size 77 (.agg #[.string ByteArray.empty, .int .i64 0]) 2 24 Try.underlying61 cnt_info rfl (by omega) A4 m c4 ((out.take m).flatMap cntEnc) rfl hown4 (some ⟨_, 0, none⟩) _ 1 1 [.string x, .int .i64 cv] rfl (reads_blk (t := 77) (fr := (0, 0)) ((hg4.block _ (by first | (simp; done) | (simp; omega)) (by simp [Value.ownBlock])).trans (by first | exact heapN2 _ _ _ | exact heapN3 _ _ _)) rfl) (fun h => by cases h) (by intro u hu; simp at hu; rcases hu with rfl | rfl <;> rfl) (m + 1) rfl (by unfold maxLen; omega) (by omega) (by have := hB4.size; first | (simp; done) | (simp; omega) | omega) ?_
                  intro A5 c5 w5 hown5 hg5 hb5
                  have hB5 : Below w6.heap.size w6 w5 := Below.trans (by repeat (first | exact Below.refl _ _ | exact hB4 | exact hB5 | refine Below.alloc ?_ (by first | (simp; done) | (have := hB4.size; simp; omega) | (have := hB4.size; omega)) _ | refine Below.drew ?_)) hb5
                  refine hK.out _ _ ?_ (fun hHeld => ?_)
                  · exact ⟨(Below.cell (p := ⟨Bx, 0, none⟩) (by repeat (first | exact Below.refl _ _ | exact hB4 | exact hB5 | refine Below.alloc ?_ (by first | (simp; done) | (have := hB4.size; simp; omega) | (have := hB4.size; omega)) _ | refine Below.drew ?_)) hbl6).trans e1, (Below.cell (p := ⟨Bx, 1, none⟩) (by repeat (first | exact Below.refl _ _ | exact hB4 | exact hB5 | refine Below.alloc ?_ (by first | (simp; done) | (have := hB4.size; simp; omega) | (have := hB4.size; omega)) _ | refine Below.drew ?_)) hbl6).trans e2⟩
                  clear hK K
                  (try simp only [Act.put, List.setIfInBounds_toArray, List.set_cons_zero, List.set_cons_succ])
                  refine heldTake 8 (v := ?_) (by simp only [List.getElem?_toArray, List.getElem?_cons_succ, List.getElem?_cons_zero]; rfl) (by kernel_rfl) (by intro _ _ _ h; exact h) (by rfl) (by assumption) ?_ ?_
                  rotate_left
                  · intro W hSw; (try dsimp only at hSw); go_simp; try with_reducible rfl
                  simp only [Act.put, List.setIfInBounds_toArray, List.set_cons_zero, List.set_cons_succ]
                  refine heldDone (by kernel_rfl) ?_ _
                  have hz5 : w6.heap.size ≤ w5.heap.size := hB5.size
                  have hrD := hrA.below hB5
                  by_cases hq : cq = m
                  · have hR1 : Reads w5 w6.heap.size 2 (some ⟨g, 0, none⟩) (out.length - m) ((out.drop m).flatMap cntEnc) := ⟨by rw [flat_len (e := cntEnc) (k := 2) (fun _ => rfl), List.length_drop], fun hp => by omega⟩
                    have hR2 : Reads w5 w6.heap.size 2 (some ⟨g, 0, none⟩) 0 ((out.drop m).flatMap cntEnc) := ⟨by rw [flat_len (e := cntEnc) (k := 2) (fun _ => rfl), List.length_drop, show out.length - m = 0 by omega], fun hp => by omega⟩
                    go_wp2_with (at_builtin; refine wpList_append_to w5 (by rfl) (.tmp 60) (.tmp 63) _ rfl w6.heap.size 77 (.agg #[.string ByteArray.empty, .int .i64 0]) 2 24 Try.underlying61 cnt_info rfl (by omega) A5 (m + 1) c5 _ rfl hown5 _ w6.heap.size _ _ ((out.drop m).flatMap cntEnc) rfl (by first | exact hR1 | exact hR2) (fun h => by cases h) (cnts_one _) (out.length + 1) (by omega) (by unfold maxLen; omega) (by omega) (by omega) ?_; intro A7 c7 w7 hown7 hg7 hb7)
                    obtain ⟨g7, cap7, hv7, _, _⟩ := hown7.form (by omega)
                    injection hv7 with hv7
                    subst hv7
                    go_roundg (g2 - 1)
                    case measure => have := HK.out; omega
                    case rel =>
                      have hln : (out.take m ++ [(⟨x, cv⟩ : CntV)] ++ out.drop m).length = out.length + 1 := by simp; omega
                      refine ⟨k + 1, g7, c7, out.take m ++ [(⟨x, cv⟩ : CntV)] ++ out.drop m, by go_num, Lib.hid (by have := HK.out; omega), by rw [hln], HIN, ?_, Lib.hid (HB6.out.trans ((hB5.mono HZ6.out).trans (hb7.mono HZ6.out)))⟩
                      rw [hln, List.flatMap_append, List.flatMap_append]
                      exact own_base hown7 HZ6.out
                  · have hR1 := hrD.drop (m := m) (c := cq) (by omega) (by omega) rfl
                    rw [if_neg hq] at hR1
                    rw [flat_dropD (e := cntEnc) (k := 2) (fun _ => rfl), Nat.zero_add] at hR1
                    have hR2 := hR1
                    go_wp2_with (at_builtin; refine wpList_append_to w5 (by rfl) (.tmp 60) (.tmp 63) _ rfl w6.heap.size 77 (.agg #[.string ByteArray.empty, .int .i64 0]) 2 24 Try.underlying61 cnt_info rfl (by omega) A5 (m + 1) c5 _ rfl hown5 _ w6.heap.size _ _ ((out.drop m).flatMap cntEnc) rfl (by first | exact hR1 | exact hR2) (fun h => by cases h) (cnts_one _) (out.length + 1) (by omega) (by unfold maxLen; omega) (by omega) (by omega) ?_; intro A7 c7 w7 hown7 hg7 hb7)
                    obtain ⟨g7, cap7, hv7, _, _⟩ := hown7.form (by omega)
                    injection hv7 with hv7
                    subst hv7
                    go_roundg (g2 - 1)
                    case measure => have := HK.out; omega
                    case rel =>
                      have hln : (out.take m ++ [(⟨x, cv⟩ : CntV)] ++ out.drop m).length = out.length + 1 := by simp; omega
                      refine ⟨k + 1, g7, c7, out.take m ++ [(⟨x, cv⟩ : CntV)] ++ out.drop m, by go_num, Lib.hid (by have := HK.out; omega), by rw [hln], HIN, ?_, Lib.hid (HB6.out.trans ((hB5.mono HZ6.out).trans (hb7.mono HZ6.out)))⟩
                      rw [hln, List.flatMap_append, List.flatMap_append]
                      exact own_base hown7 HZ6.out
              · refine heldOp 6 (by simp only [List.getElem?_toArray, List.getElem?_cons_succ, List.getElem?_cons_zero]; rfl) (fun K hK => ?_)
                go_simp
                refine hK.out _ _ ?_ (fun hHeld => ?_)
                · exact ⟨(Below.cell (p := ⟨Bx, 0, none⟩) (by repeat (first | exact Below.refl _ _ | exact hB4 | exact hB5 | refine Below.alloc ?_ (by first | (simp; done) | (have := hB4.size; simp; omega) | (have := hB4.size; omega)) _ | refine Below.drew ?_)) hbl6).trans e1, (Below.cell (p := ⟨Bx, 1, none⟩) (by repeat (first | exact Below.refl _ _ | exact hB4 | exact hB5 | refine Below.alloc ?_ (by first | (simp; done) | (have := hB4.size; simp; omega) | (have := hB4.size; omega)) _ | refine Below.drew ?_)) hbl6).trans e2⟩
                clear hK K
                (try simp only [Act.put, List.setIfInBounds_toArray, List.set_cons_zero, List.set_cons_succ])
                refine heldCall 0 (by simp only [List.getElem?_toArray, List.getElem?_cons_succ, List.getElem?_cons_zero]; rfl) (by kernel_rfl) (fun K hK => ?_)
                go_simp
                refine hK.out _ _ ?_ (fun hHeld => ?_)
                · exact ⟨(Below.cell (p := ⟨Bx, 0, none⟩) (by repeat (first | exact Below.refl _ _ | exact hB4 | exact hB5 | refine Below.alloc ?_ (by first | (simp; done) | (have := hB4.size; simp; omega) | (have := hB4.size; omega)) _ | refine Below.drew ?_)) hbl6).trans e1, (Below.cell (p := ⟨Bx, 1, none⟩) (by repeat (first | exact Below.refl _ _ | exact hB4 | exact hB5 | refine Below.alloc ?_ (by first | (simp; done) | (have := hB4.size; simp; omega) | (have := hB4.size; omega)) _ | refine Below.drew ?_)) hbl6).trans e2⟩
                clear hK K
                (try simp only [Act.put, List.setIfInBounds_toArray, List.set_cons_zero, List.set_cons_succ])
                refine heldLaw 4 (by simp only [List.getElem?_toArray, List.getElem?_cons_succ, List.getElem?_cons_zero]; rfl) (by kernel_rfl) (by rfl) (fun K hK => ?_)
                refine wp_append_to _ (.tmp 52) (.tmp 55) _ rfl w6.heap.size 77 (.agg #[.string ByteArray.empty, .int .i64 0]) 2 24 Try.underlying61 cnt_info rfl (by omega) (some ⟨_, 0, none⟩) 0 0 [] rfl (own_empty (by simp) (by first | exact heapN1 _ _ | exact heapN3 _ _ _ | exact heapN2 _ _ _)) (some ⟨g, 0, none⟩) w6.heap.size m cq ((out.take m).flatMap cntEnc) rfl (hrO.below (by repeat (first | exact Below.refl _ _ | exact hB4 | exact hB5 | refine Below.alloc ?_ (by first | (simp; done) | (have := hB4.size; simp; omega) | (have := hB4.size; omega)) _ | refine Below.drew ?_))) (fun h => by first | rfl | cases h) (cnts_one _) m (by omega) (by unfold maxLen; omega) (by omega) (by first | (simp; done) | (simp; omega)) ?_
                intro A4 c4 w4 hown4 hg4 hb4
                have hB4 : Below w6.heap.size w6 w4 := Below.trans (by repeat (first | exact Below.refl _ _ | exact hB4 | exact hB5 | refine Below.alloc ?_ (by first | (simp; done) | (have := hB4.size; simp; omega) | (have := hB4.size; omega)) _ | refine Below.drew ?_)) hb4
                simp only [List.nil_append] at hown4
                refine hK.out _ _ ?_ (fun hHeld => ?_)
                · exact ⟨(Below.cell (p := ⟨Bx, 0, none⟩) (by repeat (first | exact Below.refl _ _ | exact hB4 | exact hB5 | refine Below.alloc ?_ (by first | (simp; done) | (have := hB4.size; simp; omega) | (have := hB4.size; omega)) _ | refine Below.drew ?_)) hbl6).trans e1, (Below.cell (p := ⟨Bx, 1, none⟩) (by repeat (first | exact Below.refl _ _ | exact hB4 | exact hB5 | refine Below.alloc ?_ (by first | (simp; done) | (have := hB4.size; simp; omega) | (have := hB4.size; omega)) _ | refine Below.drew ?_)) hbl6).trans e2⟩
                clear hK K
                (try simp only [Act.put, List.setIfInBounds_toArray, List.set_cons_zero, List.set_cons_succ])
                refine heldLaw 7 (by simp only [List.getElem?_toArray, List.getElem?_cons_succ, List.getElem?_cons_zero]; rfl) (by kernel_rfl) (by rfl) (fun K hK => ?_)
                refine wp_append_to _ (.tmp 56) (.tmp 58) _ rfl w6.heap.size 77 (.agg #[.string ByteArray.empty, .int .i64 0]) 2 24 Try.underlying61 cnt_info rfl (by omega) A4 m c4 ((out.take m).flatMap cntEnc) rfl hown4 (some ⟨_, 0, none⟩) _ 1 1 [.string x, .int .i64 cv] rfl (reads_blk (t := 77) (fr := (0, 0)) ((hg4.block _ (by first | (simp; done) | (simp; omega)) (by simp [Value.ownBlock])).trans (by first | exact heapN2 _ _ _ | exact heapN3 _ _ _)) rfl) (fun h => by cases h) (by intro u hu; simp at hu; rcases hu with rfl | rfl <;> rfl) (m + 1) rfl (by unfold maxLen; omega) (by omega) (by have := hB4.size; first | (simp; done) | (simp; omega) | omega) ?_
                intro A5 c5 w5 hown5 hg5 hb5
                have hB5 : Below w6.heap.size w6 w5 := Below.trans (by repeat (first | exact Below.refl _ _ | exact hB4 | exact hB5 | refine Below.alloc ?_ (by first | (simp; done) | (have := hB4.size; simp; omega) | (have := hB4.size; omega)) _ | refine Below.drew ?_)) hb5
                refine hK.out _ _ ?_ (fun hHeld => ?_)
                · exact ⟨(Below.cell (p := ⟨Bx, 0, none⟩) (by repeat (first | exact Below.refl _ _ | exact hB4 | exact hB5 | refine Below.alloc ?_ (by first | (simp; done) | (have := hB4.size; simp; omega) | (have := hB4.size; omega)) _ | refine Below.drew ?_)) hbl6).trans e1, (Below.cell (p := ⟨Bx, 1, none⟩) (by repeat (first | exact Below.refl _ _ | exact hB4 | exact hB5 | refine Below.alloc ?_ (by first | (simp; done) | (have := hB4.size; simp; omega) | (have := hB4.size; omega)) _ | refine Below.drew ?_)) hbl6).trans e2⟩
                clear hK K
                (try simp only [Act.put, List.setIfInBounds_toArray, List.set_cons_zero, List.set_cons_succ])
                refine heldTake 8 (v := ?_) (by simp only [List.getElem?_toArray, List.getElem?_cons_succ, List.getElem?_cons_zero]; rfl) (by kernel_rfl) (by intro _ _ _ h; exact h) (by rfl) (by assumption) ?_ ?_
                rotate_left
                · intro W hSw; (try dsimp only at hSw); go_simp; try with_reducible rfl
                simp only [Act.put, List.setIfInBounds_toArray, List.set_cons_zero, List.set_cons_succ]
                refine heldDone (by kernel_rfl) ?_ _
                have hz5 : w6.heap.size ≤ w5.heap.size := hB5.size
                have hrD := hrA.below hB5
                by_cases hq : cq = m
                · have hR1 : Reads w5 w6.heap.size 2 (some ⟨g, 0, none⟩) (out.length - m) ((out.drop m).flatMap cntEnc) := ⟨by rw [flat_len (e := cntEnc) (k := 2) (fun _ => rfl), List.length_drop], fun hp => by omega⟩
                  have hR2 : Reads w5 w6.heap.size 2 (some ⟨g, 0, none⟩) 0 ((out.drop m).flatMap cntEnc) := ⟨by rw [flat_len (e := cntEnc) (k := 2) (fun _ => rfl), List.length_drop, show out.length - m = 0 by omega], fun hp => by omega⟩
                  go_wp2_with (at_builtin; refine wpList_append_to w5 (by rfl) (.tmp 60) (.tmp 63) _ rfl w6.heap.size 77 (.agg #[.string ByteArray.empty, .int .i64 0]) 2 24 Try.underlying61 cnt_info rfl (by omega) A5 (m + 1) c5 _ rfl hown5 _ w6.heap.size _ _ ((out.drop m).flatMap cntEnc) rfl (by first | exact hR1 | exact hR2) (fun h => by cases h) (cnts_one _) (out.length + 1) (by omega) (by unfold maxLen; omega) (by omega) (by omega) ?_; intro A7 c7 w7 hown7 hg7 hb7)
                  obtain ⟨g7, cap7, hv7, _, _⟩ := hown7.form (by omega)
                  injection hv7 with hv7
                  subst hv7
                  go_roundg (g2 - 1)
                  case measure => have := HK.out; omega
                  case rel =>
                    have hln : (out.take m ++ [(⟨x, cv⟩ : CntV)] ++ out.drop m).length = out.length + 1 := by simp; omega
                    refine ⟨k + 1, g7, c7, out.take m ++ [(⟨x, cv⟩ : CntV)] ++ out.drop m, by go_num, Lib.hid (by have := HK.out; omega), by rw [hln], HIN, ?_, Lib.hid (HB6.out.trans ((hB5.mono HZ6.out).trans (hb7.mono HZ6.out)))⟩
                    rw [hln, List.flatMap_append, List.flatMap_append]
                    exact own_base hown7 HZ6.out
                · have hR1 := hrD.drop (m := m) (c := cq) (by omega) (by omega) rfl
                  rw [if_neg hq] at hR1
                  rw [flat_dropD (e := cntEnc) (k := 2) (fun _ => rfl), Nat.zero_add] at hR1
                  have hR2 := hR1
                  go_wp2_with (at_builtin; refine wpList_append_to w5 (by rfl) (.tmp 60) (.tmp 63) _ rfl w6.heap.size 77 (.agg #[.string ByteArray.empty, .int .i64 0]) 2 24 Try.underlying61 cnt_info rfl (by omega) A5 (m + 1) c5 _ rfl hown5 _ w6.heap.size _ _ ((out.drop m).flatMap cntEnc) rfl (by first | exact hR1 | exact hR2) (fun h => by cases h) (cnts_one _) (out.length + 1) (by omega) (by unfold maxLen; omega) (by omega) (by omega) ?_; intro A7 c7 w7 hown7 hg7 hb7)
                  obtain ⟨g7, cap7, hv7, _, _⟩ := hown7.form (by omega)
                  injection hv7 with hv7
                  subst hv7
                  go_roundg (g2 - 1)
                  case measure => have := HK.out; omega
                  case rel =>
                    have hln : (out.take m ++ [(⟨x, cv⟩ : CntV)] ++ out.drop m).length = out.length + 1 := by simp; omega
                    refine ⟨k + 1, g7, c7, out.take m ++ [(⟨x, cv⟩ : CntV)] ++ out.drop m, by go_num, Lib.hid (by have := HK.out; omega), by rw [hln], HIN, ?_, Lib.hid (HB6.out.trans ((hB5.mono HZ6.out).trans (hb7.mono HZ6.out)))⟩
                    rw [hln, List.flatMap_append, List.flatMap_append]
                    exact own_base hown7 HZ6.out
      · refine heldOp 12 (by simp only [List.getElem?_toArray, List.getElem?_cons_succ, List.getElem?_cons_zero]; rfl) (fun K hK => ?_)
        go_simp
        refine hK.out _ _ ?_ (fun hHeld => ?_)
        · exact (Below.cell (p := ⟨gk1, k, none⟩) (by first | exact hKe | exact hKe.alloc hKe.size _) hgw).trans e1
        clear hK K
        (try simp only [Act.put, List.setIfInBounds_toArray, List.set_cons_zero, List.set_cons_succ])
        refine heldCall 10 (by simp only [List.getElem?_toArray, List.getElem?_cons_succ, List.getElem?_cons_zero]; rfl) (by kernel_rfl) (fun K hK => ?_)
        go_simp
        refine (QA.out _ (HBW.out.trans ((hKe.alloc hKe.size _).mono HBW.out.size))).mono ?_
        rintro e w7 ⟨rfl, hb7⟩
        have hbx7 : w7.heap[wr.heap.size]? = some (.cells #[.string ByteArray.empty, .int .i64 0] 77 (0, 0)) := (hb7.block _ (by simp)).trans (heap_alloc_new wr.drew _)
        have hKa := hKe.alloc hKe.size (.cells #[.string ByteArray.empty, .int .i64 0] 77)
        have hK0 : Below wr.heap.size wr w7 := hKa.trans (hb7.mono hKa.size)
        clear hKa
        clear hKe
        have hKe := hK0
        obtain ⟨j1, j2, j3, j4⟩ : w7.cell? ⟨wr.heap.size, 0, none⟩ = some (.string ByteArray.empty) ∧ w7.cell? ⟨wr.heap.size, 1, none⟩ = some (.int .i64 0) ∧ w7.frozen? ⟨wr.heap.size, 0, none⟩ = false ∧ w7.frozen? ⟨wr.heap.size, 1, none⟩ = false := by refine ⟨?_, ?_, ?_, ?_⟩ <;> simp [World.cell?, World.frozen?, hbx7]
        clear hK0 hb7
        go_wp2_with fail
        refine hK.out _ _ ?_ (fun hHeld => ?_)
        · exact (Below.cell (p := ⟨gk1, k, none⟩) (by first | exact hKe | exact hKe.alloc hKe.size _) hgw).trans e1
        clear hK K
        (try simp only [Act.put, List.setIfInBounds_toArray, List.set_cons_zero, List.set_cons_succ])
        refine heldTake 11 (v := ?_) (by simp only [List.getElem?_toArray, List.getElem?_cons_succ, List.getElem?_cons_zero]; rfl) (by kernel_rfl) (by intro _ _ _ h; exact h) (by rfl) (by assumption) ?_ ?_
        rotate_left
        · intro W hSw; (try dsimp only at hSw); go_simp; try with_reducible rfl
        simp only [Act.put, List.setIfInBounds_toArray, List.set_cons_zero, List.set_cons_succ]
        refine heldLast 13 (by simp only [List.getElem?_toArray, List.getElem?_cons_succ, List.getElem?_cons_zero]; rfl) (by kernel_rfl) rfl (fun K hK => ?_)
        go_simp
        refine hK.out _ _ ?_
        clear hK K
        (try simp only [Act.put, List.setIfInBounds_toArray, List.set_cons_zero, List.set_cons_succ])
        refine heldDone (by kernel_rfl) ?_ _
        have hbx : ((w7.setCell ⟨wr.heap.size, 0, none⟩ (.string x)).setCell ⟨wr.heap.size, 1, none⟩ (.int .i64 cv)).heap[wr.heap.size]? = some (.cells #[.string x, .int .i64 cv] 77 (0, 0)) := by simp [World.setCell, Array.getElem?_modify, hbx7]
        have hw2b : Below wr.heap.size wr ((w7.setCell ⟨wr.heap.size, 0, none⟩ (.string x)).setCell ⟨wr.heap.size, 1, none⟩ (.int .i64 cv)) := (hKe.setCell (p := ⟨wr.heap.size, 0, none⟩) (Nat.le_refl _) _).setCell (p := ⟨wr.heap.size, 1, none⟩) (Nat.le_refl _) _
        clear hKe hHeld e1 hbx7 j1 j2 j3 j4
        generalize (w7.setCell ⟨wr.heap.size, 0, none⟩ (.string x)).setCell ⟨wr.heap.size, 1, none⟩ (.int .i64 cv) = w2 at *
        generalize hBx : wr.heap.size = Bx
        rw [hBx] at hbx
        have HBE := Lib.hid hBx
        clear hBx
        have HW2 : Hid (Below wr.heap.size wr w2) := Lib.hid hw2b
        have HBX : Hid (Bx < w2.heap.size) := Lib.hid (Array.getElem?_eq_some_iff.1 hbx).1
        have x1 : w2.cell? ⟨Bx, 0, none⟩ = some (.string x) := by simp [World.cell?, hbx]
        have x2 : w2.cell? ⟨Bx, 1, none⟩ = some (.int .i64 cv) := by simp [World.cell?, hbx]
        clear hw2b hbx
        go_wp2_with fail
        generalize gk = g2 at *
        obtain ⟨wo, rfl⟩ : ∃ wo : World, wo = wr := ⟨_, rfl⟩
        go_loopg [11] out.length (fun rest a wx => ∃ m : Nat, a = .int .i64 m ∧ Hid (m = rest) ∧ Hid (m ≤ out.length) ∧ Hid (∀ j (hj : j < out.length), m ≤ j → (out[j]).n < cv) ∧ Below w2.heap.size w2 wx)
        case atStart => exact ⟨out.length, rfl, Lib.hid rfl, Lib.hid (Nat.le_refl _), Lib.hid (fun j hj h => by omega), Below.refl _ _⟩
        case round =>
          obtain ⟨m, rfl, HM, HML, HG, hbm⟩ := hrel
          have hmle : m ≤ out.length := HML.out
          have y1 := (hbm.cell (p := ⟨Bx, 0, none⟩) HBX.out).trans x1
          have y2 := (hbm.cell (p := ⟨Bx, 1, none⟩) HBX.out).trans x2
          by_cases h0 : m = 0
          · have HIN := Lib.hid (HINS.out m hmle HG.out (fun _ h => by omega))
            have hgt : decide (0 < (m : Int)) = false := by simp; omega
            have hgtN : decide (0 < m) = false := by simp; omega
            have hgtP : ¬ 0 < m := by omega
            have hgtI : ¬ (0 : Int) < (m : Int) := by omega
            clear h0
            go_wp2_with fail
            go_quiet (fail)
            have hbm2 : Below w2.heap.size w2 (wr.drewN nq) := below_drewN hbm _
            clear y1 y2 hbm HG
            go_wp2_with fail
            generalize wr.drewN nq = w6 at *
            have hbm := hbm2
            clear hbm2
            have hmc : (m : Int) ≤ (cq : Int) := by omega
            have hz6 := hbm.size
            have hbl6 : Bx < w6.heap.size := Nat.lt_of_lt_of_le HBX.out hz6
            have e1 := (hbm.cell (p := ⟨Bx, 0, none⟩) HBX.out).trans x1
            have e2 := (hbm.cell (p := ⟨Bx, 1, none⟩) HBX.out).trans x2
            have hrA : Reads w6 w6.heap.size 2 (some ⟨g, 0, none⟩) out.length (out.flatMap cntEnc) := (HCAT.out.below (HW2.out.trans (hbm.mono HW2.out.size))).more (Nat.le_trans HW2.out.size hz6)
            have HB6 : Hid (Below w1.heap.size w1 w6) := Lib.hid (HB2.out.trans ((HW2.out.mono HB2.out.size).trans (hbm.mono (Nat.le_trans HB2.out.size HW2.out.size))))
            have HZ6 : Hid (w1.heap.size ≤ w6.heap.size) := Lib.hid (HB6.out.size)
            clear hbm
            have hrO : Reads w6 w6.heap.size 2 (some ⟨g, 0, none⟩) m ((out.take m).flatMap cntEnc) := by
              have := hrA.take hmle
              rw [flat_take2 cntEnc (fun _ => rfl)] at this
              exact this
            refine heldStart 8 (S := fun W => W.cell? ⟨Bx, 0, none⟩ = some (.string x) ∧ W.cell? ⟨Bx, 1, none⟩ = some (.int .i64 cv)) (by kernel_rfl) ?_ (fun hHeld => ?_)
            · exact ⟨(Below.cell (p := ⟨Bx, 0, none⟩) (by repeat (first | exact Below.refl _ _ | exact hB4 | exact hB5 | refine Below.alloc ?_ (by first | (simp; done) | (have := hB4.size; simp; omega) | (have := hB4.size; omega)) _ | refine Below.drew ?_)) hbl6).trans e1, (Below.cell (p := ⟨Bx, 1, none⟩) (by repeat (first | exact Below.refl _ _ | exact hB4 | exact hB5 | refine Below.alloc ?_ (by first | (simp; done) | (have := hB4.size; simp; omega) | (have := hB4.size; omega)) _ | refine Below.drew ?_)) hbl6).trans e2⟩
            refine heldTake 1 (v := ?_) (by simp only [List.getElem?_toArray, List.getElem?_cons_succ, List.getElem?_cons_zero]; rfl) (by kernel_rfl) (by intro _ _ _ h; exact h) (by rfl) (by assumption) ?_ ?_
            rotate_left
            · intro W hSw; (try dsimp only at hSw); go_simp; try with_reducible rfl
            simp only [Act.put, List.setIfInBounds_toArray, List.set_cons_zero, List.set_cons_succ]
            refine heldTake 2 (v := ?_) (by simp only [List.getElem?_toArray, List.getElem?_cons_succ, List.getElem?_cons_zero]; rfl) (by kernel_rfl) (by intro _ _ _ h; exact h) (by rfl) (by assumption) ?_ ?_
            rotate_left
            · intro W hSw; (try dsimp only at hSw); go_simp; try with_reducible rfl
            simp only [Act.put, List.setIfInBounds_toArray, List.set_cons_zero, List.set_cons_succ]
            refine heldTake 3 (v := ?_) (by simp only [List.getElem?_toArray, List.getElem?_cons_succ, List.getElem?_cons_zero]; rfl) (by kernel_rfl) (by intro _ _ _ h; exact h) (by rfl) (by assumption) ?_ ?_
            rotate_left
            · intro W hSw; (try dsimp only at hSw); go_simp; try with_reducible rfl
            simp only [Act.put, List.setIfInBounds_toArray, List.set_cons_zero, List.set_cons_succ]
            refine heldTake 5 (v := ?_) (by simp only [List.getElem?_toArray, List.getElem?_cons_succ, List.getElem?_cons_zero]; rfl) (by kernel_rfl) (by intro _ _ _ h; exact h) (by rfl) (by assumption) ?_ ?_
            rotate_left
            · intro W hSw; (try dsimp only at hSw); go_simp; try with_reducible rfl
            simp only [Act.put, List.setIfInBounds_toArray, List.set_cons_zero, List.set_cons_succ]
            refine heldFork 0 6 (by kernel_rfl) ?_ ?_
            · refine heldOp 0 (by simp only [List.getElem?_toArray, List.getElem?_cons_succ, List.getElem?_cons_zero]; rfl) (fun K hK => ?_)
              go_simp
              refine hK.out _ _ ?_ (fun hHeld => ?_)
              · exact ⟨(Below.cell (p := ⟨Bx, 0, none⟩) (by repeat (first | exact Below.refl _ _ | exact hB4 | exact hB5 | refine Below.alloc ?_ (by first | (simp; done) | (have := hB4.size; simp; omega) | (have := hB4.size; omega)) _ | refine Below.drew ?_)) hbl6).trans e1, (Below.cell (p := ⟨Bx, 1, none⟩) (by repeat (first | exact Below.refl _ _ | exact hB4 | exact hB5 | refine Below.alloc ?_ (by first | (simp; done) | (have := hB4.size; simp; omega) | (have := hB4.size; omega)) _ | refine Below.drew ?_)) hbl6).trans e2⟩
              clear hK K
              (try simp only [Act.put, List.setIfInBounds_toArray, List.set_cons_zero, List.set_cons_succ])
              refine heldFork 4 6 (by kernel_rfl) ?_ ?_
              · refine heldOpLaw 4 (by simp only [List.getElem?_toArray, List.getElem?_cons_succ, List.getElem?_cons_zero]; rfl) (by rfl) (fun K hK => ?_)
                refine wp_append_to _ (.tmp 52) (.tmp 55) _ rfl w6.heap.size 77 (.agg #[.string ByteArray.empty, .int .i64 0]) 2 24 Try.underlying61 cnt_info rfl (by omega) (some ⟨_, 0, none⟩) 0 0 [] rfl (own_empty (by simp) (by first | exact heapN1 _ _ | exact heapN3 _ _ _ | exact heapN2 _ _ _)) (some ⟨g, 0, none⟩) w6.heap.size m cq ((out.take m).flatMap cntEnc) rfl (hrO.below (by repeat (first | exact Below.refl _ _ | exact hB4 | exact hB5 | refine Below.alloc ?_ (by first | (simp; done) | (have := hB4.size; simp; omega) | (have := hB4.size; omega)) _ | refine Below.drew ?_))) (fun h => by first | rfl | cases h) (cnts_one _) m (by omega) (by unfold maxLen; omega) (by omega) (by first | (simp; done) | (simp; omega)) ?_
                intro A4 c4 w4 hown4 hg4 hb4
                have hB4 : Below w6.heap.size w6 w4 := Below.trans (by repeat (first | exact Below.refl _ _ | exact hB4 | exact hB5 | refine Below.alloc ?_ (by first | (simp; done) | (have := hB4.size; simp; omega) | (have := hB4.size; omega)) _ | refine Below.drew ?_)) hb4
                simp only [List.nil_append] at hown4
                refine hK.out _ _ ?_ (fun hHeld => ?_)
                · exact ⟨(Below.cell (p := ⟨Bx, 0, none⟩) (by repeat (first | exact Below.refl _ _ | exact hB4 | exact hB5 | refine Below.alloc ?_ (by first | (simp; done) | (have := hB4.size; simp; omega) | (have := hB4.size; omega)) _ | refine Below.drew ?_)) hbl6).trans e1, (Below.cell (p := ⟨Bx, 1, none⟩) (by repeat (first | exact Below.refl _ _ | exact hB4 | exact hB5 | refine Below.alloc ?_ (by first | (simp; done) | (have := hB4.size; simp; omega) | (have := hB4.size; omega)) _ | refine Below.drew ?_)) hbl6).trans e2⟩
                clear hK K
                (try simp only [Act.put, List.setIfInBounds_toArray, List.set_cons_zero, List.set_cons_succ])
                refine heldCall 6 (by simp only [List.getElem?_toArray, List.getElem?_cons_succ, List.getElem?_cons_zero]; rfl) (by kernel_rfl) (fun K hK => ?_)
                go_simp
                refine hK.out _ _ ?_ (fun hHeld => ?_)
                · exact ⟨(Below.cell (p := ⟨Bx, 0, none⟩) (by repeat (first | exact Below.refl _ _ | exact hB4 | exact hB5 | refine Below.alloc ?_ (by first | (simp; done) | (have := hB4.size; simp; omega) | (have := hB4.size; omega)) _ | refine Below.drew ?_)) hbl6).trans e1, (Below.cell (p := ⟨Bx, 1, none⟩) (by repeat (first | exact Below.refl _ _ | exact hB4 | exact hB5 | refine Below.alloc ?_ (by first | (simp; done) | (have := hB4.size; simp; omega) | (have := hB4.size; omega)) _ | refine Below.drew ?_)) hbl6).trans e2⟩
                clear hK K
                (try simp only [Act.put, List.setIfInBounds_toArray, List.set_cons_zero, List.set_cons_succ])
                refine heldLaw 7 (by simp only [List.getElem?_toArray, List.getElem?_cons_succ, List.getElem?_cons_zero]; rfl) (by kernel_rfl) (by rfl) (fun K hK => ?_)
                refine wp_append_to _ (.tmp 56) (.tmp 58) _ rfl w6.heap.size 77 (.agg #[.string ByteArray.empty, .int .i64 0]) 2 24 Try.underlying61 cnt_info rfl (by omega) A4 m c4 ((out.take m).flatMap cntEnc) rfl (hown4.alloc _) (some ⟨_, 0, none⟩) _ 1 1 [.string x, .int .i64 cv] rfl (reads_blk (t := 77) (fr := (0, 0)) (heapM1 _ _) rfl) (fun h => by cases h) (by intro u hu; simp at hu; rcases hu with rfl | rfl <;> rfl) (m + 1) rfl (by unfold maxLen; omega) (by omega) (by have := hB4.size; first | (simp; done) | (simp; omega) | omega) ?_
                intro A5 c5 w5 hown5 hg5 hb5
                have hB5 : Below w6.heap.size w6 w5 := Below.trans (by repeat (first | exact Below.refl _ _ | exact hB4 | exact hB5 | refine Below.alloc ?_ (by first | (simp; done) | (have := hB4.size; simp; omega) | (have := hB4.size; omega)) _ | refine Below.drew ?_)) hb5
                refine hK.out _ _ ?_ (fun hHeld => ?_)
                · exact ⟨(Below.cell (p := ⟨Bx, 0, none⟩) (by repeat (first | exact Below.refl _ _ | exact hB4 | exact hB5 | refine Below.alloc ?_ (by first | (simp; done) | (have := hB4.size; simp; omega) | (have := hB4.size; omega)) _ | refine Below.drew ?_)) hbl6).trans e1, (Below.cell (p := ⟨Bx, 1, none⟩) (by repeat (first | exact Below.refl _ _ | exact hB4 | exact hB5 | refine Below.alloc ?_ (by first | (simp; done) | (have := hB4.size; simp; omega) | (have := hB4.size; omega)) _ | refine Below.drew ?_)) hbl6).trans e2⟩
                clear hK K
                (try simp only [Act.put, List.setIfInBounds_toArray, List.set_cons_zero, List.set_cons_succ])
                refine heldTake 8 (v := ?_) (by simp only [List.getElem?_toArray, List.getElem?_cons_succ, List.getElem?_cons_zero]; rfl) (by kernel_rfl) (by intro _ _ _ h; exact h) (by rfl) (by assumption) ?_ ?_
                rotate_left
                · intro W hSw; (try dsimp only at hSw); go_simp; try with_reducible rfl
                simp only [Act.put, List.setIfInBounds_toArray, List.set_cons_zero, List.set_cons_succ]
                refine heldDone (by kernel_rfl) ?_ _
                have hz5 : w6.heap.size ≤ w5.heap.size := hB5.size
                have hrD := hrA.below hB5
                by_cases hq : cq = m
                · have hR1 : Reads w5 w6.heap.size 2 (some ⟨g, 0, none⟩) (out.length - m) ((out.drop m).flatMap cntEnc) := ⟨by rw [flat_len (e := cntEnc) (k := 2) (fun _ => rfl), List.length_drop], fun hp => by omega⟩
                  have hR2 : Reads w5 w6.heap.size 2 (some ⟨g, 0, none⟩) 0 ((out.drop m).flatMap cntEnc) := ⟨by rw [flat_len (e := cntEnc) (k := 2) (fun _ => rfl), List.length_drop, show out.length - m = 0 by omega], fun hp => by omega⟩
                  go_wp2_with (at_builtin; refine wpList_append_to w5 (by rfl) (.tmp 60) (.tmp 63) _ rfl w6.heap.size 77 (.agg #[.string ByteArray.empty, .int .i64 0]) 2 24 Try.underlying61 cnt_info rfl (by omega) A5 (m + 1) c5 _ rfl hown5 _ w6.heap.size _ _ ((out.drop m).flatMap cntEnc) rfl (by first | exact hR1 | exact hR2) (fun h => by cases h) (cnts_one _) (out.length + 1) (by omega) (by unfold maxLen; omega) (by omega) (by omega) ?_; intro A7 c7 w7 hown7 hg7 hb7)
                  obtain ⟨g7, cap7, hv7, _, _⟩ := hown7.form (by omega)
                  injection hv7 with hv7
                  subst hv7
                  go_roundg (g2 - 1)
                  case measure => have := HK.out; omega
                  case rel =>
                    have hln : (out.take m ++ [(⟨x, cv⟩ : CntV)] ++ out.drop m).length = out.length + 1 := by simp; omega
                    refine ⟨k + 1, g7, c7, out.take m ++ [(⟨x, cv⟩ : CntV)] ++ out.drop m, by go_num, Lib.hid (by have := HK.out; omega), by rw [hln], HIN, ?_, Lib.hid (HB6.out.trans ((hB5.mono HZ6.out).trans (hb7.mono HZ6.out)))⟩
                    rw [hln, List.flatMap_append, List.flatMap_append]
                    exact own_base hown7 HZ6.out
                · have hR1 := hrD.drop (m := m) (c := cq) (by omega) (by omega) rfl
                  rw [if_neg hq] at hR1
                  rw [flat_dropD (e := cntEnc) (k := 2) (fun _ => rfl), Nat.zero_add] at hR1
                  have hR2 := hR1
                  go_wp2_with (at_builtin; refine wpList_append_to w5 (by rfl) (.tmp 60) (.tmp 63) _ rfl w6.heap.size 77 (.agg #[.string ByteArray.empty, .int .i64 0]) 2 24 Try.underlying61 cnt_info rfl (by omega) A5 (m + 1) c5 _ rfl hown5 _ w6.heap.size _ _ ((out.drop m).flatMap cntEnc) rfl (by first | exact hR1 | exact hR2) (fun h => by cases h) (cnts_one _) (out.length + 1) (by omega) (by unfold maxLen; omega) (by omega) (by omega) ?_; intro A7 c7 w7 hown7 hg7 hb7)
                  obtain ⟨g7, cap7, hv7, _, _⟩ := hown7.form (by omega)
                  injection hv7 with hv7
                  subst hv7
                  go_roundg (g2 - 1)
                  case measure => have := HK.out; omega
                  case rel =>
                    have hln : (out.take m ++ [(⟨x, cv⟩ : CntV)] ++ out.drop m).length = out.length + 1 := by simp; omega
                    refine ⟨k + 1, g7, c7, out.take m ++ [(⟨x, cv⟩ : CntV)] ++ out.drop m, by go_num, Lib.hid (by have := HK.out; omega), by rw [hln], HIN, ?_, Lib.hid (HB6.out.trans ((hB5.mono HZ6.out).trans (hb7.mono HZ6.out)))⟩
                    rw [hln, List.flatMap_append, List.flatMap_append]
                    exact own_base hown7 HZ6.out
              · refine heldOp 6 (by simp only [List.getElem?_toArray, List.getElem?_cons_succ, List.getElem?_cons_zero]; rfl) (fun K hK => ?_)
                go_simp
                refine hK.out _ _ ?_ (fun hHeld => ?_)
                · exact ⟨(Below.cell (p := ⟨Bx, 0, none⟩) (by repeat (first | exact Below.refl _ _ | exact hB4 | exact hB5 | refine Below.alloc ?_ (by first | (simp; done) | (have := hB4.size; simp; omega) | (have := hB4.size; omega)) _ | refine Below.drew ?_)) hbl6).trans e1, (Below.cell (p := ⟨Bx, 1, none⟩) (by repeat (first | exact Below.refl _ _ | exact hB4 | exact hB5 | refine Below.alloc ?_ (by first | (simp; done) | (have := hB4.size; simp; omega) | (have := hB4.size; omega)) _ | refine Below.drew ?_)) hbl6).trans e2⟩
                clear hK K
                (try simp only [Act.put, List.setIfInBounds_toArray, List.set_cons_zero, List.set_cons_succ])
                refine heldLaw 4 (by simp only [List.getElem?_toArray, List.getElem?_cons_succ, List.getElem?_cons_zero]; rfl) (by kernel_rfl) (by rfl) (fun K hK => ?_)
                refine wp_append_to _ (.tmp 52) (.tmp 55) _ rfl w6.heap.size 77 (.agg #[.string ByteArray.empty, .int .i64 0]) 2 24 Try.underlying61 cnt_info rfl (by omega) (some ⟨_, 0, none⟩) 0 0 [] rfl (own_empty (by simp) (by first | exact heapN1 _ _ | exact heapN3 _ _ _ | exact heapN2 _ _ _)) (some ⟨g, 0, none⟩) w6.heap.size m cq ((out.take m).flatMap cntEnc) rfl (hrO.below (by repeat (first | exact Below.refl _ _ | exact hB4 | exact hB5 | refine Below.alloc ?_ (by first | (simp; done) | (have := hB4.size; simp; omega) | (have := hB4.size; omega)) _ | refine Below.drew ?_))) (fun h => by first | rfl | cases h) (cnts_one _) m (by omega) (by unfold maxLen; omega) (by omega) (by first | (simp; done) | (simp; omega)) ?_
                intro A4 c4 w4 hown4 hg4 hb4
                have hB4 : Below w6.heap.size w6 w4 := Below.trans (by repeat (first | exact Below.refl _ _ | exact hB4 | exact hB5 | refine Below.alloc ?_ (by first | (simp; done) | (have := hB4.size; simp; omega) | (have := hB4.size; omega)) _ | refine Below.drew ?_)) hb4
                simp only [List.nil_append] at hown4
                refine hK.out _ _ ?_ (fun hHeld => ?_)
                · exact ⟨(Below.cell (p := ⟨Bx, 0, none⟩) (by repeat (first | exact Below.refl _ _ | exact hB4 | exact hB5 | refine Below.alloc ?_ (by first | (simp; done) | (have := hB4.size; simp; omega) | (have := hB4.size; omega)) _ | refine Below.drew ?_)) hbl6).trans e1, (Below.cell (p := ⟨Bx, 1, none⟩) (by repeat (first | exact Below.refl _ _ | exact hB4 | exact hB5 | refine Below.alloc ?_ (by first | (simp; done) | (have := hB4.size; simp; omega) | (have := hB4.size; omega)) _ | refine Below.drew ?_)) hbl6).trans e2⟩
                clear hK K
                (try simp only [Act.put, List.setIfInBounds_toArray, List.set_cons_zero, List.set_cons_succ])
                refine heldLaw 7 (by simp only [List.getElem?_toArray, List.getElem?_cons_succ, List.getElem?_cons_zero]; rfl) (by kernel_rfl) (by rfl) (fun K hK => ?_)
                refine wp_append_to _ (.tmp 56) (.tmp 58) _ rfl w6.heap.size 77 (.agg #[.string ByteArray.empty, .int .i64 0]) 2 24 Try.underlying61 cnt_info rfl (by omega) A4 m c4 ((out.take m).flatMap cntEnc) rfl hown4 (some ⟨_, 0, none⟩) _ 1 1 [.string x, .int .i64 cv] rfl (reads_blk (t := 77) (fr := (0, 0)) ((hg4.block _ (by first | (simp; done) | (simp; omega)) (by simp [Value.ownBlock])).trans (by first | exact heapN2 _ _ _ | exact heapN3 _ _ _)) rfl) (fun h => by cases h) (by intro u hu; simp at hu; rcases hu with rfl | rfl <;> rfl) (m + 1) rfl (by unfold maxLen; omega) (by omega) (by have := hB4.size; first | (simp; done) | (simp; omega) | omega) ?_
                intro A5 c5 w5 hown5 hg5 hb5
                have hB5 : Below w6.heap.size w6 w5 := Below.trans (by repeat (first | exact Below.refl _ _ | exact hB4 | exact hB5 | refine Below.alloc ?_ (by first | (simp; done) | (have := hB4.size; simp; omega) | (have := hB4.size; omega)) _ | refine Below.drew ?_)) hb5
                refine hK.out _ _ ?_ (fun hHeld => ?_)
                · exact ⟨(Below.cell (p := ⟨Bx, 0, none⟩) (by repeat (first | exact Below.refl _ _ | exact hB4 | exact hB5 | refine Below.alloc ?_ (by first | (simp; done) | (have := hB4.size; simp; omega) | (have := hB4.size; omega)) _ | refine Below.drew ?_)) hbl6).trans e1, (Below.cell (p := ⟨Bx, 1, none⟩) (by repeat (first | exact Below.refl _ _ | exact hB4 | exact hB5 | refine Below.alloc ?_ (by first | (simp; done) | (have := hB4.size; simp; omega) | (have := hB4.size; omega)) _ | refine Below.drew ?_)) hbl6).trans e2⟩
                clear hK K
                (try simp only [Act.put, List.setIfInBounds_toArray, List.set_cons_zero, List.set_cons_succ])
                refine heldTake 8 (v := ?_) (by simp only [List.getElem?_toArray, List.getElem?_cons_succ, List.getElem?_cons_zero]; rfl) (by kernel_rfl) (by intro _ _ _ h; exact h) (by rfl) (by assumption) ?_ ?_
                rotate_left
                · intro W hSw; (try dsimp only at hSw); go_simp; try with_reducible rfl
                simp only [Act.put, List.setIfInBounds_toArray, List.set_cons_zero, List.set_cons_succ]
                refine heldDone (by kernel_rfl) ?_ _
                have hz5 : w6.heap.size ≤ w5.heap.size := hB5.size
                have hrD := hrA.below hB5
                by_cases hq : cq = m
                · have hR1 : Reads w5 w6.heap.size 2 (some ⟨g, 0, none⟩) (out.length - m) ((out.drop m).flatMap cntEnc) := ⟨by rw [flat_len (e := cntEnc) (k := 2) (fun _ => rfl), List.length_drop], fun hp => by omega⟩
                  have hR2 : Reads w5 w6.heap.size 2 (some ⟨g, 0, none⟩) 0 ((out.drop m).flatMap cntEnc) := ⟨by rw [flat_len (e := cntEnc) (k := 2) (fun _ => rfl), List.length_drop, show out.length - m = 0 by omega], fun hp => by omega⟩
                  go_wp2_with (at_builtin; refine wpList_append_to w5 (by rfl) (.tmp 60) (.tmp 63) _ rfl w6.heap.size 77 (.agg #[.string ByteArray.empty, .int .i64 0]) 2 24 Try.underlying61 cnt_info rfl (by omega) A5 (m + 1) c5 _ rfl hown5 _ w6.heap.size _ _ ((out.drop m).flatMap cntEnc) rfl (by first | exact hR1 | exact hR2) (fun h => by cases h) (cnts_one _) (out.length + 1) (by omega) (by unfold maxLen; omega) (by omega) (by omega) ?_; intro A7 c7 w7 hown7 hg7 hb7)
                  obtain ⟨g7, cap7, hv7, _, _⟩ := hown7.form (by omega)
                  injection hv7 with hv7
                  subst hv7
                  go_roundg (g2 - 1)
                  case measure => have := HK.out; omega
                  case rel =>
                    have hln : (out.take m ++ [(⟨x, cv⟩ : CntV)] ++ out.drop m).length = out.length + 1 := by simp; omega
                    refine ⟨k + 1, g7, c7, out.take m ++ [(⟨x, cv⟩ : CntV)] ++ out.drop m, by go_num, Lib.hid (by have := HK.out; omega), by rw [hln], HIN, ?_, Lib.hid (HB6.out.trans ((hB5.mono HZ6.out).trans (hb7.mono HZ6.out)))⟩
                    rw [hln, List.flatMap_append, List.flatMap_append]
                    exact own_base hown7 HZ6.out
                · have hR1 := hrD.drop (m := m) (c := cq) (by omega) (by omega) rfl
                  rw [if_neg hq] at hR1
                  rw [flat_dropD (e := cntEnc) (k := 2) (fun _ => rfl), Nat.zero_add] at hR1
                  have hR2 := hR1
                  go_wp2_with (at_builtin; refine wpList_append_to w5 (by rfl) (.tmp 60) (.tmp 63) _ rfl w6.heap.size 77 (.agg #[.string ByteArray.empty, .int .i64 0]) 2 24 Try.underlying61 cnt_info rfl (by omega) A5 (m + 1) c5 _ rfl hown5 _ w6.heap.size _ _ ((out.drop m).flatMap cntEnc) rfl (by first | exact hR1 | exact hR2) (fun h => by cases h) (cnts_one _) (out.length + 1) (by omega) (by unfold maxLen; omega) (by omega) (by omega) ?_; intro A7 c7 w7 hown7 hg7 hb7)
                  obtain ⟨g7, cap7, hv7, _, _⟩ := hown7.form (by omega)
                  injection hv7 with hv7
                  subst hv7
                  go_roundg (g2 - 1)
                  case measure => have := HK.out; omega
                  case rel =>
                    have hln : (out.take m ++ [(⟨x, cv⟩ : CntV)] ++ out.drop m).length = out.length + 1 := by simp; omega
                    refine ⟨k + 1, g7, c7, out.take m ++ [(⟨x, cv⟩ : CntV)] ++ out.drop m, by go_num, Lib.hid (by have := HK.out; omega), by rw [hln], HIN, ?_, Lib.hid (HB6.out.trans ((hB5.mono HZ6.out).trans (hb7.mono HZ6.out)))⟩
                    rw [hln, List.flatMap_append, List.flatMap_append]
                    exact own_base hown7 HZ6.out
            · refine heldOp 6 (by simp only [List.getElem?_toArray, List.getElem?_cons_succ, List.getElem?_cons_zero]; rfl) (fun K hK => ?_)
              go_simp
              refine hK.out _ _ ?_ (fun hHeld => ?_)
              · exact ⟨(Below.cell (p := ⟨Bx, 0, none⟩) (by repeat (first | exact Below.refl _ _ | exact hB4 | exact hB5 | refine Below.alloc ?_ (by first | (simp; done) | (have := hB4.size; simp; omega) | (have := hB4.size; omega)) _ | refine Below.drew ?_)) hbl6).trans e1, (Below.cell (p := ⟨Bx, 1, none⟩) (by repeat (first | exact Below.refl _ _ | exact hB4 | exact hB5 | refine Below.alloc ?_ (by first | (simp; done) | (have := hB4.size; simp; omega) | (have := hB4.size; omega)) _ | refine Below.drew ?_)) hbl6).trans e2⟩
              clear hK K
              (try simp only [Act.put, List.setIfInBounds_toArray, List.set_cons_zero, List.set_cons_succ])
              refine heldCall 0 (by simp only [List.getElem?_toArray, List.getElem?_cons_succ, List.getElem?_cons_zero]; rfl) (by kernel_rfl) (fun K hK => ?_)
              go_simp
              refine hK.out _ _ ?_ (fun hHeld => ?_)
              · exact ⟨(Below.cell (p := ⟨Bx, 0, none⟩) (by repeat (first | exact Below.refl _ _ | exact hB4 | exact hB5 | refine Below.alloc ?_ (by first | (simp; done) | (have := hB4.size; simp; omega) | (have := hB4.size; omega)) _ | refine Below.drew ?_)) hbl6).trans e1, (Below.cell (p := ⟨Bx, 1, none⟩) (by repeat (first | exact Below.refl _ _ | exact hB4 | exact hB5 | refine Below.alloc ?_ (by first | (simp; done) | (have := hB4.size; simp; omega) | (have := hB4.size; omega)) _ | refine Below.drew ?_)) hbl6).trans e2⟩
              clear hK K
              (try simp only [Act.put, List.setIfInBounds_toArray, List.set_cons_zero, List.set_cons_succ])
              refine heldLaw 4 (by simp only [List.getElem?_toArray, List.getElem?_cons_succ, List.getElem?_cons_zero]; rfl) (by kernel_rfl) (by rfl) (fun K hK => ?_)
              refine wp_append_to _ (.tmp 52) (.tmp 55) _ rfl w6.heap.size 77 (.agg #[.string ByteArray.empty, .int .i64 0]) 2 24 Try.underlying61 cnt_info rfl (by omega) (some ⟨_, 0, none⟩) 0 0 [] rfl (own_empty (by simp) (by first | exact heapN1 _ _ | exact heapN3 _ _ _ | exact heapN2 _ _ _)) (some ⟨g, 0, none⟩) w6.heap.size m cq ((out.take m).flatMap cntEnc) rfl (hrO.below (by repeat (first | exact Below.refl _ _ | exact hB4 | exact hB5 | refine Below.alloc ?_ (by first | (simp; done) | (have := hB4.size; simp; omega) | (have := hB4.size; omega)) _ | refine Below.drew ?_))) (fun h => by first | rfl | cases h) (cnts_one _) m (by omega) (by unfold maxLen; omega) (by omega) (by first | (simp; done) | (simp; omega)) ?_
              intro A4 c4 w4 hown4 hg4 hb4
              have hB4 : Below w6.heap.size w6 w4 := Below.trans (by repeat (first | exact Below.refl _ _ | exact hB4 | exact hB5 | refine Below.alloc ?_ (by first | (simp; done) | (have := hB4.size; simp; omega) | (have := hB4.size; omega)) _ | refine Below.drew ?_)) hb4
              simp only [List.nil_append] at hown4
              refine hK.out _ _ ?_ (fun hHeld => ?_)
              · exact ⟨(Below.cell (p := ⟨Bx, 0, none⟩) (by repeat (first | exact Below.refl _ _ | exact hB4 | exact hB5 | refine Below.alloc ?_ (by first | (simp; done) | (have := hB4.size; simp; omega) | (have := hB4.size; omega)) _ | refine Below.drew ?_)) hbl6).trans e1, (Below.cell (p := ⟨Bx, 1, none⟩) (by repeat (first | exact Below.refl _ _ | exact hB4 | exact hB5 | refine Below.alloc ?_ (by first | (simp; done) | (have := hB4.size; simp; omega) | (have := hB4.size; omega)) _ | refine Below.drew ?_)) hbl6).trans e2⟩
              clear hK K
              (try simp only [Act.put, List.setIfInBounds_toArray, List.set_cons_zero, List.set_cons_succ])
              refine heldLaw 7 (by simp only [List.getElem?_toArray, List.getElem?_cons_succ, List.getElem?_cons_zero]; rfl) (by kernel_rfl) (by rfl) (fun K hK => ?_)
              refine wp_append_to _ (.tmp 56) (.tmp 58) _ rfl w6.heap.size 77 (.agg #[.string ByteArray.empty, .int .i64 0]) 2 24 Try.underlying61 cnt_info rfl (by omega) A4 m c4 ((out.take m).flatMap cntEnc) rfl hown4 (some ⟨_, 0, none⟩) _ 1 1 [.string x, .int .i64 cv] rfl (reads_blk (t := 77) (fr := (0, 0)) ((hg4.block _ (by first | (simp; done) | (simp; omega)) (by simp [Value.ownBlock])).trans (by first | exact heapN2 _ _ _ | exact heapN3 _ _ _)) rfl) (fun h => by cases h) (by intro u hu; simp at hu; rcases hu with rfl | rfl <;> rfl) (m + 1) rfl (by unfold maxLen; omega) (by omega) (by have := hB4.size; first | (simp; done) | (simp; omega) | omega) ?_
              intro A5 c5 w5 hown5 hg5 hb5
              have hB5 : Below w6.heap.size w6 w5 := Below.trans (by repeat (first | exact Below.refl _ _ | exact hB4 | exact hB5 | refine Below.alloc ?_ (by first | (simp; done) | (have := hB4.size; simp; omega) | (have := hB4.size; omega)) _ | refine Below.drew ?_)) hb5
              refine hK.out _ _ ?_ (fun hHeld => ?_)
              · exact ⟨(Below.cell (p := ⟨Bx, 0, none⟩) (by repeat (first | exact Below.refl _ _ | exact hB4 | exact hB5 | refine Below.alloc ?_ (by first | (simp; done) | (have := hB4.size; simp; omega) | (have := hB4.size; omega)) _ | refine Below.drew ?_)) hbl6).trans e1, (Below.cell (p := ⟨Bx, 1, none⟩) (by repeat (first | exact Below.refl _ _ | exact hB4 | exact hB5 | refine Below.alloc ?_ (by first | (simp; done) | (have := hB4.size; simp; omega) | (have := hB4.size; omega)) _ | refine Below.drew ?_)) hbl6).trans e2⟩
              clear hK K
              (try simp only [Act.put, List.setIfInBounds_toArray, List.set_cons_zero, List.set_cons_succ])
              refine heldTake 8 (v := ?_) (by simp only [List.getElem?_toArray, List.getElem?_cons_succ, List.getElem?_cons_zero]; rfl) (by kernel_rfl) (by intro _ _ _ h; exact h) (by rfl) (by assumption) ?_ ?_
              rotate_left
              · intro W hSw; (try dsimp only at hSw); go_simp; try with_reducible rfl
              simp only [Act.put, List.setIfInBounds_toArray, List.set_cons_zero, List.set_cons_succ]
              refine heldDone (by kernel_rfl) ?_ _
              have hz5 : w6.heap.size ≤ w5.heap.size := hB5.size
              have hrD := hrA.below hB5
              by_cases hq : cq = m
              · have hR1 : Reads w5 w6.heap.size 2 (some ⟨g, 0, none⟩) (out.length - m) ((out.drop m).flatMap cntEnc) := ⟨by rw [flat_len (e := cntEnc) (k := 2) (fun _ => rfl), List.length_drop], fun hp => by omega⟩
                have hR2 : Reads w5 w6.heap.size 2 (some ⟨g, 0, none⟩) 0 ((out.drop m).flatMap cntEnc) := ⟨by rw [flat_len (e := cntEnc) (k := 2) (fun _ => rfl), List.length_drop, show out.length - m = 0 by omega], fun hp => by omega⟩
                go_wp2_with (at_builtin; refine wpList_append_to w5 (by rfl) (.tmp 60) (.tmp 63) _ rfl w6.heap.size 77 (.agg #[.string ByteArray.empty, .int .i64 0]) 2 24 Try.underlying61 cnt_info rfl (by omega) A5 (m + 1) c5 _ rfl hown5 _ w6.heap.size _ _ ((out.drop m).flatMap cntEnc) rfl (by first | exact hR1 | exact hR2) (fun h => by cases h) (cnts_one _) (out.length + 1) (by omega) (by unfold maxLen; omega) (by omega) (by omega) ?_; intro A7 c7 w7 hown7 hg7 hb7)
                obtain ⟨g7, cap7, hv7, _, _⟩ := hown7.form (by omega)
                injection hv7 with hv7
                subst hv7
                go_roundg (g2 - 1)
                case measure => have := HK.out; omega
                case rel =>
                  have hln : (out.take m ++ [(⟨x, cv⟩ : CntV)] ++ out.drop m).length = out.length + 1 := by simp; omega
                  refine ⟨k + 1, g7, c7, out.take m ++ [(⟨x, cv⟩ : CntV)] ++ out.drop m, by go_num, Lib.hid (by have := HK.out; omega), by rw [hln], HIN, ?_, Lib.hid (HB6.out.trans ((hB5.mono HZ6.out).trans (hb7.mono HZ6.out)))⟩
                  rw [hln, List.flatMap_append, List.flatMap_append]
                  exact own_base hown7 HZ6.out
              · have hR1 := hrD.drop (m := m) (c := cq) (by omega) (by omega) rfl
                rw [if_neg hq] at hR1
                rw [flat_dropD (e := cntEnc) (k := 2) (fun _ => rfl), Nat.zero_add] at hR1
                have hR2 := hR1
                go_wp2_with (at_builtin; refine wpList_append_to w5 (by rfl) (.tmp 60) (.tmp 63) _ rfl w6.heap.size 77 (.agg #[.string ByteArray.empty, .int .i64 0]) 2 24 Try.underlying61 cnt_info rfl (by omega) A5 (m + 1) c5 _ rfl hown5 _ w6.heap.size _ _ ((out.drop m).flatMap cntEnc) rfl (by first | exact hR1 | exact hR2) (fun h => by cases h) (cnts_one _) (out.length + 1) (by omega) (by unfold maxLen; omega) (by omega) (by omega) ?_; intro A7 c7 w7 hown7 hg7 hb7)
                obtain ⟨g7, cap7, hv7, _, _⟩ := hown7.form (by omega)
                injection hv7 with hv7
                subst hv7
                go_roundg (g2 - 1)
                case measure => have := HK.out; omega
                case rel =>
                  have hln : (out.take m ++ [(⟨x, cv⟩ : CntV)] ++ out.drop m).length = out.length + 1 := by simp; omega
                  refine ⟨k + 1, g7, c7, out.take m ++ [(⟨x, cv⟩ : CntV)] ++ out.drop m, by go_num, Lib.hid (by have := HK.out; omega), by rw [hln], HIN, ?_, Lib.hid (HB6.out.trans ((hB5.mono HZ6.out).trans (hb7.mono HZ6.out)))⟩
                  rw [hln, List.flatMap_append, List.flatMap_append]
                  exact own_base hown7 HZ6.out
          · have hm1 : m - 1 < out.length := by omega
            obtain ⟨b', o', e', hbl', f1, f2⟩ := (HCAT.out.below (HW2.out.trans (hbm.mono HW2.out.size))).one hm1
            injection e' with e'
            injection e' with e3 e4
            subst e3 e4
            rw [Nat.zero_add] at f1 f2
            have hj3 : ((m : Int) - 1).toNat = m - 1 := by omega
            have hw1 : IntKind.i64.wrap ((m : Int) - 1) = (m : Int) - 1 := IntWalk.i64_in _ (by omega)
            have hw2 : wrap64 ((m : Int) - 1) = (m : Int) - 1 := by unfold wrap64; omega
            have hgt : decide (0 < (m : Int)) = true := by simp; omega
            have hgtN : decide (0 < m) = true := by simp; omega
            have hgtP : 0 < m := by omega
            have hgtI : (0 : Int) < (m : Int) := by omega
            have hix1 : (0 : Int) ≤ (m : Int) - 1 := by omega
            have hix3 : (1 : Int) ≤ (m : Int) := by omega
            have hix2 : (m : Int) - 1 < (out.length : Int) := by omega
            have HIF : Hid (¬ (out[m - 1]).n < cv → TopRf hf now L (ks.take (k + 1)) (out.take m ++ [(⟨x, cv⟩ : CntV)] ++ out.drop m)) := Lib.hid (fun h => HINS.out m hmle HG.out (fun _ _ => by first | exact h | omega))
            have HGO : Hid ((out[m - 1]).n < cv → ∀ j (hj : j < out.length), m - 1 ≤ j → (out[j]).n < cv) := Lib.hid (fun h j hj hmj => by
              by_cases e : j = m - 1
              · subst e; exact h
              · exact HG.out j hj (by omega))
            generalize out[m - 1] = y at *
            by_cases hyx : y.n < cv
            · have HG2 := Lib.hid (HGO.out hyx)
              clear HIF HGO HG
              go_wp2_with fail
              go_quiet (fail)
              have hbm2 : Below w2.heap.size w2 (wr.drewN nq) := below_drewN hbm _
              go_wp2
              go_roundg (gk - 1)
              case measure => have := HM.out; omega
              case rel => exact ⟨m - 1, by go_num, Lib.hid (by have := HM.out; omega), Lib.hid (by omega), HG2, hbm2⟩
            · have HIN := Lib.hid (HIF.out hyx)
              clear HIF HGO HG
              go_wp2_with fail
              go_quiet (fail)
              have hbm2 : Below w2.heap.size w2 (wr.drewN nq) := below_drewN hbm _
              clear y1 y2 f1 f2 hbm hbl'
              go_wp2_with fail
              generalize wr.drewN nq = w6 at *
              have hbm := hbm2
              clear hbm2
              have hmc : (m : Int) ≤ (cq : Int) := by omega
              have hz6 := hbm.size
              have hbl6 : Bx < w6.heap.size := Nat.lt_of_lt_of_le HBX.out hz6
              have e1 := (hbm.cell (p := ⟨Bx, 0, none⟩) HBX.out).trans x1
              have e2 := (hbm.cell (p := ⟨Bx, 1, none⟩) HBX.out).trans x2
              have hrA : Reads w6 w6.heap.size 2 (some ⟨g, 0, none⟩) out.length (out.flatMap cntEnc) := (HCAT.out.below (HW2.out.trans (hbm.mono HW2.out.size))).more (Nat.le_trans HW2.out.size hz6)
              have HB6 : Hid (Below w1.heap.size w1 w6) := Lib.hid (HB2.out.trans ((HW2.out.mono HB2.out.size).trans (hbm.mono (Nat.le_trans HB2.out.size HW2.out.size))))
              have HZ6 : Hid (w1.heap.size ≤ w6.heap.size) := Lib.hid (HB6.out.size)
              clear hbm
              have hrO : Reads w6 w6.heap.size 2 (some ⟨g, 0, none⟩) m ((out.take m).flatMap cntEnc) := by
                have := hrA.take hmle
                rw [flat_take2 cntEnc (fun _ => rfl)] at this
                exact this
              refine heldStart 8 (S := fun W => W.cell? ⟨Bx, 0, none⟩ = some (.string x) ∧ W.cell? ⟨Bx, 1, none⟩ = some (.int .i64 cv)) (by kernel_rfl) ?_ (fun hHeld => ?_)
              · exact ⟨(Below.cell (p := ⟨Bx, 0, none⟩) (by repeat (first | exact Below.refl _ _ | exact hB4 | exact hB5 | refine Below.alloc ?_ (by first | (simp; done) | (have := hB4.size; simp; omega) | (have := hB4.size; omega)) _ | refine Below.drew ?_)) hbl6).trans e1, (Below.cell (p := ⟨Bx, 1, none⟩) (by repeat (first | exact Below.refl _ _ | exact hB4 | exact hB5 | refine Below.alloc ?_ (by first | (simp; done) | (have := hB4.size; simp; omega) | (have := hB4.size; omega)) _ | refine Below.drew ?_)) hbl6).trans e2⟩
              refine heldTake 1 (v := ?_) (by simp only [List.getElem?_toArray, List.getElem?_cons_succ, List.getElem?_cons_zero]; rfl) (by kernel_rfl) (by intro _ _ _ h; exact h) (by rfl) (by assumption) ?_ ?_
              rotate_left
              · intro W hSw; (try dsimp only at hSw); go_simp; try with_reducible rfl
              simp only [Act.put, List.setIfInBounds_toArray, List.set_cons_zero, List.set_cons_succ]
              refine heldTake 2 (v := ?_) (by simp only [List.getElem?_toArray, List.getElem?_cons_succ, List.getElem?_cons_zero]; rfl) (by kernel_rfl) (by intro _ _ _ h; exact h) (by rfl) (by assumption) ?_ ?_
              rotate_left
              · intro W hSw; (try dsimp only at hSw); go_simp; try with_reducible rfl
              simp only [Act.put, List.setIfInBounds_toArray, List.set_cons_zero, List.set_cons_succ]
              refine heldTake 3 (v := ?_) (by simp only [List.getElem?_toArray, List.getElem?_cons_succ, List.getElem?_cons_zero]; rfl) (by kernel_rfl) (by intro _ _ _ h; exact h) (by rfl) (by assumption) ?_ ?_
              rotate_left
              · intro W hSw; (try dsimp only at hSw); go_simp; try with_reducible rfl
              simp only [Act.put, List.setIfInBounds_toArray, List.set_cons_zero, List.set_cons_succ]
              refine heldTake 5 (v := ?_) (by simp only [List.getElem?_toArray, List.getElem?_cons_succ, List.getElem?_cons_zero]; rfl) (by kernel_rfl) (by intro _ _ _ h; exact h) (by rfl) (by assumption) ?_ ?_
              rotate_left
              · intro W hSw; (try dsimp only at hSw); go_simp; try with_reducible rfl
              simp only [Act.put, List.setIfInBounds_toArray, List.set_cons_zero, List.set_cons_succ]
              refine heldFork 0 6 (by kernel_rfl) ?_ ?_
              · refine heldOp 0 (by simp only [List.getElem?_toArray, List.getElem?_cons_succ, List.getElem?_cons_zero]; rfl) (fun K hK => ?_)
                go_simp
                refine hK.out _ _ ?_ (fun hHeld => ?_)
                · exact ⟨(Below.cell (p := ⟨Bx, 0, none⟩) (by repeat (first | exact Below.refl _ _ | exact hB4 | exact hB5 | refine Below.alloc ?_ (by first | (simp; done) | (have := hB4.size; simp; omega) | (have := hB4.size; omega)) _ | refine Below.drew ?_)) hbl6).trans e1, (Below.cell (p := ⟨Bx, 1, none⟩) (by repeat (first | exact Below.refl _ _ | exact hB4 | exact hB5 | refine Below.alloc ?_ (by first | (simp; done) | (have := hB4.size; simp; omega) | (have := hB4.size; omega)) _ | refine Below.drew ?_)) hbl6).trans e2⟩
                clear hK K
                (try simp only [Act.put, List.setIfInBounds_toArray, List.set_cons_zero, List.set_cons_succ])
                refine heldFork 4 6 (by kernel_rfl) ?_ ?_
                · refine heldOpLaw 4 (by simp only [List.getElem?_toArray, List.getElem?_cons_succ, List.getElem?_cons_zero]; rfl) (by rfl) (fun K hK => ?_)
                  refine wp_append_to _ (.tmp 52) (.tmp 55) _ rfl w6.heap.size 77 (.agg #[.string ByteArray.empty, .int .i64 0]) 2 24 Try.underlying61 cnt_info rfl (by omega) (some ⟨_, 0, none⟩) 0 0 [] rfl (own_empty (by simp) (by first | exact heapN1 _ _ | exact heapN3 _ _ _ | exact heapN2 _ _ _)) (some ⟨g, 0, none⟩) w6.heap.size m cq ((out.take m).flatMap cntEnc) rfl (hrO.below (by repeat (first | exact Below.refl _ _ | exact hB4 | exact hB5 | refine Below.alloc ?_ (by first | (simp; done) | (have := hB4.size; simp; omega) | (have := hB4.size; omega)) _ | refine Below.drew ?_))) (fun h => by first | rfl | cases h) (cnts_one _) m (by omega) (by unfold maxLen; omega) (by omega) (by first | (simp; done) | (simp; omega)) ?_
                  intro A4 c4 w4 hown4 hg4 hb4
                  have hB4 : Below w6.heap.size w6 w4 := Below.trans (by repeat (first | exact Below.refl _ _ | exact hB4 | exact hB5 | refine Below.alloc ?_ (by first | (simp; done) | (have := hB4.size; simp; omega) | (have := hB4.size; omega)) _ | refine Below.drew ?_)) hb4
                  simp only [List.nil_append] at hown4
                  refine hK.out _ _ ?_ (fun hHeld => ?_)
                  · exact ⟨(Below.cell (p := ⟨Bx, 0, none⟩) (by repeat (first | exact Below.refl _ _ | exact hB4 | exact hB5 | refine Below.alloc ?_ (by first | (simp; done) | (have := hB4.size; simp; omega) | (have := hB4.size; omega)) _ | refine Below.drew ?_)) hbl6).trans e1, (Below.cell (p := ⟨Bx, 1, none⟩) (by repeat (first | exact Below.refl _ _ | exact hB4 | exact hB5 | refine Below.alloc ?_ (by first | (simp; done) | (have := hB4.size; simp; omega) | (have := hB4.size; omega)) _ | refine Below.drew ?_)) hbl6).trans e2⟩
                  clear hK K
                  (try simp only [Act.put, List.setIfInBounds_toArray, List.set_cons_zero, List.set_cons_succ])
                  refine heldCall 6 (by simp only [List.getElem?_toArray, List.getElem?_cons_succ, List.getElem?_cons_zero]; rfl) (by kernel_rfl) (fun K hK => ?_)
                  go_simp
                  refine hK.out _ _ ?_ (fun hHeld => ?_)
                  · exact ⟨(Below.cell (p := ⟨Bx, 0, none⟩) (by repeat (first | exact Below.refl _ _ | exact hB4 | exact hB5 | refine Below.alloc ?_ (by first | (simp; done) | (have := hB4.size; simp; omega) | (have := hB4.size; omega)) _ | refine Below.drew ?_)) hbl6).trans e1, (Below.cell (p := ⟨Bx, 1, none⟩) (by repeat (first | exact Below.refl _ _ | exact hB4 | exact hB5 | refine Below.alloc ?_ (by first | (simp; done) | (have := hB4.size; simp; omega) | (have := hB4.size; omega)) _ | refine Below.drew ?_)) hbl6).trans e2⟩
                  clear hK K
                  (try simp only [Act.put, List.setIfInBounds_toArray, List.set_cons_zero, List.set_cons_succ])
                  refine heldLaw 7 (by simp only [List.getElem?_toArray, List.getElem?_cons_succ, List.getElem?_cons_zero]; rfl) (by kernel_rfl) (by rfl) (fun K hK => ?_)
                  refine wp_append_to _ (.tmp 56) (.tmp 58) _ rfl w6.heap.size 77 (.agg #[.string ByteArray.empty, .int .i64 0]) 2 24 Try.underlying61 cnt_info rfl (by omega) A4 m c4 ((out.take m).flatMap cntEnc) rfl (hown4.alloc _) (some ⟨_, 0, none⟩) _ 1 1 [.string x, .int .i64 cv] rfl (reads_blk (t := 77) (fr := (0, 0)) (heapM1 _ _) rfl) (fun h => by cases h) (by intro u hu; simp at hu; rcases hu with rfl | rfl <;> rfl) (m + 1) rfl (by unfold maxLen; omega) (by omega) (by have := hB4.size; first | (simp; done) | (simp; omega) | omega) ?_
                  intro A5 c5 w5 hown5 hg5 hb5
                  have hB5 : Below w6.heap.size w6 w5 := Below.trans (by repeat (first | exact Below.refl _ _ | exact hB4 | exact hB5 | refine Below.alloc ?_ (by first | (simp; done) | (have := hB4.size; simp; omega) | (have := hB4.size; omega)) _ | refine Below.drew ?_)) hb5
                  refine hK.out _ _ ?_ (fun hHeld => ?_)
                  · exact ⟨(Below.cell (p := ⟨Bx, 0, none⟩) (by repeat (first | exact Below.refl _ _ | exact hB4 | exact hB5 | refine Below.alloc ?_ (by first | (simp; done) | (have := hB4.size; simp; omega) | (have := hB4.size; omega)) _ | refine Below.drew ?_)) hbl6).trans e1, (Below.cell (p := ⟨Bx, 1, none⟩) (by repeat (first | exact Below.refl _ _ | exact hB4 | exact hB5 | refine Below.alloc ?_ (by first | (simp; done) | (have := hB4.size; simp; omega) | (have := hB4.size; omega)) _ | refine Below.drew ?_)) hbl6).trans e2⟩
                  clear hK K
                  (try simp only [Act.put, List.setIfInBounds_toArray, List.set_cons_zero, List.set_cons_succ])
                  refine heldTake 8 (v := ?_) (by simp only [List.getElem?_toArray, List.getElem?_cons_succ, List.getElem?_cons_zero]; rfl) (by kernel_rfl) (by intro _ _ _ h; exact h) (by rfl) (by assumption) ?_ ?_
                  rotate_left
                  · intro W hSw; (try dsimp only at hSw); go_simp; try with_reducible rfl
                  simp only [Act.put, List.setIfInBounds_toArray, List.set_cons_zero, List.set_cons_succ]
                  refine heldDone (by kernel_rfl) ?_ _
                  have hz5 : w6.heap.size ≤ w5.heap.size := hB5.size
                  have hrD := hrA.below hB5
                  by_cases hq : cq = m
                  · have hR1 : Reads w5 w6.heap.size 2 (some ⟨g, 0, none⟩) (out.length - m) ((out.drop m).flatMap cntEnc) := ⟨by rw [flat_len (e := cntEnc) (k := 2) (fun _ => rfl), List.length_drop], fun hp => by omega⟩
                    have hR2 : Reads w5 w6.heap.size 2 (some ⟨g, 0, none⟩) 0 ((out.drop m).flatMap cntEnc) := ⟨by rw [flat_len (e := cntEnc) (k := 2) (fun _ => rfl), List.length_drop, show out.length - m = 0 by omega], fun hp => by omega⟩
                    go_wp2_with (at_builtin; refine wpList_append_to w5 (by rfl) (.tmp 60) (.tmp 63) _ rfl w6.heap.size 77 (.agg #[.string ByteArray.empty, .int .i64 0]) 2 24 Try.underlying61 cnt_info rfl (by omega) A5 (m + 1) c5 _ rfl hown5 _ w6.heap.size _ _ ((out.drop m).flatMap cntEnc) rfl (by first | exact hR1 | exact hR2) (fun h => by cases h) (cnts_one _) (out.length + 1) (by omega) (by unfold maxLen; omega) (by omega) (by omega) ?_; intro A7 c7 w7 hown7 hg7 hb7)
                    obtain ⟨g7, cap7, hv7, _, _⟩ := hown7.form (by omega)
                    injection hv7 with hv7
                    subst hv7
                    go_roundg (g2 - 1)
                    case measure => have := HK.out; omega
                    case rel =>
                      have hln : (out.take m ++ [(⟨x, cv⟩ : CntV)] ++ out.drop m).length = out.length + 1 := by simp; omega
                      refine ⟨k + 1, g7, c7, out.take m ++ [(⟨x, cv⟩ : CntV)] ++ out.drop m, by go_num, Lib.hid (by have := HK.out; omega), by rw [hln], HIN, ?_, Lib.hid (HB6.out.trans ((hB5.mono HZ6.out).trans (hb7.mono HZ6.out)))⟩
                      rw [hln, List.flatMap_append, List.flatMap_append]
                      exact own_base hown7 HZ6.out
                  · have hR1 := hrD.drop (m := m) (c := cq) (by omega) (by omega) rfl
                    rw [if_neg hq] at hR1
                    rw [flat_dropD (e := cntEnc) (k := 2) (fun _ => rfl), Nat.zero_add] at hR1
                    have hR2 := hR1
                    go_wp2_with (at_builtin; refine wpList_append_to w5 (by rfl) (.tmp 60) (.tmp 63) _ rfl w6.heap.size 77 (.agg #[.string ByteArray.empty, .int .i64 0]) 2 24 Try.underlying61 cnt_info rfl (by omega) A5 (m + 1) c5 _ rfl hown5 _ w6.heap.size _ _ ((out.drop m).flatMap cntEnc) rfl (by first | exact hR1 | exact hR2) (fun h => by cases h) (cnts_one _) (out.length + 1) (by omega) (by unfold maxLen; omega) (by omega) (by omega) ?_; intro A7 c7 w7 hown7 hg7 hb7)
                    obtain ⟨g7, cap7, hv7, _, _⟩ := hown7.form (by omega)
                    injection hv7 with hv7
                    subst hv7
                    go_roundg (g2 - 1)
                    case measure => have := HK.out; omega
                    case rel =>
                      have hln : (out.take m ++ [(⟨x, cv⟩ : CntV)] ++ out.drop m).length = out.length + 1 := by simp; omega
                      refine ⟨k + 1, g7, c7, out.take m ++ [(⟨x, cv⟩ : CntV)] ++ out.drop m, by go_num, Lib.hid (by have := HK.out; omega), by rw [hln], HIN, ?_, Lib.hid (HB6.out.trans ((hB5.mono HZ6.out).trans (hb7.mono HZ6.out)))⟩
                      rw [hln, List.flatMap_append, List.flatMap_append]
                      exact own_base hown7 HZ6.out
                · refine heldOp 6 (by simp only [List.getElem?_toArray, List.getElem?_cons_succ, List.getElem?_cons_zero]; rfl) (fun K hK => ?_)
                  go_simp
                  refine hK.out _ _ ?_ (fun hHeld => ?_)
                  · exact ⟨(Below.cell (p := ⟨Bx, 0, none⟩) (by repeat (first | exact Below.refl _ _ | exact hB4 | exact hB5 | refine Below.alloc ?_ (by first | (simp; done) | (have := hB4.size; simp; omega) | (have := hB4.size; omega)) _ | refine Below.drew ?_)) hbl6).trans e1, (Below.cell (p := ⟨Bx, 1, none⟩) (by repeat (first | exact Below.refl _ _ | exact hB4 | exact hB5 | refine Below.alloc ?_ (by first | (simp; done) | (have := hB4.size; simp; omega) | (have := hB4.size; omega)) _ | refine Below.drew ?_)) hbl6).trans e2⟩
                  clear hK K
                  (try simp only [Act.put, List.setIfInBounds_toArray, List.set_cons_zero, List.set_cons_succ])
                  refine heldLaw 4 (by simp only [List.getElem?_toArray, List.getElem?_cons_succ, List.getElem?_cons_zero]; rfl) (by kernel_rfl) (by rfl) (fun K hK => ?_)
                  refine wp_append_to _ (.tmp 52) (.tmp 55) _ rfl w6.heap.size 77 (.agg #[.string ByteArray.empty, .int .i64 0]) 2 24 Try.underlying61 cnt_info rfl (by omega) (some ⟨_, 0, none⟩) 0 0 [] rfl (own_empty (by simp) (by first | exact heapN1 _ _ | exact heapN3 _ _ _ | exact heapN2 _ _ _)) (some ⟨g, 0, none⟩) w6.heap.size m cq ((out.take m).flatMap cntEnc) rfl (hrO.below (by repeat (first | exact Below.refl _ _ | exact hB4 | exact hB5 | refine Below.alloc ?_ (by first | (simp; done) | (have := hB4.size; simp; omega) | (have := hB4.size; omega)) _ | refine Below.drew ?_))) (fun h => by first | rfl | cases h) (cnts_one _) m (by omega) (by unfold maxLen; omega) (by omega) (by first | (simp; done) | (simp; omega)) ?_
                  intro A4 c4 w4 hown4 hg4 hb4
                  have hB4 : Below w6.heap.size w6 w4 := Below.trans (by repeat (first | exact Below.refl _ _ | exact hB4 | exact hB5 | refine Below.alloc ?_ (by first | (simp; done) | (have := hB4.size; simp; omega) | (have := hB4.size; omega)) _ | refine Below.drew ?_)) hb4
                  simp only [List.nil_append] at hown4
                  refine hK.out _ _ ?_ (fun hHeld => ?_)
                  · exact ⟨(Below.cell (p := ⟨Bx, 0, none⟩) (by repeat (first | exact Below.refl _ _ | exact hB4 | exact hB5 | refine Below.alloc ?_ (by first | (simp; done) | (have := hB4.size; simp; omega) | (have := hB4.size; omega)) _ | refine Below.drew ?_)) hbl6).trans e1, (Below.cell (p := ⟨Bx, 1, none⟩) (by repeat (first | exact Below.refl _ _ | exact hB4 | exact hB5 | refine Below.alloc ?_ (by first | (simp; done) | (have := hB4.size; simp; omega) | (have := hB4.size; omega)) _ | refine Below.drew ?_)) hbl6).trans e2⟩
                  clear hK K
                  (try simp only [Act.put, List.setIfInBounds_toArray, List.set_cons_zero, List.set_cons_succ])
                  refine heldLaw 7 (by simp only [List.getElem?_toArray, List.getElem?_cons_succ, List.getElem?_cons_zero]; rfl) (by kernel_rfl) (by rfl) (fun K hK => ?_)
                  refine wp_append_to _ (.tmp 56) (.tmp 58) _ rfl w6.heap.size 77 (.agg #[.string ByteArray.empty, .int .i64 0]) 2 24 Try.underlying61 cnt_info rfl (by omega) A4 m c4 ((out.take m).flatMap cntEnc) rfl hown4 (some ⟨_, 0, none⟩) _ 1 1 [.string x, .int .i64 cv] rfl (reads_blk (t := 77) (fr := (0, 0)) ((hg4.block _ (by first | (simp; done) | (simp; omega)) (by simp [Value.ownBlock])).trans (by first | exact heapN2 _ _ _ | exact heapN3 _ _ _)) rfl) (fun h => by cases h) (by intro u hu; simp at hu; rcases hu with rfl | rfl <;> rfl) (m + 1) rfl (by unfold maxLen; omega) (by omega) (by have := hB4.size; first | (simp; done) | (simp; omega) | omega) ?_
                  intro A5 c5 w5 hown5 hg5 hb5
                  have hB5 : Below w6.heap.size w6 w5 := Below.trans (by repeat (first | exact Below.refl _ _ | exact hB4 | exact hB5 | refine Below.alloc ?_ (by first | (simp; done) | (have := hB4.size; simp; omega) | (have := hB4.size; omega)) _ | refine Below.drew ?_)) hb5
                  refine hK.out _ _ ?_ (fun hHeld => ?_)
                  · exact ⟨(Below.cell (p := ⟨Bx, 0, none⟩) (by repeat (first | exact Below.refl _ _ | exact hB4 | exact hB5 | refine Below.alloc ?_ (by first | (simp; done) | (have := hB4.size; simp; omega) | (have := hB4.size; omega)) _ | refine Below.drew ?_)) hbl6).trans e1, (Below.cell (p := ⟨Bx, 1, none⟩) (by repeat (first | exact Below.refl _ _ | exact hB4 | exact hB5 | refine Below.alloc ?_ (by first | (simp; done) | (have := hB4.size; simp; omega) | (have := hB4.size; omega)) _ | refine Below.drew ?_)) hbl6).trans e2⟩
                  clear hK K
                  (try simp only [Act.put, List.setIfInBounds_toArray, List.set_cons_zero, List.set_cons_succ])
                  refine heldTake 8 (v := ?_) (by simp only [List.getElem?_toArray, List.getElem?_cons_succ, List.getElem?_cons_zero]; rfl) (by kernel_rfl) (by intro _ _ _ h; exact h) (by rfl) (by assumption) ?_ ?_
                  rotate_left
                  · intro W hSw; (try dsimp only at hSw); go_simp; try with_reducible rfl
                  simp only [Act.put, List.setIfInBounds_toArray, List.set_cons_zero, List.set_cons_succ]
                  refine heldDone (by kernel_rfl) ?_ _
                  have hz5 : w6.heap.size ≤ w5.heap.size := hB5.size
                  have hrD := hrA.below hB5
                  by_cases hq : cq = m
                  · have hR1 : Reads w5 w6.heap.size 2 (some ⟨g, 0, none⟩) (out.length - m) ((out.drop m).flatMap cntEnc) := ⟨by rw [flat_len (e := cntEnc) (k := 2) (fun _ => rfl), List.length_drop], fun hp => by omega⟩
                    have hR2 : Reads w5 w6.heap.size 2 (some ⟨g, 0, none⟩) 0 ((out.drop m).flatMap cntEnc) := ⟨by rw [flat_len (e := cntEnc) (k := 2) (fun _ => rfl), List.length_drop, show out.length - m = 0 by omega], fun hp => by omega⟩
                    go_wp2_with (at_builtin; refine wpList_append_to w5 (by rfl) (.tmp 60) (.tmp 63) _ rfl w6.heap.size 77 (.agg #[.string ByteArray.empty, .int .i64 0]) 2 24 Try.underlying61 cnt_info rfl (by omega) A5 (m + 1) c5 _ rfl hown5 _ w6.heap.size _ _ ((out.drop m).flatMap cntEnc) rfl (by first | exact hR1 | exact hR2) (fun h => by cases h) (cnts_one _) (out.length + 1) (by omega) (by unfold maxLen; omega) (by omega) (by omega) ?_; intro A7 c7 w7 hown7 hg7 hb7)
                    obtain ⟨g7, cap7, hv7, _, _⟩ := hown7.form (by omega)
                    injection hv7 with hv7
                    subst hv7
                    go_roundg (g2 - 1)
                    case measure => have := HK.out; omega
                    case rel =>
                      have hln : (out.take m ++ [(⟨x, cv⟩ : CntV)] ++ out.drop m).length = out.length + 1 := by simp; omega
                      refine ⟨k + 1, g7, c7, out.take m ++ [(⟨x, cv⟩ : CntV)] ++ out.drop m, by go_num, Lib.hid (by have := HK.out; omega), by rw [hln], HIN, ?_, Lib.hid (HB6.out.trans ((hB5.mono HZ6.out).trans (hb7.mono HZ6.out)))⟩
                      rw [hln, List.flatMap_append, List.flatMap_append]
                      exact own_base hown7 HZ6.out
                  · have hR1 := hrD.drop (m := m) (c := cq) (by omega) (by omega) rfl
                    rw [if_neg hq] at hR1
                    rw [flat_dropD (e := cntEnc) (k := 2) (fun _ => rfl), Nat.zero_add] at hR1
                    have hR2 := hR1
                    go_wp2_with (at_builtin; refine wpList_append_to w5 (by rfl) (.tmp 60) (.tmp 63) _ rfl w6.heap.size 77 (.agg #[.string ByteArray.empty, .int .i64 0]) 2 24 Try.underlying61 cnt_info rfl (by omega) A5 (m + 1) c5 _ rfl hown5 _ w6.heap.size _ _ ((out.drop m).flatMap cntEnc) rfl (by first | exact hR1 | exact hR2) (fun h => by cases h) (cnts_one _) (out.length + 1) (by omega) (by unfold maxLen; omega) (by omega) (by omega) ?_; intro A7 c7 w7 hown7 hg7 hb7)
                    obtain ⟨g7, cap7, hv7, _, _⟩ := hown7.form (by omega)
                    injection hv7 with hv7
                    subst hv7
                    go_roundg (g2 - 1)
                    case measure => have := HK.out; omega
                    case rel =>
                      have hln : (out.take m ++ [(⟨x, cv⟩ : CntV)] ++ out.drop m).length = out.length + 1 := by simp; omega
                      refine ⟨k + 1, g7, c7, out.take m ++ [(⟨x, cv⟩ : CntV)] ++ out.drop m, by go_num, Lib.hid (by have := HK.out; omega), by rw [hln], HIN, ?_, Lib.hid (HB6.out.trans ((hB5.mono HZ6.out).trans (hb7.mono HZ6.out)))⟩
                      rw [hln, List.flatMap_append, List.flatMap_append]
                      exact own_base hown7 HZ6.out
              · refine heldOp 6 (by simp only [List.getElem?_toArray, List.getElem?_cons_succ, List.getElem?_cons_zero]; rfl) (fun K hK => ?_)
                go_simp
                refine hK.out _ _ ?_ (fun hHeld => ?_)
                · exact ⟨(Below.cell (p := ⟨Bx, 0, none⟩) (by repeat (first | exact Below.refl _ _ | exact hB4 | exact hB5 | refine Below.alloc ?_ (by first | (simp; done) | (have := hB4.size; simp; omega) | (have := hB4.size; omega)) _ | refine Below.drew ?_)) hbl6).trans e1, (Below.cell (p := ⟨Bx, 1, none⟩) (by repeat (first | exact Below.refl _ _ | exact hB4 | exact hB5 | refine Below.alloc ?_ (by first | (simp; done) | (have := hB4.size; simp; omega) | (have := hB4.size; omega)) _ | refine Below.drew ?_)) hbl6).trans e2⟩
                clear hK K
                (try simp only [Act.put, List.setIfInBounds_toArray, List.set_cons_zero, List.set_cons_succ])
                refine heldCall 0 (by simp only [List.getElem?_toArray, List.getElem?_cons_succ, List.getElem?_cons_zero]; rfl) (by kernel_rfl) (fun K hK => ?_)
                go_simp
                refine hK.out _ _ ?_ (fun hHeld => ?_)
                · exact ⟨(Below.cell (p := ⟨Bx, 0, none⟩) (by repeat (first | exact Below.refl _ _ | exact hB4 | exact hB5 | refine Below.alloc ?_ (by first | (simp; done) | (have := hB4.size; simp; omega) | (have := hB4.size; omega)) _ | refine Below.drew ?_)) hbl6).trans e1, (Below.cell (p := ⟨Bx, 1, none⟩) (by repeat (first | exact Below.refl _ _ | exact hB4 | exact hB5 | refine Below.alloc ?_ (by first | (simp; done) | (have := hB4.size; simp; omega) | (have := hB4.size; omega)) _ | refine Below.drew ?_)) hbl6).trans e2⟩
                clear hK K
                (try simp only [Act.put, List.setIfInBounds_toArray, List.set_cons_zero, List.set_cons_succ])
                refine heldLaw 4 (by simp only [List.getElem?_toArray, List.getElem?_cons_succ, List.getElem?_cons_zero]; rfl) (by kernel_rfl) (by rfl) (fun K hK => ?_)
                refine wp_append_to _ (.tmp 52) (.tmp 55) _ rfl w6.heap.size 77 (.agg #[.string ByteArray.empty, .int .i64 0]) 2 24 Try.underlying61 cnt_info rfl (by omega) (some ⟨_, 0, none⟩) 0 0 [] rfl (own_empty (by simp) (by first | exact heapN1 _ _ | exact heapN3 _ _ _ | exact heapN2 _ _ _)) (some ⟨g, 0, none⟩) w6.heap.size m cq ((out.take m).flatMap cntEnc) rfl (hrO.below (by repeat (first | exact Below.refl _ _ | exact hB4 | exact hB5 | refine Below.alloc ?_ (by first | (simp; done) | (have := hB4.size; simp; omega) | (have := hB4.size; omega)) _ | refine Below.drew ?_))) (fun h => by first | rfl | cases h) (cnts_one _) m (by omega) (by unfold maxLen; omega) (by omega) (by first | (simp; done) | (simp; omega)) ?_
                intro A4 c4 w4 hown4 hg4 hb4
                have hB4 : Below w6.heap.size w6 w4 := Below.trans (by repeat (first | exact Below.refl _ _ | exact hB4 | exact hB5 | refine Below.alloc ?_ (by first | (simp; done) | (have := hB4.size; simp; omega) | (have := hB4.size; omega)) _ | refine Below.drew ?_)) hb4
                simp only [List.nil_append] at hown4
                refine hK.out _ _ ?_ (fun hHeld => ?_)
                · exact ⟨(Below.cell (p := ⟨Bx, 0, none⟩) (by repeat (first | exact Below.refl _ _ | exact hB4 | exact hB5 | refine Below.alloc ?_ (by first | (simp; done) | (have := hB4.size; simp; omega) | (have := hB4.size; omega)) _ | refine Below.drew ?_)) hbl6).trans e1, (Below.cell (p := ⟨Bx, 1, none⟩) (by repeat (first | exact Below.refl _ _ | exact hB4 | exact hB5 | refine Below.alloc ?_ (by first | (simp; done) | (have := hB4.size; simp; omega) | (have := hB4.size; omega)) _ | refine Below.drew ?_)) hbl6).trans e2⟩
                clear hK K
                (try simp only [Act.put, List.setIfInBounds_toArray, List.set_cons_zero, List.set_cons_succ])
                refine heldLaw 7 (by simp only [List.getElem?_toArray, List.getElem?_cons_succ, List.getElem?_cons_zero]; rfl) (by kernel_rfl) (by rfl) (fun K hK => ?_)
                refine wp_append_to _ (.tmp 56) (.tmp 58) _ rfl w6.heap.size 77 (.agg #[.string ByteArray.empty, .int .i64 0]) 2 24 Try.underlying61 cnt_info rfl (by omega) A4 m c4 ((out.take m).flatMap cntEnc) rfl hown4 (some ⟨_, 0, none⟩) _ 1 1 [.string x, .int .i64 cv] rfl (reads_blk (t := 77) (fr := (0, 0)) ((hg4.block _ (by first | (simp; done) | (simp; omega)) (by simp [Value.ownBlock])).trans (by first | exact heapN2 _ _ _ | exact heapN3 _ _ _)) rfl) (fun h => by cases h) (by intro u hu; simp at hu; rcases hu with rfl | rfl <;> rfl) (m + 1) rfl (by unfold maxLen; omega) (by omega) (by have := hB4.size; first | (simp; done) | (simp; omega) | omega) ?_
                intro A5 c5 w5 hown5 hg5 hb5
                have hB5 : Below w6.heap.size w6 w5 := Below.trans (by repeat (first | exact Below.refl _ _ | exact hB4 | exact hB5 | refine Below.alloc ?_ (by first | (simp; done) | (have := hB4.size; simp; omega) | (have := hB4.size; omega)) _ | refine Below.drew ?_)) hb5
                refine hK.out _ _ ?_ (fun hHeld => ?_)
                · exact ⟨(Below.cell (p := ⟨Bx, 0, none⟩) (by repeat (first | exact Below.refl _ _ | exact hB4 | exact hB5 | refine Below.alloc ?_ (by first | (simp; done) | (have := hB4.size; simp; omega) | (have := hB4.size; omega)) _ | refine Below.drew ?_)) hbl6).trans e1, (Below.cell (p := ⟨Bx, 1, none⟩) (by repeat (first | exact Below.refl _ _ | exact hB4 | exact hB5 | refine Below.alloc ?_ (by first | (simp; done) | (have := hB4.size; simp; omega) | (have := hB4.size; omega)) _ | refine Below.drew ?_)) hbl6).trans e2⟩
                clear hK K
                (try simp only [Act.put, List.setIfInBounds_toArray, List.set_cons_zero, List.set_cons_succ])
                refine heldTake 8 (v := ?_) (by simp only [List.getElem?_toArray, List.getElem?_cons_succ, List.getElem?_cons_zero]; rfl) (by kernel_rfl) (by intro _ _ _ h; exact h) (by rfl) (by assumption) ?_ ?_
                rotate_left
                · intro W hSw; (try dsimp only at hSw); go_simp; try with_reducible rfl
                simp only [Act.put, List.setIfInBounds_toArray, List.set_cons_zero, List.set_cons_succ]
                refine heldDone (by kernel_rfl) ?_ _
                have hz5 : w6.heap.size ≤ w5.heap.size := hB5.size
                have hrD := hrA.below hB5
                by_cases hq : cq = m
                · have hR1 : Reads w5 w6.heap.size 2 (some ⟨g, 0, none⟩) (out.length - m) ((out.drop m).flatMap cntEnc) := ⟨by rw [flat_len (e := cntEnc) (k := 2) (fun _ => rfl), List.length_drop], fun hp => by omega⟩
                  have hR2 : Reads w5 w6.heap.size 2 (some ⟨g, 0, none⟩) 0 ((out.drop m).flatMap cntEnc) := ⟨by rw [flat_len (e := cntEnc) (k := 2) (fun _ => rfl), List.length_drop, show out.length - m = 0 by omega], fun hp => by omega⟩
                  go_wp2_with (at_builtin; refine wpList_append_to w5 (by rfl) (.tmp 60) (.tmp 63) _ rfl w6.heap.size 77 (.agg #[.string ByteArray.empty, .int .i64 0]) 2 24 Try.underlying61 cnt_info rfl (by omega) A5 (m + 1) c5 _ rfl hown5 _ w6.heap.size _ _ ((out.drop m).flatMap cntEnc) rfl (by first | exact hR1 | exact hR2) (fun h => by cases h) (cnts_one _) (out.length + 1) (by omega) (by unfold maxLen; omega) (by omega) (by omega) ?_; intro A7 c7 w7 hown7 hg7 hb7)
                  obtain ⟨g7, cap7, hv7, _, _⟩ := hown7.form (by omega)
                  injection hv7 with hv7
                  subst hv7
                  go_roundg (g2 - 1)
                  case measure => have := HK.out; omega
                  case rel =>
                    have hln : (out.take m ++ [(⟨x, cv⟩ : CntV)] ++ out.drop m).length = out.length + 1 := by simp; omega
                    refine ⟨k + 1, g7, c7, out.take m ++ [(⟨x, cv⟩ : CntV)] ++ out.drop m, by go_num, Lib.hid (by have := HK.out; omega), by rw [hln], HIN, ?_, Lib.hid (HB6.out.trans ((hB5.mono HZ6.out).trans (hb7.mono HZ6.out)))⟩
                    rw [hln, List.flatMap_append, List.flatMap_append]
                    exact own_base hown7 HZ6.out
                · have hR1 := hrD.drop (m := m) (c := cq) (by omega) (by omega) rfl
                  rw [if_neg hq] at hR1
                  rw [flat_dropD (e := cntEnc) (k := 2) (fun _ => rfl), Nat.zero_add] at hR1
                  have hR2 := hR1
                  go_wp2_with (at_builtin; refine wpList_append_to w5 (by rfl) (.tmp 60) (.tmp 63) _ rfl w6.heap.size 77 (.agg #[.string ByteArray.empty, .int .i64 0]) 2 24 Try.underlying61 cnt_info rfl (by omega) A5 (m + 1) c5 _ rfl hown5 _ w6.heap.size _ _ ((out.drop m).flatMap cntEnc) rfl (by first | exact hR1 | exact hR2) (fun h => by cases h) (cnts_one _) (out.length + 1) (by omega) (by unfold maxLen; omega) (by omega) (by omega) ?_; intro A7 c7 w7 hown7 hg7 hb7)
                  obtain ⟨g7, cap7, hv7, _, _⟩ := hown7.form (by omega)
                  injection hv7 with hv7
                  subst hv7
                  go_roundg (g2 - 1)
                  case measure => have := HK.out; omega
                  case rel =>
                    have hln : (out.take m ++ [(⟨x, cv⟩ : CntV)] ++ out.drop m).length = out.length + 1 := by simp; omega
                    refine ⟨k + 1, g7, c7, out.take m ++ [(⟨x, cv⟩ : CntV)] ++ out.drop m, by go_num, Lib.hid (by have := HK.out; omega), by rw [hln], HIN, ?_, Lib.hid (HB6.out.trans ((hB5.mono HZ6.out).trans (hb7.mono HZ6.out)))⟩
                    rw [hln, List.flatMap_append, List.flatMap_append]
                    exact own_base hown7 HZ6.out
    · have hall : ks.take k = ks := List.take_of_length_le (by omega)
      have hfin := HO.out
      rw [hall] at hfin
      have HF := Lib.hid (hfin.fin HKD.out)
      have hat := (Reads.of_own hown : CntsAt wr wr.heap.size (some ⟨g, 0, none⟩) out)
      have HAT := Lib.hid hat
      have HBW : Hid (Below w.heap.size w wr) := Lib.hid (HB1.out.trans (HB2.out.mono HB1.out.size))
      have fin : ∀ (m : Nat) (v : Value), m = topM n out.length → v = .slice (some ⟨g, 0, none⟩) m cq → RTopNew w hf now n L (.returned v) wr := by
        rintro m v rfl rfl
        have hlt : (out.take (topM n out.length)).length = topM n out.length := by rw [List.length_take]; have := topM_le n out.length; omega
        refine ⟨g, cq, out.take (topM n out.length), by rw [hlt], ⟨out, HF.out, rfl⟩, ?_, HBW.out⟩
        have := CntsAt.take HAT.out (topM n out.length) (topM_le _ _)
        unfold CntsAt
        rw [hlt]
        exact this
      have FIN := Lib.hid fin
      clear fin hat hfin hall hown HO
      by_cases n0 : n < 0
      · by_cases hl0 : (0 : Int) < (out.length : Int)
        · have hl0' : decide (0 < out.length) = true := by simpa using (by omega : 0 < out.length)
          have FIN0 := Lib.hid (FIN.out 0 _ (by unfold topM; omega) rfl)
          go_wp2
          go_ret
          exact FIN0.out
        · have FIN0 := Lib.hid (FIN.out out.length _ (by unfold topM; omega) rfl)
          go_wp2
          go_ret
          exact FIN0.out
      · obtain ⟨nn, rfl⟩ : ∃ nn : Nat, n = (nn : Int) := ⟨n.toNat, by omega⟩
        by_cases hnl : (nn : Int) < (out.length : Int)
        · have FIN0 := Lib.hid (FIN.out nn _ (by unfold topM; omega) rfl)
          have hnc : (nn : Int) ≤ (cq : Int) := by omega
          go_wp2
          go_ret
          exact FIN0.out
        · have FIN0 := Lib.hid (FIN.out out.length _ (by unfold topM; omega) rfl)
          go_wp2
          go_ret
          exact FIN0.out
end Go.Proofs.Ytgahopkbgefjdaa
