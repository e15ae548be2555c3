/- Contract of the reference's Top of counts. -/
import Derived.Test.YtcaglkefhbbnbaaWtC
import Derived.Test.YtcaglkefhbbnbaaWtB
import Derived.Test.YtcaglkefhbbnbaaLawE
namespace Go.Proofs.Ytcaglkefhbbnbaa
open Go.ChangeShapes Go.WideShapes Go.ChangeAt Go.RowKit Go.Shelf Go.Lib Go.Sort Go.Proofs
set_option linter.unusedVariables false
set_option linter.unusedSimpArgs false

theorem beq_keyC (x y : ByteArray) : (x.toList == y.toList) = decide (x = y) := by
  by_cases h : x = y
  · rw [h]; simp
  · rw [decide_eq_false h, beq_eq_false_iff_ne]; exact fun e => h (toList_inj e)
/-- The row, as far as the adds have been looked at. -/
def CAt (V : ByteArray → Int) (ks : List AddD) (out : List CntV) : Prop :=
  out.Pairwise (fun x y => cntLt x y = true) ∧ (∀ r, r ∈ out ↔ (r.n = V r.key ∧ 0 < r.n) ∧ ∃ a ∈ ks, a.key = r.key) ∧ out.length ≤ ks.length
theorem CAt.nil (V : ByteArray → Int) : CAt V [] [] := ⟨List.Pairwise.nil, fun r => by simp, by simp⟩
theorem CAt.skip {V : ByteArray → Int} {ks : List AddD} {out : List CntV} (h : CAt V ks out) {a : AddD} (ha : (∃ x ∈ ks, x.key = a.key) ∨ ¬ 0 < V a.key) : CAt V (ks ++ [a]) out := by
  refine ⟨h.1, fun r => ?_, by rw [List.length_append]; have := h.2.2; omega⟩
  rw [h.2.1]
  constructor
  · rintro ⟨h1, x, hx, e⟩; exact ⟨h1, x, by simp [hx], e⟩
  · rintro ⟨h1, x, hx, e⟩
    refine ⟨h1, ?_⟩
    rw [List.mem_append] at hx
    rcases hx with hx | hx
    · exact ⟨x, hx, e⟩
    · simp at hx
      subst hx
      rcases ha with ⟨y, hy, ey⟩ | ha
      · exact ⟨y, hy, ey.trans e⟩
      · exfalso
        rw [e] at ha
        omega
theorem CAt.put {V : ByteArray → Int} {ks : List AddD} {out : List CntV} (h : CAt V ks out) {a : AddD} (h1 : ¬ ∃ x ∈ ks, x.key = a.key) (h2 : 0 < V a.key) : CAt V (ks ++ [a]) (insG cntLt ⟨a.key, V a.key⟩ out) := by
  refine ⟨insG_sorted cntLt_tr cntLt_tot h.1 (fun hm => ?_), fun r => ?_, by rw [insG_len, List.length_append]; have := h.2.2; simp; omega⟩
  · obtain ⟨_, x, hx, e⟩ := (h.2.1 _).1 hm
    exact h1 ⟨x, hx, e⟩
  · rw [insG_mem, h.2.1]
    constructor
    · rintro (rfl | ⟨h4, x, hx, e⟩)
      · exact ⟨⟨rfl, h2⟩, a, by simp, rfl⟩
      · exact ⟨h4, x, by simp [hx], e⟩
    · rintro ⟨h4, x, hx, e⟩
      rw [List.mem_append] at hx
      rcases hx with hx | hx
      · exact .inr ⟨h4, x, hx, e⟩
      · simp at hx
        subst hx
        left
        exact CntV.same ⟨e.symm, by rw [h4.1, e]⟩
theorem CAt.fin {wd s h e n : Int} {l : List AddD} {out : List CntV} (hc : CAt (fun k => atV wd (l.filter rightB) s h k e) l out) : TopIs wd (l.filter rightB) s h e n (out.take (topM n out.length)) := by
  unfold TopIs
  by_cases hx : 0 < n ∧ isEndB s h wd e = true
  · rw [if_pos hx]
    refine ⟨out, ⟨hc.1, fun r => ?_⟩, rfl⟩
    rw [hc.2.1]
    have e1 : atV wd (l.filter rightB) s h r.key e = histTot wd (l.filter rightB) r.key ((e - s) / wd) (e / wd) := by unfold atV; rw [if_pos hx.2]
    simp only [e1]
    constructor
    · rintro ⟨h1, _⟩; exact h1
    · intro h1
      refine ⟨h1, ?_⟩
      obtain ⟨a, ha, ek, _⟩ := histTot_key (wd := wd) (hist := l.filter rightB) (key := r.key) (lo := (e - s) / wd) (hi := e / wd) (by omega)
      exact ⟨a, (List.mem_filter.1 ha).1, ek⟩
  · rw [if_neg hx]
    by_cases hn : 0 < n
    · have hE : ¬ isEndB s h wd e = true := fun h => hx ⟨hn, h⟩
      have : out = [] := by
        cases out with
        | nil => rfl
        | cons a t =>
          have := ((hc.2.1 a).1 (by simp)).1
          simp only [atV] at this
          rw [if_neg hE] at this
          omega
      rw [this]
      simp
    · have : topM n out.length = 0 := by unfold topM; omega
      rw [this, List.take_zero]
theorem TopIs.uniq {wd s h e n : Int} {hist : List AddD} {ts us : List CntV} (h1 : TopIs wd hist s h e n ts) (h2 : TopIs wd hist s h e n us) : ts = us := by
  unfold TopIs at h1 h2
  by_cases hx : 0 < n ∧ isEndB s h wd e = true
  · rw [if_pos hx] at h1 h2
    obtain ⟨cs, hc, rfl⟩ := h1
    obtain ⟨ds, hd, rfl⟩ := h2
    rw [hc.uniq hd]
  · rw [if_neg hx] at h1 h2
    rw [h1, h2]

/-- What the reference's Top leaves. -/
def CTopNew (w : World) (wd : Int) (hist : List AddD) (s h e n : Int) (r : Ending) (w' : World) : Prop :=
  ∃ A c ts, r = .returned (.slice A (List.length ts) c) ∧ TopIs wd hist s h e n ts ∧ CntsAt w' w'.heap.size A ts ∧ Below w.heap.size w w'

set_option maxRecDepth 20000 in
set_option maxHeartbeats 4000000 in
theorem ctop_any (A : Option Addr) (c : Nat) (l : List AddD) (s h wd e n : Int) (w : World) (hl : AddsAt w w.heap.size A l) (hlen : (l.length : Int) ≤ 60) :
    Calls Try.prog 29 #[.slice A l.length c, .agg #[.int .i64 s, .int .i64 h], .int .i64 wd, .int .i64 e, .int .i64 n] w (CTopNew w wd (l.filter rightB) s h e n) := by
  obtain ⟨V, hV⟩ : ∃ V : ByteArray → Int, V = fun k => atV wd (l.filter rightB) s h k e := ⟨_, rfl⟩
  have HV := Lib.hid hV
  have hat := fun key W (hb : Below w.heap.size w W) => rat_any A c l s h wd key e W ((hl.below hb).more hb.size) (by omega)
  have hat' : ∀ key W, Below w.heap.size w W → Calls Try.prog 23 #[.slice A l.length c, .agg #[.int .i64 s, .int .i64 h], .int .i64 wd, .string key, .int .i64 e] W fun r w' => r = .returned (.int .i64 (V key)) ∧ Below W.heap.size W w' := by
    intro key W hb
    have := hat key W hb
    rw [← atV_refAt] at this
    rw [HV.out]
    exact this
  have HAT := Lib.hid hat'
  have HL := Lib.hid hl
  clear hat hat' hV hl
  go_enter Try.func29, Try.ntmps29
  go_wp2_with fail
  have f0 : ((w.alloc (Obj.cells #[.int .i64 s, .int .i64 h] 23)).alloc (.cells #[] 53)).cell? ⟨w.heap.size, 0, none⟩ = some (.int .i64 s) := by simp
  have f1 : ((w.alloc (Obj.cells #[.int .i64 s, .int .i64 h] 23)).alloc (.cells #[] 53)).cell? ⟨w.heap.size, 1, none⟩ = some (.int .i64 h) := by simp
  have hz8 : w.heap.size + 1 < ((w.alloc (Obj.cells #[.int .i64 s, .int .i64 h] 23)).alloc (.cells #[] 53)).heap.size := by simp
  have hb0 : Below w.heap.size w ((w.alloc (Obj.cells #[.int .i64 s, .int .i64 h] 23)).alloc (.cells #[] 53)) := ((Below.refl _ _).alloc (Nat.le_refl _) _).alloc (by simp) _
  have ho0 : ((w.alloc (Obj.cells #[.int .i64 s, .int .i64 h] 23)).alloc (.cells #[] 53)).ownsRow (w.heap.size + 1) 53 2 (.slice (some ⟨w.heap.size + 1, 0, none⟩) 0 0) 0 [] := own_empty (Nat.le_refl _) (by
    have := heap_alloc_new (w.alloc (Obj.cells #[.int .i64 s, .int .i64 h] 23)) (.cells #[] 53)
    rwa [World.size_alloc] at this)
  generalize (w.alloc (Obj.cells #[.int .i64 s, .int .i64 h] 23)).alloc (.cells #[] 53) = W0 at *
  go_loopg [11, 12] l.length (fun rest q i wr => ∃ (k : Nat) (A4 : Option Addr) (c4 : Nat) (out : List CntV), i = .int .i64 k ∧ Hid (k + rest = l.length) ∧ q = .slice A4 out.length c4 ∧ Hid (CAt V (l.take k) out) ∧
    Hid (out.length ≤ c4) ∧ CntsAt wr wr.heap.size A4 out ∧ Below (w.heap.size + 1) W0 wr)
  case atStart => exact ⟨0, _, 0, [], rfl, Lib.hid (by simp), rfl, Lib.hid (CAt.nil _), Lib.hid (by simp), Reads.of_own ho0, Below.refl _ _⟩
  case round =>
    clear ho0
    obtain ⟨k, A4, c4, out, rfl, HK, rfl, HA, HCP, hown, hb⟩ := hrel
    have hol : (out.length : Int) ≤ (k : Int) := by
      have h1 := HA.out.2.2
      have h2 := List.length_take_le k l
      omega
    have hzr := hb.size
    have hbw : Below w.heap.size w wr := hb0.trans (hb.mono (by omega))
    have s0 := (hb.cell (p := ⟨w.heap.size, 0, none⟩) (by show w.heap.size < _; omega)).trans f0
    have s1 := (hb.cell (p := ⟨w.heap.size, 1, none⟩) (by show w.heap.size < _; omega)).trans f1
    by_cases hk : (k : Int) < (l.length : Int)
    · have hkl : k < l.length := by omega
      have hkt : l.take (k + 1) = l.take k ++ [l[k]] := List.take_succ_eq_append_getElem hkl
      have HKT := Lib.hid hkt
      clear hkt
      obtain ⟨b, o, rfl, hbl, c1, c2, c3⟩ := (HL.out.below hbw).one hkl
      have hfirst : ∀ m (hm : m < l.length), (l.take (m + 1)).any (fun a => decide (a.key = l[k].key)) = ((l.take m).any (fun a => decide (a.key = l[k].key)) || decide (l[m].key = l[k].key)) := fun m hm => any_take_snoc l _ hm
      have HFI := Lib.hid hfirst
      clear hfirst
      generalize l[k] = x at *
      have HOW := Lib.hid hown
      clear hown c2 c3
      go_wp2_with fail
      generalize wr = w6 at *
      generalize gk = g6 at *
      go_loopg [13, 14] k (fun rest f j wx => ∃ (m : Nat), j = .int .i64 m ∧ Hid (m + rest = k) ∧ f = .bool (!(l.take m).any (fun a => decide (a.key = x.key))) ∧ Below w6.heap.size w6 wx)
      case atStart => exact ⟨0, rfl, Lib.hid (by simp), rfl, Below.refl _ _⟩
      case round =>
        obtain ⟨m, rfl, HM, rfl, hbm⟩ := hrel
        have c1m := (hbm.cell (p := ⟨b, o + k * 3, none⟩) (by show b < _; omega)).trans c1
        by_cases hmk : (m : Int) < (k : Int)
        · have hml : m < l.length := by omega
          obtain ⟨b', o', e', hbl', d1, d2, d3⟩ := (HL.out.below (hbw.trans (hbm.mono (by omega)))).one hml
          injection e' with e'
          injection e' with e1 e2
          subst e1 e2
          have hsn := HFI.out m hml
          generalize l[m] = y at *
          have he := beq_keyC y.key x.key
          have HSN := Lib.hid hsn
          generalize decide (y.key = x.key) = eb at *
          generalize (l.take m).any (fun a => decide (a.key = x.key)) = fb at *
          clear hsn d2 d3
          have hml' : (m : Int) < (l.length : Int) := by omega
          cases fb with
          | false =>
            go_wp2_with fail
            refine heldStart 14 (S := fun W => W.cell? ⟨b, o + m * 3, none⟩ = some (.string y.key) ∧ W.cell? ⟨b, o + k * 3, none⟩ = some (.string x.key)) (by kernel_rfl) ?_ (fun hHeld => ?_)
            · exact ⟨d1, c1m⟩
            refine heldTake 0 (v := ?_) (by simp only [List.getElem?_toArray, List.getElem?_cons_succ, List.getElem?_cons_zero]; rfl) (by kernel_rfl) (by intro _ _ _ h; exact h) (by rfl) (by assumption) ?_ ?_
            rotate_left
            · intro W hSw; (try dsimp only at hSw); go_simp; try with_reducible rfl
            simp only [Act.put, List.setIfInBounds_toArray, List.set_cons_zero, List.set_cons_succ]
            refine heldTake 1 (v := ?_) (by simp only [List.getElem?_toArray, List.getElem?_cons_succ, List.getElem?_cons_zero]; rfl) (by kernel_rfl) (by intro _ _ _ h; exact h) (by rfl) (by assumption) ?_ ?_
            rotate_left
            · intro W hSw; (try dsimp only at hSw); go_simp; try with_reducible rfl
            simp only [Act.put, List.setIfInBounds_toArray, List.set_cons_zero, List.set_cons_succ]
            refine heldTake 2 (v := ?_) (by simp only [List.getElem?_toArray, List.getElem?_cons_succ, List.getElem?_cons_zero]; rfl) (by kernel_rfl) (by intro _ _ _ h; exact h) (by rfl) (by assumption) ?_ ?_
            rotate_left
            · intro W hSw; (try dsimp only at hSw); go_simp; try with_reducible rfl
            simp only [Act.put, List.setIfInBounds_toArray, List.set_cons_zero, List.set_cons_succ]
            refine heldTake 3 (v := ?_) (by simp only [List.getElem?_toArray, List.getElem?_cons_succ, List.getElem?_cons_zero]; rfl) (by kernel_rfl) (by intro _ _ _ h; exact h) (by rfl) (by assumption) ?_ ?_
            rotate_left
            · intro W hSw; (try dsimp only at hSw); go_simp; try with_reducible rfl
            simp only [Act.put, List.setIfInBounds_toArray, List.set_cons_zero, List.set_cons_succ]
            refine heldTake 4 (v := ?_) (by simp only [List.getElem?_toArray, List.getElem?_cons_succ, List.getElem?_cons_zero]; rfl) (by kernel_rfl) (by intro _ _ _ h; exact h) (by rfl) (by assumption) ?_ ?_
            rotate_left
            · intro W hSw; (try dsimp only at hSw); go_simp; try with_reducible rfl
            simp only [Act.put, List.setIfInBounds_toArray, List.set_cons_zero, List.set_cons_succ]
            refine heldTake 5 (v := ?_) (by simp only [List.getElem?_toArray, List.getElem?_cons_succ, List.getElem?_cons_zero]; rfl) (by kernel_rfl) (by intro _ _ _ h; exact h) (by rfl) (by assumption) ?_ ?_
            rotate_left
            · intro W hSw; (try dsimp only at hSw); go_simp; try with_reducible rfl
            simp only [Act.put, List.setIfInBounds_toArray, List.set_cons_zero, List.set_cons_succ]
            refine heldTake 6 (v := ?_) (by simp only [List.getElem?_toArray, List.getElem?_cons_succ, List.getElem?_cons_zero]; rfl) (by kernel_rfl) (by intro _ _ _ h; exact h) (by rfl) (by assumption) ?_ ?_
            rotate_left
            · intro W hSw; (try dsimp only at hSw); go_simp; try with_reducible rfl
            simp only [Act.put, List.setIfInBounds_toArray, List.set_cons_zero, List.set_cons_succ]
            refine heldTake 7 (v := ?_) (by simp only [List.getElem?_toArray, List.getElem?_cons_succ, List.getElem?_cons_zero]; rfl) (by kernel_rfl) (by intro _ _ _ h; exact h) (by rfl) (by assumption) ?_ ?_
            rotate_left
            · intro W hSw; (try dsimp only at hSw); go_simp; try with_reducible rfl
            simp only [Act.put, List.setIfInBounds_toArray, List.set_cons_zero, List.set_cons_succ]
            refine heldTake 8 (v := ?_) (by simp only [List.getElem?_toArray, List.getElem?_cons_succ, List.getElem?_cons_zero]; rfl) (by kernel_rfl) (by intro _ _ _ h; exact h) (by rfl) (by assumption) ?_ ?_
            rotate_left
            · intro W hSw; (try dsimp only at hSw); go_simp; try with_reducible rfl
            simp only [Act.put, List.setIfInBounds_toArray, List.set_cons_zero, List.set_cons_succ]
            refine heldTake 9 (v := ?_) (by simp only [List.getElem?_toArray, List.getElem?_cons_succ, List.getElem?_cons_zero]; rfl) (by kernel_rfl) (by intro _ _ _ h; exact h) (by rfl) (by assumption) ?_ ?_
            rotate_left
            · intro W hSw; (try dsimp only at hSw); go_simp; try with_reducible rfl
            simp only [Act.put, List.setIfInBounds_toArray, List.set_cons_zero, List.set_cons_succ]
            refine heldTake 10 (v := ?_) (by simp only [List.getElem?_toArray, List.getElem?_cons_succ, List.getElem?_cons_zero]; rfl) (by kernel_rfl) (by intro _ _ _ h; exact h) (by rfl) (by assumption) ?_ ?_
            rotate_left
            · intro W hSw; (try dsimp only at hSw); go_simp; try with_reducible rfl
            simp only [Act.put, List.setIfInBounds_toArray, List.set_cons_zero, List.set_cons_succ]
            refine heldTake 11 (v := ?_) (by simp only [List.getElem?_toArray, List.getElem?_cons_succ, List.getElem?_cons_zero]; rfl) (by kernel_rfl) (by intro _ _ _ h; exact h) (by rfl) (by assumption) ?_ ?_
            rotate_left
            · intro W hSw; (try dsimp only at hSw); go_simp; try with_reducible rfl
            simp only [Act.put, List.setIfInBounds_toArray, List.set_cons_zero, List.set_cons_succ]
            refine heldTake 12 (v := ?_) (by simp only [List.getElem?_toArray, List.getElem?_cons_succ, List.getElem?_cons_zero]; rfl) (by kernel_rfl) (by intro _ _ _ h; exact h) (by rfl) (by assumption) ?_ ?_
            rotate_left
            · intro W hSw; (try dsimp only at hSw); go_simp; try with_reducible rfl
            simp only [Act.put, List.setIfInBounds_toArray, List.set_cons_zero, List.set_cons_succ]
            refine heldTake 13 (v := ?_) (by simp only [List.getElem?_toArray, List.getElem?_cons_succ, List.getElem?_cons_zero]; rfl) (by kernel_rfl) (by intro _ _ _ h; exact h) (by rfl) (by assumption) ?_ ?_
            rotate_left
            · intro W hSw; (try dsimp only at hSw); go_simp; try with_reducible rfl
            simp only [Act.put, List.setIfInBounds_toArray, List.set_cons_zero, List.set_cons_succ]
            refine heldTake 14 (v := ?_) (by simp only [List.getElem?_toArray, List.getElem?_cons_succ, List.getElem?_cons_zero]; rfl) (by kernel_rfl) (by intro _ _ _ h; exact h) (by rfl) (by assumption) ?_ ?_
            rotate_left
            · intro W hSw; (try dsimp only at hSw); go_simp; try with_reducible rfl
            simp only [Act.put, List.setIfInBounds_toArray, List.set_cons_zero, List.set_cons_succ]
            refine heldDone (by kernel_rfl) ?_ _
            go_wp2
            go_roundg (gk - 1)
            case measure => have := HM.out; omega
            case rel => exact ⟨m + 1, by go_num, Lib.hid (by have := HM.out; omega), by rw [HSN.out]; rfl, hbm.drew⟩
          | true =>
            go_wp2_with fail
            refine heldStart 14 (S := fun W => W.cell? ⟨b, o + m * 3, none⟩ = some (.string y.key) ∧ W.cell? ⟨b, o + k * 3, none⟩ = some (.string x.key)) (by kernel_rfl) ?_ (fun hHeld => ?_)
            · exact ⟨d1, c1m⟩
            refine heldTake 0 (v := ?_) (by simp only [List.getElem?_toArray, List.getElem?_cons_succ, List.getElem?_cons_zero]; rfl) (by kernel_rfl) (by intro _ _ _ h; exact h) (by rfl) (by assumption) ?_ ?_
            rotate_left
            · intro W hSw; (try dsimp only at hSw); go_simp; try with_reducible rfl
            simp only [Act.put, List.setIfInBounds_toArray, List.set_cons_zero, List.set_cons_succ]
            refine heldTake 1 (v := ?_) (by simp only [List.getElem?_toArray, List.getElem?_cons_succ, List.getElem?_cons_zero]; rfl) (by kernel_rfl) (by intro _ _ _ h; exact h) (by rfl) (by assumption) ?_ ?_
            rotate_left
            · intro W hSw; (try dsimp only at hSw); go_simp; try with_reducible rfl
            simp only [Act.put, List.setIfInBounds_toArray, List.set_cons_zero, List.set_cons_succ]
            refine heldSkip 2 (by simp only [List.getElem?_toArray, List.getElem?_cons_succ, List.getElem?_cons_zero]; rfl) (by kernel_rfl) (by intro _ _ _ h; exact h) (by rfl) (by assumption) ?_
            simp only [Act.put, List.setIfInBounds_toArray, List.set_cons_zero, List.set_cons_succ]
            refine heldSkip 3 (by simp only [List.getElem?_toArray, List.getElem?_cons_succ, List.getElem?_cons_zero]; rfl) (by kernel_rfl) (by intro _ _ _ h; exact h) (by rfl) (by assumption) ?_
            simp only [Act.put, List.setIfInBounds_toArray, List.set_cons_zero, List.set_cons_succ]
            refine heldSkip 4 (by simp only [List.getElem?_toArray, List.getElem?_cons_succ, List.getElem?_cons_zero]; rfl) (by kernel_rfl) (by intro _ _ _ h; exact h) (by rfl) (by assumption) ?_
            simp only [Act.put, List.setIfInBounds_toArray, List.set_cons_zero, List.set_cons_succ]
            refine heldSkip 5 (by simp only [List.getElem?_toArray, List.getElem?_cons_succ, List.getElem?_cons_zero]; rfl) (by kernel_rfl) (by intro _ _ _ h; exact h) (by rfl) (by assumption) ?_
            simp only [Act.put, List.setIfInBounds_toArray, List.set_cons_zero, List.set_cons_succ]
            refine heldSkip 6 (by simp only [List.getElem?_toArray, List.getElem?_cons_succ, List.getElem?_cons_zero]; rfl) (by kernel_rfl) (by intro _ _ _ h; exact h) (by rfl) (by assumption) ?_
            simp only [Act.put, List.setIfInBounds_toArray, List.set_cons_zero, List.set_cons_succ]
            refine heldSkip 7 (by simp only [List.getElem?_toArray, List.getElem?_cons_succ, List.getElem?_cons_zero]; rfl) (by kernel_rfl) (by intro _ _ _ h; exact h) (by rfl) (by assumption) ?_
            simp only [Act.put, List.setIfInBounds_toArray, List.set_cons_zero, List.set_cons_succ]
            refine heldSkip 8 (by simp only [List.getElem?_toArray, List.getElem?_cons_succ, List.getElem?_cons_zero]; rfl) (by kernel_rfl) (by intro _ _ _ h; exact h) (by rfl) (by assumption) ?_
            simp only [Act.put, List.setIfInBounds_toArray, List.set_cons_zero, List.set_cons_succ]
            refine heldSkip 9 (by simp only [List.getElem?_toArray, List.getElem?_cons_succ, List.getElem?_cons_zero]; rfl) (by kernel_rfl) (by intro _ _ _ h; exact h) (by rfl) (by assumption) ?_
            simp only [Act.put, List.setIfInBounds_toArray, List.set_cons_zero, List.set_cons_succ]
            refine heldSkip 10 (by simp only [List.getElem?_toArray, List.getElem?_cons_succ, List.getElem?_cons_zero]; rfl) (by kernel_rfl) (by intro _ _ _ h; exact h) (by rfl) (by assumption) ?_
            simp only [Act.put, List.setIfInBounds_toArray, List.set_cons_zero, List.set_cons_succ]
            refine heldSkip 11 (by simp only [List.getElem?_toArray, List.getElem?_cons_succ, List.getElem?_cons_zero]; rfl) (by kernel_rfl) (by intro _ _ _ h; exact h) (by rfl) (by assumption) ?_
            simp only [Act.put, List.setIfInBounds_toArray, List.set_cons_zero, List.set_cons_succ]
            refine heldSkip 12 (by simp only [List.getElem?_toArray, List.getElem?_cons_succ, List.getElem?_cons_zero]; rfl) (by kernel_rfl) (by intro _ _ _ h; exact h) (by rfl) (by assumption) ?_
            simp only [Act.put, List.setIfInBounds_toArray, List.set_cons_zero, List.set_cons_succ]
            refine heldTake 13 (v := ?_) (by simp only [List.getElem?_toArray, List.getElem?_cons_succ, List.getElem?_cons_zero]; rfl) (by kernel_rfl) (by intro _ _ _ h; exact h) (by rfl) (by assumption) ?_ ?_
            rotate_left
            · intro W hSw; (try dsimp only at hSw); go_simp; try with_reducible rfl
            simp only [Act.put, List.setIfInBounds_toArray, List.set_cons_zero, List.set_cons_succ]
            refine heldTake 14 (v := ?_) (by simp only [List.getElem?_toArray, List.getElem?_cons_succ, List.getElem?_cons_zero]; rfl) (by kernel_rfl) (by intro _ _ _ h; exact h) (by rfl) (by assumption) ?_ ?_
            rotate_left
            · intro W hSw; (try dsimp only at hSw); go_simp; try with_reducible rfl
            simp only [Act.put, List.setIfInBounds_toArray, List.set_cons_zero, List.set_cons_succ]
            refine heldDone (by kernel_rfl) ?_ _
            go_wp2
            go_roundg (gk - 1)
            case measure => have := HM.out; omega
            case rel => exact ⟨m + 1, by go_num, Lib.hid (by have := HM.out; omega), by rw [HSN.out]; rfl, hbm.drew⟩
        · have hmk' : m = k := by have := HM.out; omega
          subst hmk'
          have HDUP : Hid ((∃ a ∈ l.take m, a.key = x.key) ↔ (l.take m).any (fun a => decide (a.key = x.key)) = true) := Lib.hid (by
            rw [List.any_eq_true]
            constructor
            · rintro ⟨a, ha, e⟩; exact ⟨a, ha, decide_eq_true e⟩
            · rintro ⟨a, ha, e⟩; exact ⟨a, ha, of_decide_eq_true e⟩)
          have hskip := fun h => HA.out.skip (a := x) h
          have hput := fun h1 h2 => HA.out.put (a := x) h1 h2
          rw [← HKT.out] at hskip hput
          have q := fun W hb => HAT.out x.key W hb
          have HSK := Lib.hid hskip
          have HPU := Lib.hid hput
          have Q := Lib.hid q
          clear hskip hput HA HFI HKT q
          generalize V x.key = v at *
          generalize (l.take m).any (fun a => decide (a.key = x.key)) = fb at *
          have hbw6 : Below w.heap.size w wr := hbw.trans (hbm.mono (by omega))
          have hB6 : Below (w.heap.size + 1) W0 wr := hb.trans (hbm.mono (by omega))
          have s0' := (hbm.cell (p := ⟨w.heap.size, 0, none⟩) (by show w.heap.size < _; omega)).trans s0
          have s1' := (hbm.cell (p := ⟨w.heap.size, 1, none⟩) (by show w.heap.size < _; omega)).trans s1
          have hown6 : CntsAt wr w6.heap.size A4 out := HOW.out.below hbm
          have hz6 := hbm.size
          have hKe : Below wr.heap.size wr wr.drew := (Below.refl _ _).drew
          have HBW := Lib.hid hbw6
          go_wp2_with fail
          refine heldStart 10 (S := fun W => W.cell? ⟨w.heap.size, 0, none⟩ = some (.int .i64 s) ∧ W.cell? ⟨w.heap.size, 1, none⟩ = some (.int .i64 h) ∧ W.cell? ⟨b, o + m * 3, none⟩ = some (.string x.key)) (by kernel_rfl) ?_ (fun hHeld => ?_)
          · exact ⟨(hKe.cell (p := ⟨w.heap.size, 0, none⟩) (by show w.heap.size < _; omega)).trans s0', (hKe.cell (p := ⟨w.heap.size, 1, none⟩) (by show w.heap.size < _; omega)).trans s1', (hKe.cell (p := ⟨b, o + m * 3, none⟩) (by show b < _; omega)).trans c1m⟩
          refine heldTake 0 (v := ?_) (by simp only [List.getElem?_toArray, List.getElem?_cons_succ, List.getElem?_cons_zero]; rfl) (by kernel_rfl) (by intro _ _ _ h; exact h) (by rfl) (by assumption) ?_ ?_
          rotate_left
          · intro W hSw; (try dsimp only at hSw); go_simp; try with_reducible rfl
          simp only [Act.put, List.setIfInBounds_toArray, List.set_cons_zero, List.set_cons_succ]
          refine heldTake 1 (v := ?_) (by simp only [List.getElem?_toArray, List.getElem?_cons_succ, List.getElem?_cons_zero]; rfl) (by kernel_rfl) (by intro _ _ _ h; exact h) (by rfl) (by assumption) ?_ ?_
          rotate_left
          · intro W hSw; (try dsimp only at hSw); go_simp; try with_reducible rfl
          simp only [Act.put, List.setIfInBounds_toArray, List.set_cons_zero, List.set_cons_succ]
          refine heldTake 2 (v := ?_) (by simp only [List.getElem?_toArray, List.getElem?_cons_succ, List.getElem?_cons_zero]; rfl) (by kernel_rfl) (by intro _ _ _ h; exact h) (by rfl) (by assumption) ?_ ?_
          rotate_left
          · intro W hSw; (try dsimp only at hSw); go_simp; try with_reducible rfl
          simp only [Act.put, List.setIfInBounds_toArray, List.set_cons_zero, List.set_cons_succ]
          refine heldTake 3 (v := ?_) (by simp only [List.getElem?_toArray, List.getElem?_cons_succ, List.getElem?_cons_zero]; rfl) (by kernel_rfl) (by intro _ _ _ h; exact h) (by rfl) (by assumption) ?_ ?_
          rotate_left
          · intro W hSw; (try dsimp only at hSw); go_simp; try with_reducible rfl
          simp only [Act.put, List.setIfInBounds_toArray, List.set_cons_zero, List.set_cons_succ]
          refine heldTake 4 (v := ?_) (by simp only [List.getElem?_toArray, List.getElem?_cons_succ, List.getElem?_cons_zero]; rfl) (by kernel_rfl) (by intro _ _ _ h; exact h) (by rfl) (by assumption) ?_ ?_
          rotate_left
          · intro W hSw; (try dsimp only at hSw); go_simp; try with_reducible rfl
          simp only [Act.put, List.setIfInBounds_toArray, List.set_cons_zero, List.set_cons_succ]
          refine heldTake 5 (v := ?_) (by simp only [List.getElem?_toArray, List.getElem?_cons_succ, List.getElem?_cons_zero]; rfl) (by kernel_rfl) (by intro _ _ _ h; exact h) (by rfl) (by assumption) ?_ ?_
          rotate_left
          · intro W hSw; (try dsimp only at hSw); go_simp; try with_reducible rfl
          simp only [Act.put, List.setIfInBounds_toArray, List.set_cons_zero, List.set_cons_succ]
          refine heldTake 6 (v := ?_) (by simp only [List.getElem?_toArray, List.getElem?_cons_succ, List.getElem?_cons_zero]; rfl) (by kernel_rfl) (by intro _ _ _ h; exact h) (by rfl) (by assumption) ?_ ?_
          rotate_left
          · intro W hSw; (try dsimp only at hSw); go_simp; try with_reducible rfl
          simp only [Act.put, List.setIfInBounds_toArray, List.set_cons_zero, List.set_cons_succ]
          refine heldTake 7 (v := ?_) (by simp only [List.getElem?_toArray, List.getElem?_cons_succ, List.getElem?_cons_zero]; rfl) (by kernel_rfl) (by intro _ _ _ h; exact h) (by rfl) (by assumption) ?_ ?_
          rotate_left
          · intro W hSw; (try dsimp only at hSw); go_simp; try with_reducible rfl
          simp only [Act.put, List.setIfInBounds_toArray, List.set_cons_zero, List.set_cons_succ]
          refine heldTake 8 (v := ?_) (by simp only [List.getElem?_toArray, List.getElem?_cons_succ, List.getElem?_cons_zero]; rfl) (by kernel_rfl) (by intro _ _ _ h; exact h) (by rfl) (by assumption) ?_ ?_
          rotate_left
          · intro W hSw; (try dsimp only at hSw); go_simp; try with_reducible rfl
          simp only [Act.put, List.setIfInBounds_toArray, List.set_cons_zero, List.set_cons_succ]
          refine heldCall 9 (by simp only [List.getElem?_toArray, List.getElem?_cons_succ, List.getElem?_cons_zero]; rfl) (by kernel_rfl) (fun K hK => ?_)
          go_simp
          refine (Q.out _ (HBW.out.trans (hKe.mono HBW.out.size))).mono ?_
          rintro r w7 ⟨rfl, hb7⟩
          have hK0 : Below wr.heap.size wr w7 := hKe.trans (hb7.mono hKe.size)
          clear hKe hb7
          have hKe := hK0
          clear hK0
          go_wp2_with fail
          refine hK.out _ _ ?_ (fun hHeld => ?_)
          · exact ⟨(hKe.cell (p := ⟨w.heap.size, 0, none⟩) (by show w.heap.size < _; omega)).trans s0', (hKe.cell (p := ⟨w.heap.size, 1, none⟩) (by show w.heap.size < _; omega)).trans s1', (hKe.cell (p := ⟨b, o + m * 3, none⟩) (by show b < _; omega)).trans c1m⟩
          clear hK K
          (try simp only [Act.put, List.setIfInBounds_toArray, List.set_cons_zero, List.set_cons_succ])
          refine heldTake 10 (v := ?_) (by simp only [List.getElem?_toArray, List.getElem?_cons_succ, List.getElem?_cons_zero]; rfl) (by kernel_rfl) (by intro _ _ _ h; exact h) (by rfl) (by assumption) ?_ ?_
          rotate_left
          · intro W hSw; (try dsimp only at hSw); go_simp; try with_reducible rfl
          simp only [Act.put, List.setIfInBounds_toArray, List.set_cons_zero, List.set_cons_succ]
          refine heldDone (by kernel_rfl) ?_ _
          have hb7 : Below (w.heap.size + 1) W0 w7 := hB6.trans (hKe.mono (by omega))
          have hat7 : CntsAt w7 w6.heap.size A4 out := hown6.below (hKe.mono hz6)
          have hz7 := hKe.size
          have c17 := (hKe.cell (p := ⟨b, o + m * 3, none⟩) (by show b < _; omega)).trans c1m
          have HATS := Lib.hid (Reads.more hat7 (show w6.heap.size ≤ w7.heap.size by omega))
          have HB7 := Lib.hid hb7
          clear hKe hHeld hown6 hB6 hb7 hat7 s0 s1 s0' s1' HOW c1m c1 hb hbm hbw hbw6
          cases fb with
          | true =>
            go_wp2
            go_roundg (g6 - 1)
            case measure => have := HK.out; omega
            case rel => exact ⟨m + 1, A4, c4, out, by go_num, Lib.hid (by have := HK.out; omega), rfl, Lib.hid (HSK.out (.inl (HDUP.out.2 trivial))), HCP, HATS.out, HB7.out⟩
          | false =>
            by_cases hv : 0 < v
            · have HPT := Lib.hid (HPU.out (fun h => by have := HDUP.out.1 h; cases this) hv)
              have hq := cput_any A4 w7.heap.size c4 out ⟨x.key, v⟩ w7 HATS.out (Nat.le_refl _) (by omega)
              have HQ := Lib.hid hq
              clear HPU HSK HDUP hq
              go_wp2_with fail
              refine HQ.out.mono ?_
              rintro r w8 ⟨A8, c8, rfl, hown8, hb8⟩
              have hat8 : CntsAt w8 w8.heap.size A8 (insG cntLt ⟨x.key, v⟩ out) := Reads.of_own hown8
              have HAT8 := Lib.hid hat8
              have HC8 := Lib.hid (own_capC hown8)
              have HB8 : Hid (Below (w.heap.size + 1) W0 w8) := Lib.hid (HB7.out.trans (hb8.mono (by omega)))
              clear hat8 hown8 hb8 HQ
              go_wp2
              go_roundg (g6 - 1)
              case measure => have := HK.out; omega
              case rel => exact ⟨m + 1, A8, c8, _, by go_num, Lib.hid (by have := HK.out; omega), rfl, HPT, HC8, HAT8.out, HB8.out⟩
            · have HS := Lib.hid (HSK.out (.inr (by omega)))
              go_wp2
              go_roundg (g6 - 1)
              case measure => have := HK.out; omega
              case rel => exact ⟨m + 1, A4, c4, out, by go_num, Lib.hid (by have := HK.out; omega), rfl, HS, HCP, HATS.out, HB7.out⟩
    · have hall : l.take k = l := List.take_of_length_le (by omega)
      have ha := HA.out
      rw [hall, HV.out] at ha
      have HF := Lib.hid (CAt.fin (n := n) ha)
      have hq := cfirst_any A4 c4 out.length n wr HCP.out (by have := HK.out; omega)
      have HQ := Lib.hid hq
      have HOW := Lib.hid hown
      have HBW := Lib.hid hbw
      clear ha hall hq hown hbw hb s0 s1
      go_wp2_with fail
      refine HQ.out.mono ?_
      rintro r w9 ⟨rfl, rfl⟩
      go_wp2
      go_ret
      have hlt : (out.take (topM n out.length)).length = topM n out.length := by rw [List.length_take]; have := topM_le n out.length; omega
      exact ⟨A4, c4, out.take (topM n out.length), by rw [hlt]; rfl, HF.out, by unfold CntsAt; rw [hlt]; exact HOW.out.take _ (topM_le _ _), HBW.out⟩
end Go.Proofs.Ytcaglkefhbbnbaa
