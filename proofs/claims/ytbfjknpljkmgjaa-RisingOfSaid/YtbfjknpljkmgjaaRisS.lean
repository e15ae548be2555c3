/- Contract of the reference's All. -/
import Derived.Test.YtbfjknpljkmgjaaRisR
namespace Go.Proofs.Ytbfjknpljkmgjaa
open Go.ChangeShapes Go.WideShapes Go.ChangeAt Go.RowKit Go.Shelf Go.Lib Go.Sort Go.Proofs
set_option linter.unusedVariables false
set_option linter.unusedSimpArgs false

theorem beq_key (x y : ByteArray) : (x.toList == y.toList) = decide (x = y) := by
  by_cases h : x = y
  · rw [h]; simp
  · rw [decide_eq_false h, beq_eq_false_iff_ne]; exact fun e => h (toList_inj e)
theorem AllAt.ok {w : World} {pb : Nat} {F : Nat → Prop} {wd : Int} {hist : List AddD} {span b floor : Int} {ks : List AddD} {out : List RiseV} (hO : PaneObj w pb F wd hist) (h : AllAt wd hist span b floor ks out) : ∀ r ∈ out, RiseOk r := by
  intro r hr
  obtain ⟨⟨e, hn, _⟩, _⟩ := (h.2.1 r).1 hr
  rw [e]
  refine riseOf_ok hO span b ?_
  have := congrArg RiseV.new e
  have e2 : (riseOf wd hist span b r.key).new = histTot wd hist r.key ((b - span) / wd) (b / wd) := rfl
  omega

theorem keep6b {W0 W : World} {p q o : Nat} {k1 k2 : ByteArray} {n1 o1 n2 o2 : Int} (h : Below W0.heap.size W0 W) (hp : p < W0.heap.size) (hq : q < W0.heap.size)
    (e0 : W0.cell? ⟨p, 0, none⟩ = some (.string k1)) (e1 : W0.cell? ⟨p, 1, none⟩ = some (.int .i64 n1)) (e2 : W0.cell? ⟨p, 2, none⟩ = some (.int .i64 o1))
    (d0 : W0.cell? ⟨q, o, none⟩ = some (.string k2)) (d1 : W0.cell? ⟨q, o + 1, none⟩ = some (.int .i64 n2)) (d2 : W0.cell? ⟨q, o + 2, none⟩ = some (.int .i64 o2)) :
    W.cell? ⟨p, 0, none⟩ = some (.string k1) ∧ W.cell? ⟨p, 1, none⟩ = some (.int .i64 n1) ∧ W.cell? ⟨p, 2, none⟩ = some (.int .i64 o1) ∧
    W.cell? ⟨q, o, none⟩ = some (.string k2) ∧ W.cell? ⟨q, o + 1, none⟩ = some (.int .i64 n2) ∧ W.cell? ⟨q, o + 2, none⟩ = some (.int .i64 o2) :=
  ⟨(h.cell (p := ⟨p, 0, none⟩) hp).trans e0, (h.cell (p := ⟨p, 1, none⟩) hp).trans e1, (h.cell (p := ⟨p, 2, none⟩) hp).trans e2,
    (h.cell (p := ⟨q, o, none⟩) hq).trans d0, (h.cell (p := ⟨q, o + 1, none⟩) hq).trans d1, (h.cell (p := ⟨q, o + 2, none⟩) hq).trans d2⟩

/-- What All leaves. -/
def AllNew (w : World) (wd : Int) (hist : List AddD) (span now floor : Int) (e : Ending) (w' : World) : Prop :=
  ∃ A c rs, e = .returned (.slice A (List.length rs) c) ∧ RisesOf wd hist span now floor rs ∧ RisesAt w' w'.heap.size A rs ∧ Below w.heap.size w w'

set_option maxRecDepth 20000 in
set_option maxHeartbeats 8000000 in
theorem rall_any (A : Option Addr) (c : Nat) (l : List AddD) (wd span now floor : Int) (w : World) (pb : Nat) (F : Nat → Prop) (hO : PaneObj w pb F wd (l.filter rightB)) (hl : AddsAt w w.heap.size A l) (hlen : (l.length : Int) ≤ 40) :
    Calls Try.prog 16 #[.slice A l.length c, .int .i64 wd, .int .i64 span, .int .i64 now, .int .i64 floor] w (AllNew w wd (l.filter rightB) span now floor) := by
  have hw : 1 ≤ wd := hO.wide.1
  have HO := Lib.hid hO
  clear hO
  have hb0 : Below w.heap.size w (w.alloc (.cells #[] 34)) := (Below.refl _ _).alloc (Nat.le_refl _) _
  have ho0 : (w.alloc (.cells #[] 34)).ownsRow w.heap.size 34 3 (.slice (some ⟨w.heap.size, 0, none⟩) 0 0) 0 [] := own_empty (Nat.le_refl _) (heap_alloc_new w _)
  by_cases hB : ofB wd span now = true
  · have HB := Lib.hid hB
    go_enter Try.func16, Try.ntmps16
    go_wp2_with fail
    refine (rmay19_any wd span now hw _).mono ?_
    rintro e w1 ⟨rfl, rfl⟩
    rw [HB.out]
    clear hB
    go_wp2_with fail
    generalize w.alloc (.cells #[] 34) = W0 at *
    go_loopg [11, 12] l.length (fun rest s i wr => ∃ (k : Nat) (A4 : Option Addr) (c4 : Nat) (out : List RiseV), i = .int .i64 k ∧ Hid (k + rest = l.length) ∧ s = .slice A4 out.length c4 ∧ Hid (AllAt wd (l.filter rightB) span (begB wd now) floor (l.take k) out) ∧
      wr.ownsRow w.heap.size 34 3 (.slice A4 out.length c4) out.length (out.flatMap riseEnc) ∧ Below w.heap.size w wr)
    case atStart => exact ⟨0, _, 0, [], rfl, Lib.hid (by simp), rfl, Lib.hid (AllAt.nil _ _ _ _ _), ho0, hb0⟩
    case round =>
      clear hb0 ho0
      obtain ⟨k, A4, c4, out, rfl, HK, rfl, HA, hown, hb⟩ := hrel
      have hol : (out.length : Int) ≤ (k : Int) := by
        have h1 := HA.out.2.2
        have h2 := List.length_take_le k l
        omega
      by_cases hk : (k : Int) < (l.length : Int)
      · have hkl : k < l.length := by omega
        have hkt : l.take (k + 1) = l.take k ++ [l[k]] := List.take_succ_eq_append_getElem hkl
        have HKT := Lib.hid hkt
        clear hkt
        obtain ⟨b, o, rfl, hbl, c1, c2, c3⟩ := (hl.below hb).one hkl
        have hfirst : ∀ m (hm : m < l.length), (l.take (m + 1)).any (fun a => decide (a.key = l[k].key)) = ((l.take m).any (fun a => decide (a.key = l[k].key)) || decide (l[m].key = l[k].key)) := fun m hm => anyB_snoc l _ hm
        have HFI := Lib.hid hfirst
        clear hfirst
        generalize l[k] = x at *
        have HL := Lib.hid hl
        have HOW := Lib.hid hown
        clear hown hl c2 c3
        go_wp2_with fail
        generalize wr = w6 at *
        generalize gk = g6 at *
        go_loopg [13, 14] k (fun rest f j wx => ∃ (m : Nat), j = .int .i64 m ∧ Hid (m + rest = k) ∧ f = .bool (!(l.take m).any (fun a => decide (a.key = x.key))) ∧ Below w6.heap.size w6 wx)
        case atStart => exact ⟨0, rfl, Lib.hid (by simp), rfl, Below.refl _ _⟩
        case round =>
          obtain ⟨m, rfl, HM, rfl, hbm⟩ := hrel
          have hz6 := hb.size
          have c1m := (hbm.cell (p := ⟨b, o + k * 3, none⟩) (by show b < _; omega)).trans c1
          by_cases hmk : (m : Int) < (k : Int)
          · have hml : m < l.length := by omega
            obtain ⟨b', o', e', hbl', d1, d2, d3⟩ := (HL.out.below (hb.trans (hbm.mono hz6))).one hml
            injection e' with e'
            injection e' with e1 e2
            subst e1 e2
            have hsn := HFI.out m hml
            generalize l[m] = y at *
            have he := beq_key y.key x.key
            have HSN := Lib.hid hsn
            generalize decide (y.key = x.key) = eb at *
            generalize (l.take m).any (fun a => decide (a.key = x.key)) = fb at *
            clear hsn d2 d3
            have hml' : (m : Int) < (l.length : Int) := by omega
            cases fb with
            | false =>
              go_wp2_with fail
              refine heldStart 14 (S := fun W => W.cell? ⟨b, o + m * 3, none⟩ = some (.string y.key) ∧ W.cell? ⟨b, o + k * 3, none⟩ = some (.string x.key)) (by kernel_rfl) ?_ (fun hHeld => ?_)
              · exact ⟨d1, c1m⟩
              refine heldTake 0 (v := ?_) (by simp only [List.getElem?_toArray, List.getElem?_cons_succ, List.getElem?_cons_zero]; rfl) (by kernel_rfl) (by intro _ _ _ h; exact h) (by rfl) (by assumption) ?_ ?_
              rotate_left
              · intro W hSw; (try dsimp only at hSw); go_simp; try with_reducible rfl
              simp only [Act.put, List.setIfInBounds_toArray, List.set_cons_zero, List.set_cons_succ]
              refine heldTake 1 (v := ?_) (by simp only [List.getElem?_toArray, List.getElem?_cons_succ, List.getElem?_cons_zero]; rfl) (by kernel_rfl) (by intro _ _ _ h; exact h) (by rfl) (by assumption) ?_ ?_
              rotate_left
              · intro W hSw; (try dsimp only at hSw); go_simp; try with_reducible rfl
              simp only [Act.put, List.setIfInBounds_toArray, List.set_cons_zero, List.set_cons_succ]
              refine heldTake 2 (v := ?_) (by simp only [List.getElem?_toArray, List.getElem?_cons_succ, List.getElem?_cons_zero]; rfl) (by kernel_rfl) (by intro _ _ _ h; exact h) (by rfl) (by assumption) ?_ ?_
              rotate_left
              · intro W hSw; (try dsimp only at hSw); go_simp; try with_reducible rfl
              simp only [Act.put, List.setIfInBounds_toArray, List.set_cons_zero, List.set_cons_succ]
              refine heldTake 3 (v := ?_) (by simp only [List.getElem?_toArray, List.getElem?_cons_succ, List.getElem?_cons_zero]; rfl) (by kernel_rfl) (by intro _ _ _ h; exact h) (by rfl) (by assumption) ?_ ?_
              rotate_left
              · intro W hSw; (try dsimp only at hSw); go_simp; try with_reducible rfl
              simp only [Act.put, List.setIfInBounds_toArray, List.set_cons_zero, List.set_cons_succ]
              refine heldTake 4 (v := ?_) (by simp only [List.getElem?_toArray, List.getElem?_cons_succ, List.getElem?_cons_zero]; rfl) (by kernel_rfl) (by intro _ _ _ h; exact h) (by rfl) (by assumption) ?_ ?_
              rotate_left
              · intro W hSw; (try dsimp only at hSw); go_simp; try with_reducible rfl
              simp only [Act.put, List.setIfInBounds_toArray, List.set_cons_zero, List.set_cons_succ]
              refine heldTake 5 (v := ?_) (by simp only [List.getElem?_toArray, List.getElem?_cons_succ, List.getElem?_cons_zero]; rfl) (by kernel_rfl) (by intro _ _ _ h; exact h) (by rfl) (by assumption) ?_ ?_
              rotate_left
              · intro W hSw; (try dsimp only at hSw); go_simp; try with_reducible rfl
              simp only [Act.put, List.setIfInBounds_toArray, List.set_cons_zero, List.set_cons_succ]
              refine heldTake 6 (v := ?_) (by simp only [List.getElem?_toArray, List.getElem?_cons_succ, List.getElem?_cons_zero]; rfl) (by kernel_rfl) (by intro _ _ _ h; exact h) (by rfl) (by assumption) ?_ ?_
              rotate_left
              · intro W hSw; (try dsimp only at hSw); go_simp; try with_reducible rfl
              simp only [Act.put, List.setIfInBounds_toArray, List.set_cons_zero, List.set_cons_succ]
              refine heldTake 7 (v := ?_) (by simp only [List.getElem?_toArray, List.getElem?_cons_succ, List.getElem?_cons_zero]; rfl) (by kernel_rfl) (by intro _ _ _ h; exact h) (by rfl) (by assumption) ?_ ?_
              rotate_left
              · intro W hSw; (try dsimp only at hSw); go_simp; try with_reducible rfl
              simp only [Act.put, List.setIfInBounds_toArray, List.set_cons_zero, List.set_cons_succ]
              refine heldTake 8 (v := ?_) (by simp only [List.getElem?_toArray, List.getElem?_cons_succ, List.getElem?_cons_zero]; rfl) (by kernel_rfl) (by intro _ _ _ h; exact h) (by rfl) (by assumption) ?_ ?_
              rotate_left
              · intro W hSw; (try dsimp only at hSw); go_simp; try with_reducible rfl
              simp only [Act.put, List.setIfInBounds_toArray, List.set_cons_zero, List.set_cons_succ]
              refine heldTake 9 (v := ?_) (by simp only [List.getElem?_toArray, List.getElem?_cons_succ, List.getElem?_cons_zero]; rfl) (by kernel_rfl) (by intro _ _ _ h; exact h) (by rfl) (by assumption) ?_ ?_
              rotate_left
              · intro W hSw; (try dsimp only at hSw); go_simp; try with_reducible rfl
              simp only [Act.put, List.setIfInBounds_toArray, List.set_cons_zero, List.set_cons_succ]
              refine heldTake 10 (v := ?_) (by simp only [List.getElem?_toArray, List.getElem?_cons_succ, List.getElem?_cons_zero]; rfl) (by kernel_rfl) (by intro _ _ _ h; exact h) (by rfl) (by assumption) ?_ ?_
              rotate_left
              · intro W hSw; (try dsimp only at hSw); go_simp; try with_reducible rfl
              simp only [Act.put, List.setIfInBounds_toArray, List.set_cons_zero, List.set_cons_succ]
              refine heldTake 11 (v := ?_) (by simp only [List.getElem?_toArray, List.getElem?_cons_succ, List.getElem?_cons_zero]; rfl) (by kernel_rfl) (by intro _ _ _ h; exact h) (by rfl) (by assumption) ?_ ?_
              rotate_left
              · intro W hSw; (try dsimp only at hSw); go_simp; try with_reducible rfl
              simp only [Act.put, List.setIfInBounds_toArray, List.set_cons_zero, List.set_cons_succ]
              refine heldTake 12 (v := ?_) (by simp only [List.getElem?_toArray, List.getElem?_cons_succ, List.getElem?_cons_zero]; rfl) (by kernel_rfl) (by intro _ _ _ h; exact h) (by rfl) (by assumption) ?_ ?_
              rotate_left
              · intro W hSw; (try dsimp only at hSw); go_simp; try with_reducible rfl
              simp only [Act.put, List.setIfInBounds_toArray, List.set_cons_zero, List.set_cons_succ]
              refine heldTake 13 (v := ?_) (by simp only [List.getElem?_toArray, List.getElem?_cons_succ, List.getElem?_cons_zero]; rfl) (by kernel_rfl) (by intro _ _ _ h; exact h) (by rfl) (by assumption) ?_ ?_
              rotate_left
              · intro W hSw; (try dsimp only at hSw); go_simp; try with_reducible rfl
              simp only [Act.put, List.setIfInBounds_toArray, List.set_cons_zero, List.set_cons_succ]
              refine heldTake 14 (v := ?_) (by simp only [List.getElem?_toArray, List.getElem?_cons_succ, List.getElem?_cons_zero]; rfl) (by kernel_rfl) (by intro _ _ _ h; exact h) (by rfl) (by assumption) ?_ ?_
              rotate_left
              · intro W hSw; (try dsimp only at hSw); go_simp; try with_reducible rfl
              simp only [Act.put, List.setIfInBounds_toArray, List.set_cons_zero, List.set_cons_succ]
              refine heldDone (by kernel_rfl) ?_ _
              go_wp2
              go_roundg (gk - 1)
              case measure => have := HM.out; omega
              case rel => exact ⟨m + 1, by go_num, Lib.hid (by have := HM.out; omega), by rw [HSN.out]; rfl, hbm.drew⟩
            | true =>
              go_wp2_with fail
              refine heldStart 14 (S := fun W => W.cell? ⟨b, o + m * 3, none⟩ = some (.string y.key) ∧ W.cell? ⟨b, o + k * 3, none⟩ = some (.string x.key)) (by kernel_rfl) ?_ (fun hHeld => ?_)
              · exact ⟨d1, c1m⟩
              refine heldTake 0 (v := ?_) (by simp only [List.getElem?_toArray, List.getElem?_cons_succ, List.getElem?_cons_zero]; rfl) (by kernel_rfl) (by intro _ _ _ h; exact h) (by rfl) (by assumption) ?_ ?_
              rotate_left
              · intro W hSw; (try dsimp only at hSw); go_simp; try with_reducible rfl
              simp only [Act.put, List.setIfInBounds_toArray, List.set_cons_zero, List.set_cons_succ]
              refine heldTake 1 (v := ?_) (by simp only [List.getElem?_toArray, List.getElem?_cons_succ, List.getElem?_cons_zero]; rfl) (by kernel_rfl) (by intro _ _ _ h; exact h) (by rfl) (by assumption) ?_ ?_
              rotate_left
              · intro W hSw; (try dsimp only at hSw); go_simp; try with_reducible rfl
              simp only [Act.put, List.setIfInBounds_toArray, List.set_cons_zero, List.set_cons_succ]
              refine heldSkip 2 (by simp only [List.getElem?_toArray, List.getElem?_cons_succ, List.getElem?_cons_zero]; rfl) (by kernel_rfl) (by intro _ _ _ h; exact h) (by rfl) (by assumption) ?_
              simp only [Act.put, List.setIfInBounds_toArray, List.set_cons_zero, List.set_cons_succ]
              refine heldSkip 3 (by simp only [List.getElem?_toArray, List.getElem?_cons_succ, List.getElem?_cons_zero]; rfl) (by kernel_rfl) (by intro _ _ _ h; exact h) (by rfl) (by assumption) ?_
              simp only [Act.put, List.setIfInBounds_toArray, List.set_cons_zero, List.set_cons_succ]
              refine heldSkip 4 (by simp only [List.getElem?_toArray, List.getElem?_cons_succ, List.getElem?_cons_zero]; rfl) (by kernel_rfl) (by intro _ _ _ h; exact h) (by rfl) (by assumption) ?_
              simp only [Act.put, List.setIfInBounds_toArray, List.set_cons_zero, List.set_cons_succ]
              refine heldSkip 5 (by simp only [List.getElem?_toArray, List.getElem?_cons_succ, List.getElem?_cons_zero]; rfl) (by kernel_rfl) (by intro _ _ _ h; exact h) (by rfl) (by assumption) ?_
              simp only [Act.put, List.setIfInBounds_toArray, List.set_cons_zero, List.set_cons_succ]
              refine heldSkip 6 (by simp only [List.getElem?_toArray, List.getElem?_cons_succ, List.getElem?_cons_zero]; rfl) (by kernel_rfl) (by intro _ _ _ h; exact h) (by rfl) (by assumption) ?_
              simp only [Act.put, List.setIfInBounds_toArray, List.set_cons_zero, List.set_cons_succ]
              refine heldSkip 7 (by simp only [List.getElem?_toArray, List.getElem?_cons_succ, List.getElem?_cons_zero]; rfl) (by kernel_rfl) (by intro _ _ _ h; exact h) (by rfl) (by assumption) ?_
              simp only [Act.put, List.setIfInBounds_toArray, List.set_cons_zero, List.set_cons_succ]
              refine heldSkip 8 (by simp only [List.getElem?_toArray, List.getElem?_cons_succ, List.getElem?_cons_zero]; rfl) (by kernel_rfl) (by intro _ _ _ h; exact h) (by rfl) (by assumption) ?_
              simp only [Act.put, List.setIfInBounds_toArray, List.set_cons_zero, List.set_cons_succ]
              refine heldSkip 9 (by simp only [List.getElem?_toArray, List.getElem?_cons_succ, List.getElem?_cons_zero]; rfl) (by kernel_rfl) (by intro _ _ _ h; exact h) (by rfl) (by assumption) ?_
              simp only [Act.put, List.setIfInBounds_toArray, List.set_cons_zero, List.set_cons_succ]
              refine heldSkip 10 (by simp only [List.getElem?_toArray, List.getElem?_cons_succ, List.getElem?_cons_zero]; rfl) (by kernel_rfl) (by intro _ _ _ h; exact h) (by rfl) (by assumption) ?_
              simp only [Act.put, List.setIfInBounds_toArray, List.set_cons_zero, List.set_cons_succ]
              refine heldSkip 11 (by simp only [List.getElem?_toArray, List.getElem?_cons_succ, List.getElem?_cons_zero]; rfl) (by kernel_rfl) (by intro _ _ _ h; exact h) (by rfl) (by assumption) ?_
              simp only [Act.put, List.setIfInBounds_toArray, List.set_cons_zero, List.set_cons_succ]
              refine heldSkip 12 (by simp only [List.getElem?_toArray, List.getElem?_cons_succ, List.getElem?_cons_zero]; rfl) (by kernel_rfl) (by intro _ _ _ h; exact h) (by rfl) (by assumption) ?_
              simp only [Act.put, List.setIfInBounds_toArray, List.set_cons_zero, List.set_cons_succ]
              refine heldTake 13 (v := ?_) (by simp only [List.getElem?_toArray, List.getElem?_cons_succ, List.getElem?_cons_zero]; rfl) (by kernel_rfl) (by intro _ _ _ h; exact h) (by rfl) (by assumption) ?_ ?_
              rotate_left
              · intro W hSw; (try dsimp only at hSw); go_simp; try with_reducible rfl
              simp only [Act.put, List.setIfInBounds_toArray, List.set_cons_zero, List.set_cons_succ]
              refine heldTake 14 (v := ?_) (by simp only [List.getElem?_toArray, List.getElem?_cons_succ, List.getElem?_cons_zero]; rfl) (by kernel_rfl) (by intro _ _ _ h; exact h) (by rfl) (by assumption) ?_ ?_
              rotate_left
              · intro W hSw; (try dsimp only at hSw); go_simp; try with_reducible rfl
              simp only [Act.put, List.setIfInBounds_toArray, List.set_cons_zero, List.set_cons_succ]
              refine heldDone (by kernel_rfl) ?_ _
              go_wp2
              go_roundg (gk - 1)
              case measure => have := HM.out; omega
              case rel => exact ⟨m + 1, by go_num, Lib.hid (by have := HM.out; omega), by rw [HSN.out]; rfl, hbm.drew⟩
          · have hmk' : m = k := by have := HM.out; omega
            subst hmk'
            have HDUP : Hid ((∃ a ∈ l.take m, a.key = x.key) ↔ (l.take m).any (fun a => decide (a.key = x.key)) = true) := Lib.hid (by
              rw [List.any_eq_true]
              constructor
              · rintro ⟨a, ha, e⟩; exact ⟨a, ha, decide_eq_true e⟩
              · rintro ⟨a, ha, e⟩; exact ⟨a, ha, of_decide_eq_true e⟩)
            have q := fun W (hb' : Below w.heap.size w W) => rof19_any (some ⟨b, o, none⟩) w.heap.size c l wd span now x.key W (HL.out.below hb') hb'.size hlen hw HB.out
            have hok : 1 ≤ (riseOf wd (l.filter rightB) span (begB wd now) x.key).new → RiseOk (riseOf wd (l.filter rightB) span (begB wd now) x.key) := fun h => riseOf_ok HO.out span _ h
            have hrk : (riseOf wd (l.filter rightB) span (begB wd now) x.key).key = x.key := rfl
            have hskip := fun h => HA.out.skip (a := x) h
            have hput := fun h1 h2 h3 => HA.out.put HO.out (a := x) h1 h2 h3
            have hoks := HA.out.ok HO.out
            rw [← HKT.out] at hskip hput
            have Q := Lib.hid q
            have HOK := Lib.hid hok
            have HSK := Lib.hid hskip
            have HPU := Lib.hid hput
            have HOKS := Lib.hid hoks
            clear q hok hskip hput hoks HA HFI HKT
            generalize riseOf wd (l.filter rightB) span (begB wd now) x.key = r at *
            generalize (l.take m).any (fun a => decide (a.key = x.key)) = fb at *
            have HRK := Lib.hid hrk
            clear hrk
            have hbw : Below w.heap.size w wr := hb.trans (hbm.mono hz6)
            go_wp2_with fail
            refine (Q.out _ hbw).mono ?_
            rintro e w7 ⟨rfl, hb7⟩
            rw [← HRK.out]
            have hbw7 : Below w.heap.size w w7 := hbw.trans (hb7.mono hbw.size)
            have hz7 := hbw7.size
            have HOW7 : Hid (w7.ownsRow w.heap.size 34 3 (.slice A4 out.length c4) out.length (out.flatMap riseEnc)) := Lib.hid ((Keeps.ofBelow hb7 noF).own ((Keeps.ofBelow hbm noF).own HOW.out (fun _ _ h => h)) (fun _ _ h => h))
            have HBW7 := Lib.hid hbw7
            clear hb hbm hbw hb7 HOW c1m Q hbw7 c1
            cases fb with
            | true =>
              go_wp2
              go_roundg (g6 - 1)
              case measure => have := HK.out; omega
              case rel => exact ⟨m + 1, A4, c4, out, by go_num, Lib.hid (by have := HK.out; omega), rfl, Lib.hid (HSK.out (.inl (HDUP.out.2 trivial))), HOW7.out.alloc _, HBW7.out.alloc hz7 _⟩
            | false =>
              by_cases hr1 : r.new < 1
              · go_wp2
                go_roundg (g6 - 1)
                case measure => have := HK.out; omega
                case rel => exact ⟨m + 1, A4, c4, out, by go_num, Lib.hid (by have := HK.out; omega), rfl, Lib.hid (HSK.out (.inr (.inl hr1))), HOW7.out.alloc _, HBW7.out.alloc hz7 _⟩
              · by_cases hr2 : r.new < floor
                · go_wp2
                  go_roundg (g6 - 1)
                  case measure => have := HK.out; omega
                  case rel => exact ⟨m + 1, A4, c4, out, by go_num, Lib.hid (by have := HK.out; omega), rfl, Lib.hid (HSK.out (.inr (.inr hr2))), HOW7.out.alloc _, HBW7.out.alloc hz7 _⟩
                · have HPT := Lib.hid (HPU.out (fun h => by have := HDUP.out.1 h; cases this) (by omega) (by omega))
                  clear HPU HSK HDUP
                  have hrok := HOK.out (by omega)
                  go_wp2_with fail
                  generalize hW8 : w7.alloc (Obj.cells #[Value.string r.key, Value.int .i64 r.new, Value.int .i64 r.old] 34) = W8 at *
                  have f0 : W8.cell? ⟨w7.heap.size, 0, none⟩ = some (.string r.key) := by rw [← hW8]; simp
                  have f1 : W8.cell? ⟨w7.heap.size, 1, none⟩ = some (.int .i64 r.new) := by rw [← hW8]; simp
                  have f2 : W8.cell? ⟨w7.heap.size, 2, none⟩ = some (.int .i64 r.old) := by rw [← hW8]; simp
                  have hz8 : w7.heap.size < W8.heap.size := by rw [← hW8]; simp
                  have HOW8 : Hid (W8.ownsRow w.heap.size 34 3 (.slice A4 out.length c4) out.length (out.flatMap riseEnc)) := Lib.hid (by rw [← hW8]; exact HOW7.out.alloc _)
                  have HBW8 : Hid (Below w.heap.size w W8) := Lib.hid (by rw [← hW8]; exact HBW7.out.alloc hz7 _)
                  have HS8 : Hid (W8.heap.size = w7.heap.size + 1) := Lib.hid (by rw [← hW8]; simp)
                  clear hW8 HOW7 HBW7
                  have ho9 : (W8.alloc (.cells #[] 34)).ownsRow W8.heap.size 34 3 (.slice (some ⟨w7.heap.size + 1, 0, none⟩) 0 0) 0 [] := by
                    rw [← HS8.out]
                    exact own_empty (Nat.le_refl _) (heap_alloc_new W8 _)
                  have hb9 : Below W8.heap.size W8 (W8.alloc (.cells #[] 34)) := (Below.refl _ _).alloc (Nat.le_refl _) _
                  have hoAt : RisesAt W8 W8.heap.size A4 out := Reads.of_own HOW8.out
                  have HOA := Lib.hid hoAt
                  have hanys : ∀ m (hm : m < out.length), (out.take (m + 1)).any (riseLt r) = ((out.take m).any (riseLt r) || riseLt r out[m]) := fun m hm => anyB_snoc out _ hm
                  have hparts : ∀ m (hm : m < out.length), partR r (out.take (m + 1)) = partR r (out.take m) ++ (if (!(out.take m).any (riseLt r) && riseLt r out[m]) = true then [r] else []) ++ [out[m]] := fun m hm => by rw [List.take_succ_eq_append_getElem hm, partR_snoc]
                  have HANY := Lib.hid hanys
                  have HPART := Lib.hid hparts
                  clear hoAt hanys hparts
                  generalize wr = wz at *
                  generalize gk = gz at *
                  generalize w7.heap.size = bx at *
                  go_loopg [16, 17, 18] out.length (fun rest s d j wx => ∃ (n : Nat) (A5 : Option Addr) (c5 : Nat) (nx : List RiseV), j = .int .i64 n ∧ Hid (n + rest = out.length) ∧ s = .slice A5 nx.length c5 ∧ d = .bool ((out.take n).any (riseLt r)) ∧ Hid (nx = partR r (out.take n)) ∧
                    wx.ownsRow W8.heap.size 34 3 (.slice A5 nx.length c5) nx.length (nx.flatMap riseEnc) ∧ Below W8.heap.size W8 wx)
                  case atStart => exact ⟨0, _, 0, [], rfl, Lib.hid (by simp), rfl, rfl, Lib.hid (by simp [partR]), ho9, hb9⟩
                  case round =>
                    clear ho9 hb9
                    obtain ⟨n, A5, c5, nx, rfl, HN, rfl, rfl, HNX, hown5, hb5⟩ := hrel
                    have hnl : (nx.length : Int) ≤ (n : Int) + 1 := by
                      have h1 := partR_len r (out.take n)
                      have h2 := List.length_take_le n out
                      rw [← HNX.out] at h1
                      omega
                    have e0 := (hb5.cell (p := ⟨bx, 0, none⟩) hz8).trans f0
                    have e1 := (hb5.cell (p := ⟨bx, 1, none⟩) hz8).trans f1
                    have e2 := (hb5.cell (p := ⟨bx, 2, none⟩) hz8).trans f2
                    have hz5 := hb5.size
                    have hnle : (n : Int) ≤ (out.length : Int) := by have := HN.out; omega
                    by_cases hn : (n : Int) < (out.length : Int)
                    · have hnk : n < out.length := by omega
                      obtain ⟨b', o', rfl, hbl', d1, d2, d3⟩ := (HOA.out.below hb5).one hnk
                      have d3' : wr.cell? ⟨b', o' + n * 3 + 2, none⟩ = some (.int .i64 out[n].old) := d3
                      have hsn := HANY.out n hnk
                      have hpn := HPART.out n hnk
                      have hoky := HOKS.out _ (List.getElem_mem hnk)
                      rw [← HNX.out] at hpn
                      generalize out[n] = y at *
                      have HSN := Lib.hid hsn
                      have HPN := Lib.hid hpn
                      have HOY := Lib.hid hoky
                      clear hsn hpn hoky
                      generalize (out.take n).any (riseLt r) = sm at *
                      have hlt1 : bx < wr.heap.size := by omega
                      have hlt2 : b' < wr.heap.size := by omega
                      cases sm with
                      | true =>
                        have hKe : Below wr.heap.size wr wr.drew := (Below.refl _ _).drew
                        go_wp2_with fail
                        refine heldStart 10 (S := fun W => W.cell? ⟨bx, 0, none⟩ = some (.string r.key) ∧ W.cell? ⟨bx, 1, none⟩ = some (.int .i64 r.new) ∧ W.cell? ⟨bx, 2, none⟩ = some (.int .i64 r.old) ∧ W.cell? ⟨b', o' + n * 3, none⟩ = some (.string y.key) ∧ W.cell? ⟨b', o' + n * 3 + 1, none⟩ = some (.int .i64 y.new) ∧ W.cell? ⟨b', o' + n * 3 + 2, none⟩ = some (.int .i64 y.old)) (by kernel_rfl) ?_ (fun hHeld => ?_)
                        · exact keep6b hKe hlt1 hlt2 e0 e1 e2 d1 d2 d3'
                        refine heldTake 0 (v := ?_) (by simp only [List.getElem?_toArray, List.getElem?_cons_succ, List.getElem?_cons_zero]; rfl) (by kernel_rfl) (by intro _ _ _ h; exact h) (by rfl) (by assumption) ?_ ?_
                        rotate_left
                        · intro W hSw; (try dsimp only at hSw); go_simp; try with_reducible rfl
                        simp only [Act.put, List.setIfInBounds_toArray, List.set_cons_zero, List.set_cons_succ]
                        refine heldTake 1 (v := ?_) (by simp only [List.getElem?_toArray, List.getElem?_cons_succ, List.getElem?_cons_zero]; rfl) (by kernel_rfl) (by intro _ _ _ h; exact h) (by rfl) (by assumption) ?_ ?_
                        rotate_left
                        · intro W hSw; (try dsimp only at hSw); go_simp; try with_reducible rfl
                        simp only [Act.put, List.setIfInBounds_toArray, List.set_cons_zero, List.set_cons_succ]
                        refine heldTake 2 (v := ?_) (by simp only [List.getElem?_toArray, List.getElem?_cons_succ, List.getElem?_cons_zero]; rfl) (by kernel_rfl) (by intro _ _ _ h; exact h) (by rfl) (by assumption) ?_ ?_
                        rotate_left
                        · intro W hSw; (try dsimp only at hSw); go_simp; try with_reducible rfl
                        simp only [Act.put, List.setIfInBounds_toArray, List.set_cons_zero, List.set_cons_succ]
                        refine heldSkip 3 (by simp only [List.getElem?_toArray, List.getElem?_cons_succ, List.getElem?_cons_zero]; rfl) (by kernel_rfl) (by intro _ _ _ h; exact h) (by rfl) (by assumption) ?_
                        simp only [Act.put, List.setIfInBounds_toArray, List.set_cons_zero, List.set_cons_succ]
                        refine heldSkip 4 (by simp only [List.getElem?_toArray, List.getElem?_cons_succ, List.getElem?_cons_zero]; rfl) (by kernel_rfl) (by intro _ _ _ h; exact h) (by rfl) (by assumption) ?_
                        simp only [Act.put, List.setIfInBounds_toArray, List.set_cons_zero, List.set_cons_succ]
                        refine heldSkip 5 (by simp only [List.getElem?_toArray, List.getElem?_cons_succ, List.getElem?_cons_zero]; rfl) (by kernel_rfl) (by intro _ _ _ h; exact h) (by rfl) (by assumption) ?_
                        simp only [Act.put, List.setIfInBounds_toArray, List.set_cons_zero, List.set_cons_succ]
                        refine heldSkip 6 (by simp only [List.getElem?_toArray, List.getElem?_cons_succ, List.getElem?_cons_zero]; rfl) (by kernel_rfl) (by intro _ _ _ h; exact h) (by rfl) (by assumption) ?_
                        simp only [Act.put, List.setIfInBounds_toArray, List.set_cons_zero, List.set_cons_succ]
                        refine heldSkip 7 (by simp only [List.getElem?_toArray, List.getElem?_cons_succ, List.getElem?_cons_zero]; rfl) (by kernel_rfl) (by intro _ _ _ h; exact h) (by rfl) (by assumption) ?_
                        simp only [Act.put, List.setIfInBounds_toArray, List.set_cons_zero, List.set_cons_succ]
                        refine heldSkip 8 (by simp only [List.getElem?_toArray, List.getElem?_cons_succ, List.getElem?_cons_zero]; rfl) (by kernel_rfl) (by intro _ _ _ h; exact h) (by rfl) (by assumption) ?_
                        simp only [Act.put, List.setIfInBounds_toArray, List.set_cons_zero, List.set_cons_succ]
                        refine heldTake 9 (v := ?_) (by simp only [List.getElem?_toArray, List.getElem?_cons_succ, List.getElem?_cons_zero]; rfl) (by kernel_rfl) (by intro _ _ _ h; exact h) (by rfl) (by assumption) ?_ ?_
                        rotate_left
                        · intro W hSw; (try dsimp only at hSw); go_simp; try with_reducible rfl
                        simp only [Act.put, List.setIfInBounds_toArray, List.set_cons_zero, List.set_cons_succ]
                        refine heldDone (by kernel_rfl) ?_ _
                        have hownD : wr.drew.ownsRow W8.heap.size 34 3 (.slice A5 nx.length c5) nx.length (nx.flatMap riseEnc) := (Keeps.ofBelow hKe noF).own hown5 (fun _ _ h => h)
                        have hbD : Below W8.heap.size W8 wr.drew := hb5.drew
                        have hzD := hbD.size
                        obtain ⟨k0, k1, k2, k3, k4, k5⟩ := keep6b hKe hlt1 hlt2 e0 e1 e2 d1 d2 d3'
                        clear hKe hown5 hHeld e0 e1 e2 d1 d2 d3 d3' hb5
                        generalize wr.drew = wd9 at *
                        go_wp2_with (at_builtin; refine wpList_append_one wd9 rfl _ _ _ rfl W8.heap.size 34 (.agg #[.string ByteArray.empty, .int .i64 0, .int .i64 0]) 3 32 Try.underlying28 rise_info rfl (by decide) A5 nx.length c5 _ rfl hownD [.string y.key, .int .i64 y.new, .int .i64 y.old] rfl rfl (by intro u hu; simp at hu; rcases hu with rfl | rfl | rfl <;> rfl) (by omega) (by unfold maxLen; omega) (by omega) ?_; intro A6 c6 w6 hown6 hg6 hb6)
                        have hb7 : Below W8.heap.size W8 w6 := hbD.trans hb6
                        have hl6 : (nx ++ [y]).length = nx.length + 1 := by simp
                        have HO6 : Hid (w6.ownsRow W8.heap.size 34 3 (.slice A6 (nx ++ [y]).length c6) (nx ++ [y]).length ((nx ++ [y]).flatMap riseEnc)) := Lib.hid (by
                          rw [hl6, List.flatMap_append]
                          exact hown6)
                        clear hown6 hg6 hb6 hownD
                        go_wp2
                        go_roundg (gk - 1)
                        case measure => have := HN.out; omega
                        case rel => exact ⟨n + 1, A6, c6, nx ++ [y], by go_num, Lib.hid (by have := HN.out; omega), by rw [hl6], by rw [HSN.out]; rfl, Lib.hid (by rw [HPN.out]; simp), HO6.out, hb7⟩
                      | false =>
                        have hKe : Below wr.heap.size wr wr.drew := (Below.refl _ _).drew
                        go_wp2_with fail
                        refine heldStart 10 (S := fun W => W.cell? ⟨bx, 0, none⟩ = some (.string r.key) ∧ W.cell? ⟨bx, 1, none⟩ = some (.int .i64 r.new) ∧ W.cell? ⟨bx, 2, none⟩ = some (.int .i64 r.old) ∧ W.cell? ⟨b', o' + n * 3, none⟩ = some (.string y.key) ∧ W.cell? ⟨b', o' + n * 3 + 1, none⟩ = some (.int .i64 y.new) ∧ W.cell? ⟨b', o' + n * 3 + 2, none⟩ = some (.int .i64 y.old)) (by kernel_rfl) ?_ (fun hHeld => ?_)
                        · exact keep6b hKe hlt1 hlt2 e0 e1 e2 d1 d2 d3'
                        refine heldTake 0 (v := ?_) (by simp only [List.getElem?_toArray, List.getElem?_cons_succ, List.getElem?_cons_zero]; rfl) (by kernel_rfl) (by intro _ _ _ h; exact h) (by rfl) (by assumption) ?_ ?_
                        rotate_left
                        · intro W hSw; (try dsimp only at hSw); go_simp; try with_reducible rfl
                        simp only [Act.put, List.setIfInBounds_toArray, List.set_cons_zero, List.set_cons_succ]
                        refine heldTake 1 (v := ?_) (by simp only [List.getElem?_toArray, List.getElem?_cons_succ, List.getElem?_cons_zero]; rfl) (by kernel_rfl) (by intro _ _ _ h; exact h) (by rfl) (by assumption) ?_ ?_
                        rotate_left
                        · intro W hSw; (try dsimp only at hSw); go_simp; try with_reducible rfl
                        simp only [Act.put, List.setIfInBounds_toArray, List.set_cons_zero, List.set_cons_succ]
                        refine heldTake 2 (v := ?_) (by simp only [List.getElem?_toArray, List.getElem?_cons_succ, List.getElem?_cons_zero]; rfl) (by kernel_rfl) (by intro _ _ _ h; exact h) (by rfl) (by assumption) ?_ ?_
                        rotate_left
                        · intro W hSw; (try dsimp only at hSw); go_simp; try with_reducible rfl
                        simp only [Act.put, List.setIfInBounds_toArray, List.set_cons_zero, List.set_cons_succ]
                        refine heldTake 3 (v := ?_) (by simp only [List.getElem?_toArray, List.getElem?_cons_succ, List.getElem?_cons_zero]; rfl) (by kernel_rfl) (by intro _ _ _ h; exact h) (by rfl) (by assumption) ?_ ?_
                        rotate_left
                        · intro W hSw; (try dsimp only at hSw); go_simp; try with_reducible rfl
                        simp only [Act.put, List.setIfInBounds_toArray, List.set_cons_zero, List.set_cons_succ]
                        refine heldTake 4 (v := ?_) (by simp only [List.getElem?_toArray, List.getElem?_cons_succ, List.getElem?_cons_zero]; rfl) (by kernel_rfl) (by intro _ _ _ h; exact h) (by rfl) (by assumption) ?_ ?_
                        rotate_left
                        · intro W hSw; (try dsimp only at hSw); go_simp; try with_reducible rfl
                        simp only [Act.put, List.setIfInBounds_toArray, List.set_cons_zero, List.set_cons_succ]
                        refine heldTake 5 (v := ?_) (by simp only [List.getElem?_toArray, List.getElem?_cons_succ, List.getElem?_cons_zero]; rfl) (by kernel_rfl) (by intro _ _ _ h; exact h) (by rfl) (by assumption) ?_ ?_
                        rotate_left
                        · intro W hSw; (try dsimp only at hSw); go_simp; try with_reducible rfl
                        simp only [Act.put, List.setIfInBounds_toArray, List.set_cons_zero, List.set_cons_succ]
                        refine heldTake 6 (v := ?_) (by simp only [List.getElem?_toArray, List.getElem?_cons_succ, List.getElem?_cons_zero]; rfl) (by kernel_rfl) (by intro _ _ _ h; exact h) (by rfl) (by assumption) ?_ ?_
                        rotate_left
                        · intro W hSw; (try dsimp only at hSw); go_simp; try with_reducible rfl
                        simp only [Act.put, List.setIfInBounds_toArray, List.set_cons_zero, List.set_cons_succ]
                        refine heldTake 7 (v := ?_) (by simp only [List.getElem?_toArray, List.getElem?_cons_succ, List.getElem?_cons_zero]; rfl) (by kernel_rfl) (by intro _ _ _ h; exact h) (by rfl) (by assumption) ?_ ?_
                        rotate_left
                        · intro W hSw; (try dsimp only at hSw); go_simp; try with_reducible rfl
                        simp only [Act.put, List.setIfInBounds_toArray, List.set_cons_zero, List.set_cons_succ]
                        refine heldCall 8 (by simp only [List.getElem?_toArray, List.getElem?_cons_succ, List.getElem?_cons_zero]; rfl) (by kernel_rfl) (fun K hK => ?_)
                        go_simp
                        refine (rless_any r y hrok HOY.out _).mono ?_
                        rintro e w9 ⟨rfl, hb9⟩
                        have hK0 : Below wr.heap.size wr w9 := hKe.trans (hb9.mono hKe.size)
                        clear hKe hb9
                        have hKe := hK0
                        clear hK0
                        go_wp2_with fail
                        refine hK.out _ _ ?_ (fun hHeld => ?_)
                        · exact keep6b hKe hlt1 hlt2 e0 e1 e2 d1 d2 d3'
                        clear hK K
                        (try simp only [Act.put, List.setIfInBounds_toArray, List.set_cons_zero, List.set_cons_succ])
                        refine heldTake 9 (v := ?_) (by simp only [List.getElem?_toArray, List.getElem?_cons_succ, List.getElem?_cons_zero]; rfl) (by kernel_rfl) (by intro _ _ _ h; exact h) (by rfl) (by assumption) ?_ ?_
                        rotate_left
                        · intro W hSw; (try dsimp only at hSw); go_simp; try with_reducible rfl
                        simp only [Act.put, List.setIfInBounds_toArray, List.set_cons_zero, List.set_cons_succ]
                        refine heldDone (by kernel_rfl) ?_ _
                        have hownD : w9.ownsRow W8.heap.size 34 3 (.slice A5 nx.length c5) nx.length (nx.flatMap riseEnc) := (Keeps.ofBelow hKe noF).own hown5 (fun _ _ h => h)
                        have hbD : Below W8.heap.size W8 w9 := hb5.trans (hKe.mono hz5)
                        have hzD := hbD.size
                        obtain ⟨k0, k1, k2, k3, k4, k5⟩ := keep6b hKe hlt1 hlt2 e0 e1 e2 d1 d2 d3'
                        have hlt1' : bx < w9.heap.size := by have := hKe.size; omega
                        have hlt2' : b' < w9.heap.size := by have := hKe.size; omega
                        clear hKe hown5 hHeld e0 e1 e2 d1 d2 d3 d3' hb5
                        have HRL : Hid (riseLt r y = riseLt r y) := Lib.hid rfl
                        cases hrl : riseLt r y with
                        | false =>
                          have HPN' : Hid (partR r (out.take (n + 1)) = nx ++ [y]) := Lib.hid (by rw [HPN.out, hrl]; simp)
                          have HSN' : Hid ((out.take (n + 1)).any (riseLt r) = false) := Lib.hid (by rw [HSN.out, hrl]; rfl)
                          clear HPN HSN hrl
                          go_wp2_with (at_builtin; refine wpList_append_one w9 rfl _ _ _ rfl W8.heap.size 34 (.agg #[.string ByteArray.empty, .int .i64 0, .int .i64 0]) 3 32 Try.underlying28 rise_info rfl (by decide) A5 nx.length c5 _ rfl hownD [.string y.key, .int .i64 y.new, .int .i64 y.old] rfl rfl (by intro u hu; simp at hu; rcases hu with rfl | rfl | rfl <;> rfl) (by omega) (by unfold maxLen; omega) (by omega) ?_; intro A6 c6 w6 hown6 hg6 hb6)
                          have hb7 : Below W8.heap.size W8 w6 := hbD.trans hb6
                          have hl6 : (nx ++ [y]).length = nx.length + 1 := by simp
                          have HO6 : Hid (w6.ownsRow W8.heap.size 34 3 (.slice A6 (nx ++ [y]).length c6) (nx ++ [y]).length ((nx ++ [y]).flatMap riseEnc)) := Lib.hid (by
                            rw [hl6, List.flatMap_append]
                            exact hown6)
                          clear hown6 hg6 hb6 hownD
                          go_wp2
                          go_roundg (gk - 1)
                          case measure => have := HN.out; omega
                          case rel => exact ⟨n + 1, A6, c6, nx ++ [y], by go_num, Lib.hid (by have := HN.out; omega), by rw [hl6], by rw [HSN'.out], Lib.hid HPN'.out.symm, HO6.out, hb7⟩
                        | true =>
                          have HPN' : Hid (partR r (out.take (n + 1)) = (nx ++ [r]) ++ [y]) := Lib.hid (by rw [HPN.out, hrl]; simp)
                          have HSN' : Hid ((out.take (n + 1)).any (riseLt r) = true) := Lib.hid (by rw [HSN.out, hrl]; rfl)
                          clear HPN HSN hrl
                          go_wp2_with (first
                            | (at_builtin; refine wpList_append_one w9 rfl _ _ _ rfl W8.heap.size 34 (.agg #[.string ByteArray.empty, .int .i64 0, .int .i64 0]) 3 32 Try.underlying28 rise_info rfl (by decide) A5 nx.length c5 _ rfl hownD [.string r.key, .int .i64 r.new, .int .i64 r.old] rfl rfl (by intro u hu; simp at hu; rcases hu with rfl | rfl | rfl <;> rfl) (by omega) (by unfold maxLen; omega) (by omega) ?_; intro A6 c6 w6 hown6 hg6 hb6; have q3 := (hb6.cell (p := ⟨b', o' + n * 3, none⟩) (by show b' < _; omega)).trans k3; have q4 := (hb6.cell (p := ⟨b', o' + n * 3 + 1, none⟩) (by show b' < _; omega)).trans k4; have q5 := (hb6.cell (p := ⟨b', o' + n * 3 + 2, none⟩) (by show b' < _; omega)).trans k5; have hz6b : W8.heap.size ≤ w6.heap.size := Nat.le_trans hzD hb6.size)
                            | (at_builtin; refine wpList_append_one w6 rfl _ _ _ rfl W8.heap.size 34 (.agg #[.string ByteArray.empty, .int .i64 0, .int .i64 0]) 3 32 Try.underlying28 rise_info rfl (by decide) A6 (nx.length + 1) c6 _ rfl hown6 [.string y.key, .int .i64 y.new, .int .i64 y.old] rfl rfl (by intro u hu; simp at hu; rcases hu with rfl | rfl | rfl <;> rfl) (by omega) (by unfold maxLen; omega) (by omega) ?_; intro A7 c7 w7 hown7 hg7 hb7b))
                          have hb8 : Below W8.heap.size W8 w7 := (hbD.trans hb6).trans hb7b
                          have hl7 : ((nx ++ [r]) ++ [y]).length = nx.length + 1 + 1 := by simp
                          have HO7 : Hid (w7.ownsRow W8.heap.size 34 3 (.slice A7 ((nx ++ [r]) ++ [y]).length c7) ((nx ++ [r]) ++ [y]).length (((nx ++ [r]) ++ [y]).flatMap riseEnc)) := Lib.hid (by
                            rw [hl7, List.flatMap_append, List.flatMap_append]
                            exact hown7)
                          clear hown7 hg7 hb7b hown6 hg6 hb6 hownD
                          go_wp2
                          go_roundg (gk - 1)
                          case measure => have := HN.out; omega
                          case rel => exact ⟨n + 1, A7, c7, (nx ++ [r]) ++ [y], by go_num, Lib.hid (by have := HN.out; omega), by rw [hl7], by rw [HSN'.out], Lib.hid HPN'.out.symm, HO7.out, hb8⟩

                    · have hdone : True := trivial
                      have hall : out.take n = out := List.take_of_length_le (by omega)
                      rw [hall]
                      have hnx : nx = partR r out := by rw [HNX.out, hall]
                      have hfin := partR_fin r out
                      rw [← hnx] at hfin
                      have HF := Lib.hid hfin
                      clear hnx hfin hall
                      generalize out.any (riseLt r) = sm at *
                      cases sm with
                      | true =>
                        have hf2 : nx = insR r out := by have := HF.out; simpa using this
                        have HF2 := Lib.hid hf2
                        clear hf2 HF
                        go_wp2
                        go_roundg (g6 - 1)
                        case measure => have := HK.out; omega
                        case rel => exact ⟨m + 1, A5, c5, nx, by go_num, Lib.hid (by have := HK.out; omega), rfl, Lib.hid (by rw [HF2.out]; exact HPT.out), own_base hown5 HBW8.out.size, HBW8.out.trans (hb5.mono HBW8.out.size)⟩
                      | false =>
                        have hf2 : nx ++ [r] = insR r out := by have := HF.out; simpa using this
                        have HF2 := Lib.hid hf2
                        clear hf2 HF
                        go_wp2_with (at_builtin; refine wpList_append_one wr rfl _ _ _ rfl W8.heap.size 34 (.agg #[.string ByteArray.empty, .int .i64 0, .int .i64 0]) 3 32 Try.underlying28 rise_info rfl (by decide) A5 nx.length c5 _ rfl hown5 [.string r.key, .int .i64 r.new, .int .i64 r.old] rfl rfl (by intro u hu; simp at hu; rcases hu with rfl | rfl | rfl <;> rfl) (by omega) (by unfold maxLen; omega) (by omega) ?_; intro A6 c6 w6 hown6 hg6 hb6)
                        have hb7 : Below W8.heap.size W8 w6 := hb5.trans hb6
                        have hl6 : (nx ++ [r]).length = nx.length + 1 := by simp
                        have HO6 : Hid (w6.ownsRow W8.heap.size 34 3 (.slice A6 (nx ++ [r]).length c6) (nx ++ [r]).length ((nx ++ [r]).flatMap riseEnc)) := Lib.hid (by
                          rw [hl6, List.flatMap_append]
                          exact hown6)
                        clear hown6 hg6 hb6 hown5
                        go_wp2
                        go_roundg (g6 - 1)
                        case measure => have := HK.out; omega
                        case rel => exact ⟨m + 1, A6, c6, nx ++ [r], by go_num, Lib.hid (by have := HK.out; omega), by rw [hl6], Lib.hid (by rw [HF2.out]; exact HPT.out), own_base HO6.out HBW8.out.size, HBW8.out.trans (hb7.mono HBW8.out.size)⟩
      · have hall : l.take k = l := List.take_of_length_le (by omega)
        have ha := HA.out
        rw [hall] at ha
        have HF := Lib.hid (AllAt.fin HB.out ha)
        clear ha hall
        go_wp2
        go_ret
        exact ⟨A4, c4, out, rfl, HF.out, Reads.of_own hown, hb⟩
  · have hB2 : ofB wd span now = false := by simpa using hB
    have HB := Lib.hid hB2
    go_enter Try.func16, Try.ntmps16
    go_wp2_with fail
    refine (rmay19_any wd span now hw _).mono ?_
    rintro e w1 ⟨rfl, rfl⟩
    rw [HB.out]
    clear hB hB2
    go_wp2
    go_ret
    exact ⟨_, 0, [], rfl, by unfold RisesOf; rw [if_neg (by rw [HB.out]; simp)], Reads.of_own ho0, hb0⟩
end Go.Proofs.Ytbfjknpljkmgjaa
