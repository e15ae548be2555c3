/- Rises in memory and in order; the walk of the statement RisingOrders. -/
import Derived.Test.YtbfjknpljkmgjaaRisE
namespace Go.Proofs.Ytbfjknpljkmgjaa
open Go.ChangeShapes Go.WideShapes Go.ChangeAt Go.RowKit Go.Shelf Go.Lib Go.Sort Go.Proofs
set_option linter.unusedVariables false
set_option linter.unusedSimpArgs false

def RisesAt (w : World) (B : Nat) (A : Option Addr) (l : List RiseV) : Prop := Reads w B 3 A l.length (l.flatMap riseEnc)
theorem RisesAt.one {w : World} {B : Nat} {A : Option Addr} {l : List RiseV} (h : RisesAt w B A l) {k : Nat} (hk : k < l.length) :
    ∃ b o, A = some ⟨b, o, none⟩ ∧ b < B ∧ w.cell? ⟨b, o + k * 3, none⟩ = some (.string l[k].key) ∧ w.cell? ⟨b, o + k * 3 + 1, none⟩ = some (.int .i64 l[k].new) ∧ w.cell? ⟨b, o + k * 3 + 1 + 1, none⟩ = some (.int .i64 l[k].old) := by
  obtain ⟨b, o, e, hb, hc⟩ := h.2 (by omega)
  have f := fun j (hj : j < 3) => flat3 riseEnc (fun _ => rfl) l k j hk hj
  refine ⟨b, o, e, hb, ?_, ?_, ?_⟩
  · have := hc (k * 3 + 0) _ (by rw [f 0 (by omega)]; rfl)
    simpa using this
  · have := hc (k * 3 + 1) _ (by rw [f 1 (by omega)]; rfl)
    simpa [Nat.add_assoc] using this
  · have := hc (k * 3 + 2) _ (by rw [f 2 (by omega)]; rfl)
    simpa [Nat.add_assoc] using this
theorem RisesAt.below {w w' : World} {B : Nat} {A : Option Addr} {l : List RiseV} (h : RisesAt w B A l) (hb : Below B w w') : RisesAt w' B A l := Reads.below h hb

theorem RisesOf.facts {w : World} {pb : Nat} {F : Nat → Prop} {wd span now floor : Int} {hist : List AddD} {rs : List RiseV} (hO : PaneObj w pb F wd hist) (h : RisesOf wd hist span now floor rs) :
    rs.Pairwise (fun x y => riseLt x y = true) ∧ ∀ r ∈ rs, RiseOk r ∧ floor ≤ r.new := by
  unfold RisesOf at h
  by_cases hB : ofB wd span now = true
  · rw [if_pos hB] at h
    refine ⟨h.1, fun r hr => ?_⟩
    obtain ⟨h1, h2, h3⟩ := (h.2 r).1 hr
    refine ⟨?_, h3⟩
    rw [h1]
    refine riseOf_ok hO span _ ?_
    have : r.new = histTot wd hist r.key ((begB wd now - span) / wd) (begB wd now / wd) := congrArg RiseV.new h1
    omega
  · rw [if_neg hB] at h
    subst h
    simp
theorem ahead_facts {a r : RiseV} (h : riseLt a r = true) : cmpInt (a.new * (r.old + 1)) (r.new * (a.old + 1)) = 1 ∨ (cmpInt (a.new * (r.old + 1)) (r.new * (a.old + 1)) = 0 ∧ (r.new < a.new ∨ (a.new = r.new ∧ sLt a.key r.key = true))) := by
  rw [riseLt_iff] at h
  rcases cmpInt_cases (a.new * (r.old + 1)) (r.new * (a.old + 1)) with ⟨h1, e1⟩ | ⟨h1, e1⟩ | ⟨h1, e1⟩
  · exfalso; omega
  · right
    refine ⟨e1, ?_⟩
    rcases h with h | ⟨_, h | ⟨h, h'⟩⟩
    · omega
    · exact .inl h
    · exact .inr ⟨h.symm, h'⟩
  · exact .inl e1

set_option maxRecDepth 20000 in
set_option maxHeartbeats 4000000 in
theorem orders_walk (width : Int) (A : Option Addr) (c : Nat) (l : List AddD) (span now floor : Int) (w : World) (hl : AddsAt w w.heap.size A l) (hlen : (l.length : Int) ≤ 9223372036854775807) :
    Calls Try.prog 5 #[.int .i64 width, .slice A l.length c, .int .i64 span, .int .i64 now, .int .i64 floor] w fun e w' => e = .returned (.bool true) ∧ Below w.heap.size w w' := by
  by_cases g1 : longB l = true
  · go_enter Try.func5, Try.ntmps5
    go_wp2_with fail
    refine (long_any A c l _ hl hlen).mono ?_
    rintro r w1 ⟨rfl, hb1⟩
    go_wp2_with fail
    refine (awake_any _).mono ?_
    rintro r w2 ⟨rfl, hb2⟩
    go_wp2
    go_ret
    exact ⟨rfl, hb1.trans (hb2.mono hb1.size)⟩
  · have g1' : longB l = false := by simpa using g1
    have hno := Lib.hid (longB_no g1').1
    clear g1
    go_enter Try.func5, Try.ntmps5
    go_wp2_with fail
    refine (long_any A c l _ hl hlen).mono ?_
    rintro r w1 ⟨rfl, hb1⟩
    go_wp2_with fail
    refine (fill_any width A c l _ ((hl.below hb1).more hb1.size) (by have := hno.out; omega)).mono ?_
    rintro r w2 ⟨pb, F, rfl, hO, hF, hb2⟩
    have HO := Lib.hid hO
    clear hO hF
    go_wp2_with fail
    refine (rof_any pb F (widthOf width) (l.filter rightB) span now floor w2 HO.out).mono ?_
    rintro r w3 ⟨A3, c3, rs, rfl, hrs, hown, hb3, hlen3⟩
    have hfa := RisesOf.facts HO.out hrs
    have hat : RisesAt w3 w3.heap.size A3 rs := Reads.of_own hown
    have hrl : (rs.length : Int) ≤ 60 := by
      have h1 := List.length_filter_le rightB l
      have := hno.out
      omega
    have HB : Hid (Below w.heap.size w w3) := Lib.hid ((hb1.trans (hb2.mono hb1.size)).trans (hb3.mono (by have := hb1.size; have := hb2.size; omega)))
    have HF := Lib.hid hfa
    have HAT := Lib.hid hat
    clear hfa hat hown hrs hlen3 hb1 hb2 hb3 HO
    go_wp2_with fail
    go_loopg [32] rs.length (fun rest i wr => ∃ k : Nat, i = .int .i64 k ∧ Hid (k + rest = rs.length) ∧ Below w3.heap.size w3 wr)
    case atStart => exact ⟨0, rfl, Lib.hid (by simp), Below.refl _ _⟩
    case round =>
      obtain ⟨k, rfl, HK, hb⟩ := hrel
      have hz := hb.size
      by_cases hk : (k : Int) < (rs.length : Int)
      · have hkl : k < rs.length := by omega
        obtain ⟨b, o, rfl, hbl, c1, c2, c3⟩ := (HAT.out.below hb).one hkl
        obtain ⟨⟨y1, y2, y3, y4⟩, y5⟩ := HF.out.2 rs[k] (List.getElem_mem hkl)
        by_cases h0 : (k : Int) = 0
        · have hk0 : k = 0 := by omega
          subst hk0
          generalize rs[0] = y at *
          have c1' : wr.cell? ⟨b, o, none⟩ = some (.string y.key) := by simpa using c1
          have c2' : wr.cell? ⟨b, o + 1, none⟩ = some (.int .i64 y.new) := by simpa using c2
          have c3' : wr.cell? ⟨b, o + 2, none⟩ = some (.int .i64 y.old) := by simpa using c3
          clear c1 c2 c3 h0
          go_wp2
          go_roundg (gk - 1)
          case measure => have := HK.out; omega
          case rel => exact ⟨0 + 1, by go_num, Lib.hid (by have := HK.out; omega), hb.alloc hz _⟩
        · have h0' : ((k : Int) == 0) = false := by simp; omega
          have hk1 : ¬ k = 0 := by omega
          have hm : k - 1 < rs.length := by omega
          obtain ⟨b', o', e', hbl', d1, d2, d3⟩ := (HAT.out.below hb).one hm
          injection e' with e'
          injection e' with e1 e2
          subst e1 e2
          obtain ⟨⟨x1, x2, x3, x4⟩, x5⟩ := HF.out.2 rs[k - 1] (List.getElem_mem hm)
          have hlt : riseLt rs[k - 1] rs[k] = true := (List.pairwise_iff_getElem.1 HF.out.1) (k - 1) k hm hkl (by omega)
          have hj3 : ((k : Int) - 1).toNat = k - 1 := by omega
          have hw1 : IntKind.i64.wrap ((k : Int) - 1) = (k : Int) - 1 := IntWalk.i64_in _ (by omega)
          generalize rs[k] = y at *
          generalize rs[k - 1] = x at *
          have d3' : wr.cell? ⟨b, o + (k - 1) * 3 + 2, none⟩ = some (.int .i64 x.old) := d3
          have c3' : wr.cell? ⟨b, o + k * 3 + 2, none⟩ = some (.int .i64 y.old) := c3
          have hbw : Below wr.heap.size wr (wr.alloc (Obj.cells #[Value.string y.key, Value.int .i64 y.new, Value.int .i64 y.old] 34)) := (Below.refl _ wr).alloc (Nat.le_refl _) _
          have m1 := (hbw.cell (p := ⟨b, o + (k - 1) * 3, none⟩) (by show b < _; omega)).trans d1
          have m2 := (hbw.cell (p := ⟨b, o + (k - 1) * 3 + 1, none⟩) (by show b < _; omega)).trans d2
          have m3 := (hbw.cell (p := ⟨b, o + (k - 1) * 3 + 2, none⟩) (by show b < _; omega)).trans d3'
          clear hbw
          have hah := ahead_facts hlt
          have q1 := fun W => ratio_any x.key x.new x.old (by omega) W
          have q2 := fun W => ratio_any y.key y.new y.old (by omega) W
          rw [ratNum_ok (by omega) (by omega) (by omega), ratDen_ok (by omega) (by omega) (by omega)] at q1 q2
          have q3 := fun W => compare_any x.new (x.old + 1) y.new (y.old + 1) (by omega) (by omega) (by omega) (by omega) (by omega) (by omega) (by omega) (by omega) W
          generalize cmpInt (x.new * (y.old + 1)) (y.new * (x.old + 1)) = cc at *
          have Q1 := Lib.hid q1
          have Q2 := Lib.hid q2
          have Q3 := Lib.hid q3
          have HAH := Lib.hid hah
          clear q1 q2 q3 hah hlt
          go_wp2_with fail
          obtain ⟨W0, hW0⟩ : ∃ W0, W0 = (wr.alloc (Obj.cells #[Value.string y.key, Value.int .i64 y.new, Value.int .i64 y.old] 34)).alloc (Obj.cells #[Value.string x.key, Value.int .i64 x.new, Value.int .i64 x.old] 34) := ⟨_, rfl⟩
          have f0 : W0.cell? ⟨wr.heap.size, 0, none⟩ = some (.string y.key) := by rw [hW0]; simp
          have f1 : W0.cell? ⟨wr.heap.size, 1, none⟩ = some (.int .i64 y.new) := by rw [hW0]; simp
          have f2 : W0.cell? ⟨wr.heap.size, 2, none⟩ = some (.int .i64 y.old) := by rw [hW0]; simp
          have f3 : W0.cell? ⟨wr.heap.size + 1, 0, none⟩ = some (.string x.key) := by rw [hW0]; simp
          have f4 : W0.cell? ⟨wr.heap.size + 1, 1, none⟩ = some (.int .i64 x.new) := by rw [hW0]; simp
          have f5 : W0.cell? ⟨wr.heap.size + 1, 2, none⟩ = some (.int .i64 x.old) := by rw [hW0]; simp
          have hz0 : wr.heap.size < W0.heap.size := by rw [hW0]; simp; omega
          have hz1 : wr.heap.size + 1 < W0.heap.size := by rw [hW0]; simp
          have HG : Hid (Below w3.heap.size w3 W0) := Lib.hid (by rw [hW0]; exact (hb.alloc hz _).alloc (by simp; omega) _)
          rw [← hW0]
          clear hW0 c1 c2 c3 d1 d2 d3 c3' d3' m1 m2 m3
          have hKe : Grew W0 W0.drew := (Grew.refl _).drew
          refine heldStart 5 (S := fun W => W.cell? ⟨wr.heap.size, 0, none⟩ = some (.string y.key) ∧ W.cell? ⟨wr.heap.size, 1, none⟩ = some (.int .i64 y.new) ∧ W.cell? ⟨wr.heap.size, 2, none⟩ = some (.int .i64 y.old) ∧ W.cell? ⟨wr.heap.size + 1, 0, none⟩ = some (.string x.key) ∧ W.cell? ⟨wr.heap.size + 1, 1, none⟩ = some (.int .i64 x.new) ∧ W.cell? ⟨wr.heap.size + 1, 2, none⟩ = some (.int .i64 x.old)) (by kernel_rfl) ?_ (fun hHeld => ?_)
          · exact keep6 hKe hz0 hz1 f0 f1 f2 f3 f4 f5
          refine heldTake 0 (v := ?_) (by simp only [List.getElem?_toArray, List.getElem?_cons_succ, List.getElem?_cons_zero]; rfl) (by kernel_rfl) (by intro _ _ _ h; exact h) (by rfl) (by assumption) ?_ ?_
          rotate_left
          · intro W hSw; (try dsimp only at hSw); go_simp; try with_reducible rfl
          simp only [Act.put, List.setIfInBounds_toArray, List.set_cons_zero, List.set_cons_succ]
          refine heldTake 2 (v := ?_) (by simp only [List.getElem?_toArray, List.getElem?_cons_succ, List.getElem?_cons_zero]; rfl) (by kernel_rfl) (by intro _ _ _ h; exact h) (by rfl) (by assumption) ?_ ?_
          rotate_left
          · intro W hSw; (try dsimp only at hSw); go_simp; try with_reducible rfl
          simp only [Act.put, List.setIfInBounds_toArray, List.set_cons_zero, List.set_cons_succ]
          refine heldCall 1 (by simp only [List.getElem?_toArray, List.getElem?_cons_succ, List.getElem?_cons_zero]; rfl) (by kernel_rfl) (fun K hK => ?_)
          go_simp
          refine (Q1.out _).mono ?_
          rintro e w4 ⟨rfl, hg⟩
          have hK0 := hKe.trans hg
          clear hKe hg
          have hKe := hK0
          clear hK0
          go_wp2_with fail
          refine hK.out _ _ ?_ (fun hHeld => ?_)
          · exact keep6 hKe hz0 hz1 f0 f1 f2 f3 f4 f5
          clear hK K
          (try simp only [Act.put, List.setIfInBounds_toArray, List.set_cons_zero, List.set_cons_succ])
          refine heldCall 3 (by simp only [List.getElem?_toArray, List.getElem?_cons_succ, List.getElem?_cons_zero]; rfl) (by kernel_rfl) (fun K hK => ?_)
          go_simp
          refine (Q2.out _).mono ?_
          rintro e w5 ⟨rfl, hg⟩
          have hK0 := hKe.trans hg
          clear hKe hg
          have hKe := hK0
          clear hK0
          go_wp2_with fail
          refine hK.out _ _ ?_ (fun hHeld => ?_)
          · exact keep6 hKe hz0 hz1 f0 f1 f2 f3 f4 f5
          clear hK K
          (try simp only [Act.put, List.setIfInBounds_toArray, List.set_cons_zero, List.set_cons_succ])
          refine heldCall 4 (by simp only [List.getElem?_toArray, List.getElem?_cons_succ, List.getElem?_cons_zero]; rfl) (by kernel_rfl) (fun K hK => ?_)
          go_simp
          refine (Q3.out _).mono ?_
          rintro e w6 ⟨rfl, hg⟩
          have hK0 := hKe.trans hg
          clear hKe hg
          have hKe := hK0
          clear hK0
          go_wp2_with fail
          refine hK.out _ _ ?_ (fun hHeld => ?_)
          · exact keep6 hKe hz0 hz1 f0 f1 f2 f3 f4 f5
          clear hK K
          (try simp only [Act.put, List.setIfInBounds_toArray, List.set_cons_zero, List.set_cons_succ])
          refine heldTake 5 (v := ?_) (by simp only [List.getElem?_toArray, List.getElem?_cons_succ, List.getElem?_cons_zero]; rfl) (by kernel_rfl) (by intro _ _ _ h; exact h) (by rfl) (by assumption) ?_ ?_
          rotate_left
          · intro W hSw; (try dsimp only at hSw); go_simp; try with_reducible rfl
          simp only [Act.put, List.setIfInBounds_toArray, List.set_cons_zero, List.set_cons_succ]
          refine heldDone (by kernel_rfl) ?_ _
          obtain ⟨s0, s1, s2, s3, s4, s5⟩ := keep6 hKe hz0 hz1 f0 f1 f2 f3 f4 f5
          have HB6 : Hid (Below w3.heap.size w3 w6) := Lib.hid (HG.out.trans (hKe.below.mono HG.out.size))
          clear hKe f0 f1 f2 f3 f4 f5
          rcases HAH.out with h1 | ⟨h1, h2 | ⟨h2, h3⟩⟩
          · subst h1
            go_wp2
            go_roundg (gk - 1)
            case measure => have := HK.out; omega
            case rel => exact ⟨k + 1, by go_num, Lib.hid (by have := HK.out; omega), HB6.out⟩
          · subst h1
            have n1 : (x.new == y.new) = false := by simp; omega
            go_wp2
            go_roundg (gk - 1)
            case measure => have := HK.out; omega
            case rel => exact ⟨k + 1, by go_num, Lib.hid (by have := HK.out; omega), HB6.out⟩
          · subst h1
            have n1 : (x.new == y.new) = true := by simp [h2]
            have n2 : ¬ x.new < y.new := by omega
            have n3 : Op.bytesLess x.key.toList y.key.toList = true := h3
            clear h2 h3
            go_wp2
            go_roundg (gk - 1)
            case measure => have := HK.out; omega
            case rel => exact ⟨k + 1, by go_num, Lib.hid (by have := HK.out; omega), HB6.out⟩
      · go_wp2_with fail
        refine (awake_any _).mono ?_
        rintro r w4 ⟨rfl, hb4⟩
        go_wp2
        go_ret
        exact ⟨rfl, (HB.out.trans (hb.mono HB.out.size)).trans (hb4.mono (by have := HB.out.size; omega))⟩
end Go.Proofs.Ytbfjknpljkmgjaa
