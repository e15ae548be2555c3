/- Contracts of the reference of layer 19: May, Sum, Of, Less. -/
import Derived.Test.YtbfjknpljkmgjaaRisP
import Derived.Test.YtbfjknpljkmgjaaRisO
import Derived.Test.YtbfjknpljkmgjaaRisL
import Derived.Test.YtbfjknpljkmgjaaRisM
namespace Go.Proofs.Ytbfjknpljkmgjaa
open Go.ChangeShapes Go.WideShapes Go.ChangeAt Go.RowKit Go.Shelf Go.Lib Go.Sort Go.Proofs
set_option linter.unusedVariables false
set_option linter.unusedSimpArgs false

set_option maxRecDepth 20000 in
set_option maxHeartbeats 1000000 in
theorem rmay19_any (wd span now : Int) (hw : 1 ≤ wd) (w : World) :
    Calls Try.prog 33 #[.int .i64 wd, .int .i64 span, .int .i64 now] w fun e w' => e = .returned (.bool (ofB wd span now)) ∧ w = w' := by
  have hz : ¬ wd = 0 := by omega
  by_cases a1 : 1 ≤ span
  · by_cases a2 : span ≤ 1099511627776
    · have t1 : span.tmod wd = span % wd := Int.tmod_eq_emod_of_nonneg (by omega)
      by_cases a3 : span % wd = 0
      · have a3' : (span % wd == 0) = true := by simpa using a3
        by_cases a4 : 0 ≤ now
        · have HF : Hid (decide (now ≤ 1099511627776) = ofB wd span now) := Lib.hid (by
            unfold ofB
            rw [decide_eq_true a1, decide_eq_true a2, decide_eq_true a3, decide_eq_true a4]
            rfl)
          go_enter Try.func33, Try.ntmps33
          go_wp2
          go_ret
          exact ⟨ret_bool HF.out, rfl⟩
        · have HF : Hid (false = ofB wd span now) := Lib.hid (by unfold ofB; rw [decide_eq_false a4]; simp)
          go_enter Try.func33, Try.ntmps33
          go_wp2
          go_ret
          exact ⟨ret_bool HF.out, rfl⟩
      · have a3' : (span % wd == 0) = false := by simpa using a3
        have HF : Hid (false = ofB wd span now) := Lib.hid (by unfold ofB; rw [decide_eq_false a3]; simp)
        go_enter Try.func33, Try.ntmps33
        go_wp2
        go_ret
        exact ⟨ret_bool HF.out, rfl⟩
    · have HF : Hid (false = ofB wd span now) := Lib.hid (by unfold ofB; rw [decide_eq_false a2]; simp)
      go_enter Try.func33, Try.ntmps33
      go_wp2
      go_ret
      exact ⟨ret_bool HF.out, rfl⟩
  · have HF : Hid (false = ofB wd span now) := Lib.hid (by unfold ofB; rw [decide_eq_false a1]; simp)
    go_enter Try.func33, Try.ntmps33
    go_wp2
    go_ret
    exact ⟨ret_bool HF.out, rfl⟩

theorem right_bd {a : AddD} (h : rightB a = true) : 0 ≤ a.n ∧ a.n ≤ 1048576 := by
  unfold rightB at h
  simp only [Bool.and_eq_true, decide_eq_true_eq] at h
  omega
theorem tot_take_bd (wd : Int) (l : List AddD) (k : Nat) (key : ByteArray) (lo hi : Int) (hk : k ≤ 40) : 0 ≤ histTot wd ((l.take k).filter rightB) key lo hi ∧ histTot wd ((l.take k).filter rightB) key lo hi ≤ 41943040 := by
  have h := histTot_bound wd ((l.take k).filter rightB) (fun a ha => right_bd (List.mem_filter.1 ha).2) key lo hi
  have h1 := List.length_filter_le rightB (l.take k)
  have h2 := List.length_take_le k l
  omega
theorem tot_take_snoc (wd : Int) (l : List AddD) {k : Nat} (hk : k < l.length) (key : ByteArray) (frm to : Int) (hw : 1 ≤ wd) (h1 : frm % wd = 0) (h2 : to % wd = 0) :
    histTot wd ((l.take (k + 1)).filter rightB) key (frm / wd) (to / wd) = histTot wd ((l.take k).filter rightB) key (frm / wd) (to / wd) + (if rightB l[k] = true ∧ l[k].key = key ∧ frm ≤ l[k].at_ ∧ l[k].at_ < to then l[k].n else 0) := by
  have ht : (l.take (k + 1)).filter rightB = (l.take k).filter rightB ++ (if rightB l[k] = true then [l[k]] else []) := by
    rw [List.take_succ_eq_append_getElem hk, List.filter_append]
    congr 1
    by_cases hr : rightB l[k] = true <;> simp [List.filter_cons, hr]
  rw [ht]
  by_cases hr : rightB l[k] = true
  · rw [if_pos hr, histTot_snoc]
    simp only [pane_ge hw h1, pane_lt hw h2]
    simp [hr]
  · rw [if_neg hr, List.append_nil, if_neg (fun h => hr h.1), Int.add_zero]

set_option maxRecDepth 20000 in
set_option maxHeartbeats 2000000 in
theorem rsum19_any (A : Option Addr) (B c : Nat) (l : List AddD) (key : ByteArray) (frm to wd : Int) (w : World) (hl : AddsAt w B A l) (hB : B ≤ w.heap.size) (hlen : (l.length : Int) ≤ 40) (hw : 1 ≤ wd) (h1 : frm % wd = 0) (h2 : to % wd = 0) :
    Calls Try.prog 49 #[.slice A l.length c, .string key, .int .i64 frm, .int .i64 to] w fun e w' => e = .returned (.int .i64 (histTot wd (l.filter rightB) key (frm / wd) (to / wd))) ∧ Below w.heap.size w w' := by
  have HS := Lib.hid (fun k (hk : k < l.length) => tot_take_snoc wd l hk key frm to hw h1 h2)
  have HBD := Lib.hid (fun k (hk : k ≤ 40) => tot_take_bd wd l k key (frm / wd) (to / wd) hk)
  have h0 : histTot wd ((l.take 0).filter rightB) key (frm / wd) (to / wd) = 0 := by simp [histTot]
  have hfin : ∀ k, l.length ≤ k → histTot wd ((l.take k).filter rightB) key (frm / wd) (to / wd) = histTot wd (l.filter rightB) key (frm / wd) (to / wd) := fun k hk => by rw [List.take_of_length_le hk]
  have HFIN := Lib.hid hfin
  have H0 := Lib.hid h0
  clear hfin h0 h1 h2
  generalize hg : (fun k : Nat => histTot wd ((l.take k).filter rightB) key (frm / wd) (to / wd)) = g at *
  have HG : Hid (∀ k, histTot wd ((l.take k).filter rightB) key (frm / wd) (to / wd) = g k) := Lib.hid (fun k => by rw [← hg])
  clear hg
  go_enter Try.func49, Try.ntmps49
  go_wp2_with fail
  go_loopg [9, 10] l.length (fun rest s i wr => ∃ (k : Nat), i = .int .i64 k ∧ Hid (k + rest = l.length) ∧ s = .int .i64 (g k) ∧ Below w.heap.size w wr)
  case atStart => exact ⟨0, rfl, Lib.hid (by simp), by rw [← HG.out, H0.out], Below.refl _ _⟩
  case round =>
    obtain ⟨k, rfl, HK, rfl, hb⟩ := hrel
    have hz := hb.size
    by_cases hk : (k : Int) < (l.length : Int)
    · have hkl : k < l.length := by omega
      obtain ⟨b, o, rfl, hbl, c1, c2, c3⟩ := (hl.below (hb.mono hB)).one hkl
      have hsn := HS.out k hkl
      have hbd := HBD.out k (by omega)
      rw [HG.out] at hbd
      rw [HG.out, HG.out] at hsn
      generalize l[k] = x at *
      have c3' : wr.cell? ⟨b, o + k * 3 + 2, none⟩ = some (.int .i64 x.n) := c3
      have q := rright_any x.key x.at_ x.n wr
      have Q := Lib.hid q
      clear q
      by_cases hr : rightB x = true
      · have hxb := right_bd hr
        by_cases hx : x.key = key
        · have he : (x.key.toList == key.toList) = true := by rw [hx]; simp
          have HX := Lib.hid hx
          clear hx
          by_cases h3 : frm ≤ x.at_
          · by_cases h4 : x.at_ < to
            · rw [if_pos ⟨hr, HX.out, h3, h4⟩] at hsn
              have HSN := Lib.hid hsn
              clear hsn
              go_wp2_with fail
              refine Q.out.mono ?_
              rintro e w1 ⟨rfl, hb1⟩
              have c1 := (hb1.cell (p := ⟨b, o + k * 3, none⟩) (by show b < _; omega)).trans c1
              have c2 := (hb1.cell (p := ⟨b, o + k * 3 + 1, none⟩) (by show b < _; omega)).trans c2
              have c3 := (hb1.cell (p := ⟨b, o + k * 3 + 1 + 1, none⟩) (by show b < _; omega)).trans c3
              have c3' : w1.cell? ⟨b, o + k * 3 + 2, none⟩ = some (.int .i64 x.n) := c3
              have hr' : rightB ⟨x.key, x.at_, x.n⟩ = true := hr
              rw [hr']
              go_wp2
              go_roundg (gk - 1)
              case measure => have := HK.out; omega
              case rel => exact ⟨k + 1, by go_num, Lib.hid (by have := HK.out; omega), by rw [HSN.out], hb.trans (hb1.mono hz)⟩
            · rw [if_neg (fun h => h4 h.2.2.2), Int.add_zero] at hsn
              have HSN := Lib.hid hsn
              clear hsn
              go_wp2_with fail
              refine Q.out.mono ?_
              rintro e w1 ⟨rfl, hb1⟩
              have c1 := (hb1.cell (p := ⟨b, o + k * 3, none⟩) (by show b < _; omega)).trans c1
              have c2 := (hb1.cell (p := ⟨b, o + k * 3 + 1, none⟩) (by show b < _; omega)).trans c2
              have hr' : rightB ⟨x.key, x.at_, x.n⟩ = true := hr
              rw [hr']
              go_wp2
              go_roundg (gk - 1)
              case measure => have := HK.out; omega
              case rel => exact ⟨k + 1, by go_num, Lib.hid (by have := HK.out; omega), by rw [HSN.out], hb.trans (hb1.mono hz)⟩
          · rw [if_neg (fun h => h3 h.2.2.1), Int.add_zero] at hsn
            have HSN := Lib.hid hsn
            clear hsn
            go_wp2_with fail
            refine Q.out.mono ?_
            rintro e w1 ⟨rfl, hb1⟩
            have c1 := (hb1.cell (p := ⟨b, o + k * 3, none⟩) (by show b < _; omega)).trans c1
            have c2 := (hb1.cell (p := ⟨b, o + k * 3 + 1, none⟩) (by show b < _; omega)).trans c2
            have hr' : rightB ⟨x.key, x.at_, x.n⟩ = true := hr
            rw [hr']
            go_wp2
            go_roundg (gk - 1)
            case measure => have := HK.out; omega
            case rel => exact ⟨k + 1, by go_num, Lib.hid (by have := HK.out; omega), by rw [HSN.out], hb.trans (hb1.mono hz)⟩
        · have he : (x.key.toList == key.toList) = false := by rw [beq_eq_false_iff_ne]; exact fun e => hx (toList_inj e)
          rw [if_neg (fun h => hx h.2.1), Int.add_zero] at hsn
          have HSN := Lib.hid hsn
          clear hsn
          go_wp2_with fail
          refine Q.out.mono ?_
          rintro e w1 ⟨rfl, hb1⟩
          have c1 := (hb1.cell (p := ⟨b, o + k * 3, none⟩) (by show b < _; omega)).trans c1
          have hr' : rightB ⟨x.key, x.at_, x.n⟩ = true := hr
          rw [hr']
          go_wp2
          go_roundg (gk - 1)
          case measure => have := HK.out; omega
          case rel => exact ⟨k + 1, by go_num, Lib.hid (by have := HK.out; omega), by rw [HSN.out], hb.trans (hb1.mono hz)⟩
      · rw [if_neg (fun h => hr h.1), Int.add_zero] at hsn
        have HSN := Lib.hid hsn
        clear hsn
        go_wp2_with fail
        refine Q.out.mono ?_
        rintro e w1 ⟨rfl, hb1⟩
        have hr' : rightB ⟨x.key, x.at_, x.n⟩ = false := by simpa using hr
        rw [hr']
        go_wp2
        go_roundg (gk - 1)
        case measure => have := HK.out; omega
        case rel => exact ⟨k + 1, by go_num, Lib.hid (by have := HK.out; omega), by rw [HSN.out], hb.trans (hb1.mono hz)⟩
    · have hgk : g k = histTot wd (l.filter rightB) key (frm / wd) (to / wd) := by rw [← HG.out, HFIN.out k (by omega)]
      rw [hgk]
      go_wp2
      go_ret
      exact ⟨rfl, hb⟩

set_option maxRecDepth 20000 in
set_option maxHeartbeats 1000000 in
theorem rof19_any (A : Option Addr) (B c : Nat) (l : List AddD) (wd span now : Int) (key : ByteArray) (w : World) (hl : AddsAt w B A l) (hB : B ≤ w.heap.size) (hlen : (l.length : Int) ≤ 40) (hw : 1 ≤ wd) (ho : ofB wd span now = true) :
    Calls Try.prog 34 #[.slice A l.length c, .int .i64 wd, .int .i64 span, .int .i64 now, .string key] w fun e w' => e = .returned (.agg #[.string key, .int .i64 (riseOf wd (l.filter rightB) span (begB wd now) key).new, .int .i64 (riseOf wd (l.filter rightB) span (begB wd now) key).old]) ∧ Below w.heap.size w w' := by
  have hB' := ho
  simp only [ofB, Bool.and_eq_true, decide_eq_true_eq] at hB'
  obtain ⟨⟨⟨⟨s1, s2⟩, s3⟩, n1⟩, n2⟩ := hB'
  have t2 : now.tmod wd = now % wd := Int.tmod_eq_emod_of_nonneg n1
  have hbd := begB_bd hw n1
  have hbm := begB_mod (now := now) hw
  have hwr : IntKind.i64.wrap (now - now % wd) = begB wd now := IntWalk.i64_in _ (by unfold begB at hbd; omega)
  have hz : ¬ wd = 0 := by omega
  have m1 : (begB wd now - span) % wd = 0 := by rw [Int.sub_emod, hbm, s3]; simp
  have m2 : (begB wd now - 2 * span) % wd = 0 := by rw [Int.sub_emod, hbm, Int.mul_emod, s3]; simp
  have HL := Lib.hid hl
  have q1 := fun W (hb : Below w.heap.size w W) => rsum19_any A B c l key (begB wd now - span) (begB wd now) wd W (HL.out.below (hb.mono hB)) (by have := hb.size; omega) hlen hw m1 hbm
  have q2 := fun W (hb : Below w.heap.size w W) => rsum19_any A B c l key (begB wd now - 2 * span) (begB wd now - span) wd W (HL.out.below (hb.mono hB)) (by have := hb.size; omega) hlen hw m2 m1
  have Q1 := Lib.hid q1
  have Q2 := Lib.hid q2
  clear q1 q2 m1 m2 hbm s3 ho hl
  unfold riseOf
  generalize begB wd now = bg at *
  have hb0 : Below w.heap.size w (w.alloc (Obj.cells #[.string ⟨#[]⟩, .int .i64 0, .int .i64 0] 34)) := (Below.refl _ _).alloc (Nat.le_refl _) _
  have hc0 := heap_alloc_new w (Obj.cells #[.string ⟨#[]⟩, .int .i64 0, .int .i64 0] 34)
  have hz0 : w.heap.size < (w.alloc (Obj.cells #[.string ⟨#[]⟩, .int .i64 0, .int .i64 0] 34)).heap.size := by simp
  go_enter Try.func34, Try.ntmps34
  go_wp2_with fail
  generalize (w.alloc (Obj.cells #[.string ⟨#[]⟩, .int .i64 0, .int .i64 0] 34)) = W0 at *
  refine (Q1.out _ hb0).mono ?_
  rintro e w1 ⟨rfl, hb1⟩
  have hb01 : Below w.heap.size w w1 := hb0.trans (hb1.mono hb0.size)
  go_wp2_with fail
  refine (Q2.out _ hb01).mono ?_
  rintro e w2 ⟨rfl, hb2⟩
  have hb02 : Below w.heap.size w w2 := hb01.trans (hb2.mono hb01.size)
  have hblk : w2.heap[w.heap.size]? = some (Obj.cells #[.string ⟨#[]⟩, .int .i64 0, .int .i64 0] 34) := (hb2.block _ (by have := hb1.size; omega)).trans ((hb1.block _ hz0).trans hc0)
  clear hc0 hz0 hb01 hb1 hb2 hb0
  have f0 : w2.frozen? ⟨w.heap.size, 0, none⟩ = false := frozen_of_blk hblk 0
  have f1 : w2.frozen? ⟨w.heap.size, 1, none⟩ = false := frozen_of_blk hblk 1
  have f2 : w2.frozen? ⟨w.heap.size, 2, none⟩ = false := frozen_of_blk hblk 2
  have g0 : w2.cell? ⟨w.heap.size, 0, none⟩ = some (.string ⟨#[]⟩) := by simp [World.cell?, hblk]
  have g1 : w2.cell? ⟨w.heap.size, 1, none⟩ = some (.int .i64 0) := by simp [World.cell?, hblk]
  have g2 : w2.cell? ⟨w.heap.size, 2, none⟩ = some (.int .i64 0) := by simp [World.cell?, hblk]
  generalize hN1 : histTot wd (l.filter rightB) key ((bg - span) / wd) (bg / wd) = N1 at *
  generalize hN2 : histTot wd (l.filter rightB) key ((bg - 2 * span) / wd) ((bg - span) / wd) = N2 at *
  have HN1 := Lib.hid hN1
  have HN2 := Lib.hid hN2
  clear hN1 hN2
  go_wp2
  have hset : (((w2.setCell ⟨w.heap.size, 0, none⟩ (.string key)).setCell ⟨w.heap.size, 1, none⟩ (.int .i64 N1)).setCell ⟨w.heap.size, 2, none⟩ (.int .i64 N2)).heap[w.heap.size]? = some (Obj.cells #[.string key, .int .i64 N1, .int .i64 N2] 34) := by
    simp [World.setCell, Array.getElem?_modify, hblk]
  refine bodyPost_ret (results_cell_row rfl _ _ _ _ _ _ _ rfl hset Try.underlying34 rfl (by kernel_rfl)) rfl ?_
  exact ⟨by rw [HN1.out, HN2.out], ((hb02.setCell (Nat.le_refl _) _).setCell (Nat.le_refl _) _).setCell (Nat.le_refl _) _⟩
end Go.Proofs.Ytbfjknpljkmgjaa
