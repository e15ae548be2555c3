/- Contract of (*pane.Panes).Add: what is taken is added, else nothing happens. -/
import Derived.Test.YtmigjlceogofaaaPaneC
namespace Go.Proofs.Ytmigjlceogofaaa
open Go.ChangeShapes Go.WideShapes Go.ChangeAt Go.RowKit
set_option linter.unusedVariables false
set_option linter.unusedSimpArgs false

def addB (key : ByteArray) (at_ n : Int) (cnt : Nat) : Bool :=
  decide (1 ≤ (key.size : Int)) && decide ((key.size : Int) ≤ 24) && decide (0 ≤ at_) && decide (at_ ≤ 1099511627776) && decide (0 ≤ n) && decide (n ≤ 1048576) && decide ((cnt : Int) < 1048576)

theorem PanesAt.bump {w : World} {pb bs br : Nat} {wd ad : Int} {S : SumsL} {R : RowsL} (h : PanesAt w pb bs br wd ad S R) (x : Int) : PanesAt (w.setCell ⟨pb, 1, none⟩ (.int .i64 x)) pb bs br wd x S R := by
  have hk : Keeps (fun k => k = pb) w (w.setCell ⟨pb, 1, none⟩ (.int .i64 x)) := (Keeps.refl (fun k => k = pb) w).setCell (p := ⟨pb, 1, none⟩) (.inr rfl) _
  have hmn := h.map_ne
  refine ⟨?_, h.sums.keep hk (Ne.symm hmn.1), h.rows.keep hk (Ne.symm hmn.2), h.ne, fun p hp => hk.own (h.own p hp) (fun k hk' => (h.row_ne (h.own p hp) hk').1), h.apart⟩
  have hb := h.blk
  simp [World.setCell, Array.getElem?_modify, hb]

def AddLeaves (w : World) (pb : Nat) (F : Nat → Prop) (wd : Int) (hist : List AddD) (a : AddD) (b : Bool) (e : Ending) (w' : World) : Prop :=
  e = .returned (.bool b) ∧ ∃ F', PaneObj w' pb F' wd (if b = true then hist ++ [a] else hist) ∧ Keeps F w w' ∧ (∀ k, F' k → F k ∨ w.heap.size ≤ k)

theorem rowOf_eq (R : RowsL) (key : ByteArray) : (rowOf R key).ns = ((mget R key).map (·.ns)).getD [] := by
  unfold rowOf
  cases mget R key <;> rfl

theorem frozen_of_blk {w : World} {g : Nat} {t : TypeId} {cs : Array Value} (h : w.heap[g]? = some (.cells cs t (0, 0))) (i : Nat) : w.frozen? ⟨g, i, none⟩ = false := by
  simp [World.frozen?, h]

set_option maxRecDepth 20000 in
set_option maxHeartbeats 1000000 in
theorem padd_yes (pb : Nat) (F : Nat → Prop) (wd : Int) (hist : List AddD) (key : ByteArray) (at_ n : Int) (w : World) (h : PaneObj w pb F wd hist)
    (a1 : 1 ≤ (key.size : Int)) (a2 : (key.size : Int) ≤ 24) (a3 : 0 ≤ at_) (a4 : at_ ≤ 1099511627776) (a5 : 0 ≤ n) (a6 : n ≤ 1048576) (a7 : (hist.length : Int) < 1048576) :
    Calls Try.prog 34 #[.pointer (some ⟨pb, 0, none⟩), .string key, .int .i64 at_, .int .i64 n] w (AddLeaves w pb F wd hist ⟨key, at_, n⟩ true) := by
  obtain ⟨bs, br, S, R, hP, hI, rfl⟩ := h
  have a8 := Lib.hid (show hist.length < 1048576 by omega)
  have hlen : ((hist ++ [(⟨key, at_, n⟩ : AddD)]).length : Int) = (hist.length : Int) + 1 := by simp
  have hmx := hI.cnt
  have hc0' : (0 : Int) ≤ (hist.length : Int) := by omega
  have HMX := Lib.hid hmx
  clear hmx
  generalize (hist.length : Int) = ad at hP a7 hlen hc0'
  have HL := Lib.hid hlen
  clear hlen
  obtain ⟨c0, c1, c2, c3⟩ := cell_of_panes hP
  have hfz := frozen_of_blk hP.blk 1
  have hwd := hI.wide
  have hq := floor_bd at_ wd 1099511627776 hwd.1 (by omega) (by omega) a4
  have hP1 := hP.bump (ad + 1)
  have hK1 : Keeps (paneFoot pb bs br R) w (w.setCell ⟨pb, 1, none⟩ (.int .i64 (ad + 1))) := (Keeps.refl _ _).setCell (.inr (.inl rfl)) _
  have hc0 := (cell_of_panes hP1).1
  have hpb : pb < w.heap.size := (Array.getElem?_eq_some_iff.1 hP.blk).1
  have hsz : (w.setCell ⟨pb, 1, none⟩ (.int .i64 (ad + 1))).heap.size = w.heap.size := by simp [World.setCell]
  have HP := Lib.hid hP1
  have HZ := Lib.hid hsz
  clear hP1 hsz
  go_enter Try.func34, Try.ntmps34
  go_wp2_with fail
  refine (pof_any pb wd at_ _ hc0 hwd.1 hwd.2 (by omega) (by omega)).mono ?_
  rintro e w1 ⟨rfl, rfl⟩
  have hcok : cellOk (key, at_ / wd) := ⟨by unfold maxLen; show key.size ≤ _; omega, by show _ ≤ at_ / wd ∧ at_ / wd ≤ _; omega⟩
  have hH : 0 ≤ at_ ∧ at_ ≤ 1099511627776 ∧ 1 ≤ key.size ∧ key.size ≤ 24 := ⟨a3, a4, by omega, by omega⟩
  go_wp2_with fail
  by_cases hn0 : n = 0
  · subst hn0
    refine (pput_zero pb bs br wd _ S R key (at_ / wd) _ HP.out).mono ?_
    rintro e w2 ⟨rfl, R', hP2, rfl, hK2, hF2⟩
    go_wp2
    go_ret
    refine ⟨rfl, _, ⟨bs, br, S, R', ?_, hI.zero (a := ⟨key, at_, 0⟩) hH rfl a8.out, rfl⟩, hK1.trans hK2 (fun k _ hk => hk), fun k hk => .inl hk⟩
    rw [if_pos rfl, HL.out]
    exact hP2
  · have hvb := hI.valB (key, at_ / wd)
    by_cases hv0 : val S (key, at_ / wd) = 0
    · have hrl : (rowOf R key).ns.length ≤ 1048576 := by
        unfold rowOf
        cases hl : mget R key with
        | none => simp
        | some r => have h1 := hI.lenR _ (mget_some_mem hl); exact Nat.le_trans h1 HMX.out
      refine (pput_new pb bs br wd _ S R key (at_ / wd) n _ HP.out hcok (by omega) (by omega) hv0 hrl).mono ?_
      rintro e w2 ⟨rfl, R', hP2, ⟨A', c', rfl⟩, hK2, hF2⟩
      have hI2 := hI.put (a := ⟨key, at_, n⟩) hH ⟨by show 1 ≤ n; omega, a6⟩ a8.out (.inr ⟨hv0, A', c', rfl⟩)
      simp only [hv0, Int.zero_add, ← rowOf_eq] at hI2
      have HI := Lib.hid hI2
      have HV := Lib.hid hv0
      clear hI2 hv0 hn0
      go_wp2
      go_ret
      refine ⟨rfl, _, ⟨bs, br, _, _, ?_, HI.out, rfl⟩, hK1.trans hK2 (fun k _ hk => hk), fun k hk => by have := hF2 k hk; rw [HZ.out] at this; exact this⟩
      rw [if_pos rfl, HL.out]
      exact hP2
    · refine (pput_old pb bs br wd _ S R key (at_ / wd) n _ HP.out hcok (by omega) (by omega) (by omega) hvb.2).mono ?_
      rintro e w2 ⟨rfl, R', hP2, rfl, hK2, hF2⟩
      have hI2 := hI.put (a := ⟨key, at_, n⟩) hH ⟨by show 1 ≤ n; omega, a6⟩ a8.out (.inl ⟨by show 0 < val S (key, at_ / wd); omega, rfl⟩)
      have HI := Lib.hid hI2
      clear hI2 hv0 hn0
      go_wp2
      go_ret
      refine ⟨rfl, _, ⟨bs, br, _, _, ?_, HI.out, rfl⟩, hK1.trans hK2 (fun k _ hk => hk), fun k hk => .inl hk⟩
      rw [if_pos rfl, HL.out]
      exact hP2

set_option maxRecDepth 20000 in
set_option maxHeartbeats 1000000 in
theorem padd_any (pb : Nat) (F0 : Nat → Prop) (wd : Int) (hist : List AddD) (key : ByteArray) (at_ n : Int) (w : World) (h : PaneObj w pb F0 wd hist) :
    Calls Try.prog 34 #[.pointer (some ⟨pb, 0, none⟩), .string key, .int .i64 at_, .int .i64 n] w (AddLeaves w pb F0 wd hist ⟨key, at_, n⟩ (addB key at_ n hist.length)) := by
  have hc : ∃ bs br S R, PanesAt w pb bs br wd hist.length S R := by
    obtain ⟨bs, br, S, R, hP, _⟩ := h
    exact ⟨bs, br, S, R, hP⟩
  obtain ⟨bs, br, S, R, hP⟩ := hc
  have c1 := (cell_of_panes hP).2.1
  clear hP
  have hab : addB key at_ n hist.length = (decide (1 ≤ (key.size : Int)) && decide ((key.size : Int) ≤ 24) && decide (0 ≤ at_) && decide (at_ ≤ 1099511627776) && decide (0 ≤ n) && decide (n ≤ 1048576) && decide ((hist.length : Int) < 1048576)) := rfl
  by_cases hb : addB key at_ n hist.length = true
  · rw [hb]
    have hb' := hb
    simp only [addB, Bool.and_eq_true, decide_eq_true_eq] at hb'
    exact padd_yes pb F0 wd hist key at_ n w h (by omega) (by omega) (by omega) (by omega) (by omega) (by omega) (by omega)
  · have hb2 : addB key at_ n hist.length = false := by simpa using hb
    rw [hb2]
    have fin : ∀ e, e = Ending.returned (.bool false) → AddLeaves w pb F0 wd hist ⟨key, at_, n⟩ false e w := fun e he => ⟨he, F0, by rw [if_neg (by simp)]; exact h, Keeps.refl _ _, fun k hk => .inl hk⟩
    have FIN := Lib.hid fin
    clear fin
    clear hb2
    rw [hab] at hb
    clear hab
    generalize (hist.length : Int) = ad at hb c1
    by_cases a1 : 1 ≤ (key.size : Int)
    · by_cases a2 : (key.size : Int) ≤ 24
      · by_cases a3 : 0 ≤ at_
        · by_cases a4 : at_ ≤ 1099511627776
          · by_cases a5 : 0 ≤ n
            · by_cases a6 : n ≤ 1048576
              · by_cases a7 : ad < 1048576
                · exact absurd (by rw [decide_eq_true a1, decide_eq_true a2, decide_eq_true a3, decide_eq_true a4, decide_eq_true a5, decide_eq_true a6, decide_eq_true a7]; rfl) hb
                · clear hb
                  go_enter Try.func34, Try.ntmps34
                  go_wp2
                  go_ret
                  exact FIN.out _ rfl
              · clear hb
                go_enter Try.func34, Try.ntmps34
                go_wp2
                go_ret
                exact FIN.out _ rfl
            · clear hb
              go_enter Try.func34, Try.ntmps34
              go_wp2
              go_ret
              exact FIN.out _ rfl
          · clear hb
            go_enter Try.func34, Try.ntmps34
            go_wp2
            go_ret
            exact FIN.out _ rfl
        · clear hb
          go_enter Try.func34, Try.ntmps34
          go_wp2
          go_ret
          exact FIN.out _ rfl
      · clear hb
        go_enter Try.func34, Try.ntmps34
        go_wp2
        go_ret
        exact FIN.out _ rfl
    · clear hb
      go_enter Try.func34, Try.ntmps34
      go_wp2
      go_ret
      exact FIN.out _ rfl
end Go.Proofs.Ytmigjlceogofaaa
