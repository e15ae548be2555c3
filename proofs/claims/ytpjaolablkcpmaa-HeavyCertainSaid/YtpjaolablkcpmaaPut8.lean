/- Contract of a text's place in a rising row: 'cicerone/ciceroneref08.Put'. -/
import Derived.Test.YtpjaolablkcpmaaIn8
import Derived.Test.YtpjaolablkcpmaaKitP
import Derived.Test.YtpjaolablkcpmaaIns
namespace Go.Proofs.Ytpjaolablkcpmaa
open Go.ChangeShapes Go.WideShapes Go.ChangeAt Go.RowKit
set_option linter.unusedVariables false
set_option linter.unusedSimpArgs false

theorem strs_one8 (l : List ByteArray) : ∀ u ∈ l.map Value.string, u.oneCell' = true := by
  intro u hu
  obtain ⟨n, _, rfl⟩ := List.mem_map.1 hu
  rfl

def Stop8 (p : Prop) : Prop := p
theorem stop8 {p : Prop} (h : Stop8 p) : p := h

theorem str_info8 : (Try.prog.info? 9).map (fun i => (i.zero, i.size, i.bytes)) = some (some (.string ByteArray.empty), 1, 16) := by kernel_rfl

theorem own_sp8 {w : World} {base : Nat} {e : TypeId} {A : Option Addr} {n c : Nat} {xs : List Value} (h : w.ownsRow base e 1 (.slice A n c) n xs) : (∀ b o sp, A = some ⟨b, o, sp⟩ → sp = none) ∧ n ≤ c := by
  rcases h.2 with ⟨h0, h1⟩ | ⟨g, cap, cur, hv, _, _, hle, _⟩
  · injection h0 with e1 e2 e3
    subst e1
    exact ⟨fun b o sp e => (by cases e), by omega⟩
  · injection hv with e1 e2 e3
    subst e1 e3
    exact ⟨fun b o sp e => by injection e with e; injection e with e1 e2 e3; exact e3.symm, hle⟩


def putV (l : List ByteArray) (x : ByteArray) : List ByteArray := if memB x l then l else insV (fun y => sLt y x) x l

theorem mem_putV {l : List ByteArray} {x y : ByteArray} : y ∈ putV l x ↔ y ∈ l ∨ y = x := by
  unfold putV
  split
  · rename_i h
    exact ⟨.inl, fun h' => h'.elim id (fun e => e ▸ memB_iff.1 h)⟩
  · rw [(insV_perm _ _ _).mem_iff, List.mem_cons, or_comm]

theorem nodup_putV {l : List ByteArray} {x : ByteArray} (h : l.Nodup) : (putV l x).Nodup := by
  unfold putV
  split
  · exact h
  · rename_i h'
    rw [(insV_perm _ _ _).nodup_iff, List.nodup_cons]
    exact ⟨fun hm => h' (memB_iff.2 hm), h⟩

theorem putV_len (l : List ByteArray) (x : ByteArray) : (putV l x).length ≤ l.length + 1 := by
  unfold putV
  split
  · omega
  · rw [(insV_perm _ _ _).length_eq]; simp

/-- A row of texts that begins its block, or none. -/
def BaseS (A : Option Addr) (c : Nat) : Prop := (A = none ∧ c = 0) ∨ ∃ g, A = some ⟨g, 0, none⟩

/-- A row of texts is handed back (it may be the one given). -/
def RetP (w : World) (A : Option Addr) (v : List ByteArray) (e : Ending) (w' : World) : Prop := ∃ A' c', e = .returned (.slice A' v.length c') ∧ StrsAt w' w'.heap.size A' v ∧ v.length ≤ c' ∧ BaseS A' c' ∧ (A' = A ∨ ∀ b o sp, A' = some ⟨b, o, sp⟩ → w.heap.size ≤ b) ∧ Below w.heap.size w w'

set_option maxRecDepth 20000 in
set_option maxHeartbeats 4000000 in
theorem put8_any (A : Option Addr) (B c : Nat) (l : List ByteArray) (x : ByteArray) (w : World) (h : StrsAt w B A l) (hB : B ≤ w.heap.size) (hl : (l.length : Int) ≤ 1000000) (hx : x.size ≤ maxLen) (hc : l.length ≤ c) (hA : BaseS A c) :
    Calls Try.prog 10 #[.slice A l.length c, .string x] w (RetP w A (putV l x)) := by
  cases hm : memB x l with
  | true =>
    have HV : Hid (putV l x = l) := Lib.hid (by unfold putV; rw [hm]; rfl)
    have HIN := Lib.hid (in8_any A B c l x w h (by omega))
    have HM := Lib.hid hm
    clear hm
    go_enter Try.func10, Try.ntmps10
    go_wp2_with fail
    refine HIN.out.mono ?_
    rintro e w1 ⟨rfl, rfl⟩
    rw [HM.out]
    go_wp2
    refine bodyPost_ret (results_tmp rfl _ _ _) rfl ?_
    refine ⟨A, c, ?_, ?_, ?_, hA, .inl rfl, Below.refl _ _⟩
    · rw [HV.out]; rfl
    · rw [HV.out]; exact h.more hB
    · rw [HV.out]; exact hc
  | false =>
    have HV : Hid (putV l x = insV (fun y => sLt y x) x l) := Lib.hid (by unfold putV; rw [hm]; rfl)
    have HIN := Lib.hid (in8_any A B c l x w h (by omega))
    have HM := Lib.hid hm
    clear hm
    have HS : Hid (∀ s ∈ putV l x, s.size ≤ maxLen) := Lib.hid (fun s hs => (mem_putV.1 hs).elim (h.2 s) (fun e => e ▸ hx))
    rcases hA with ⟨rfl, rfl⟩ | ⟨g, rfl⟩
    · go_enter Try.func10, Try.ntmps10
      go_wp2_with fail
      refine HIN.out.mono ?_
      rintro e w1 ⟨rfl, rfl⟩
      rw [HM.out]
      go_wp2_with fail
      go_loopg [5] l.length (fun rest i wr => ∃ m : Nat, i = .int .i64 m ∧ Hid (m + rest = l.length) ∧ Hid (∀ j (hj : j < l.length), j < m → sLt l[j] x = true) ∧ w = wr)
      case atStart => exact ⟨0, rfl, Lib.hid (by simp), Lib.hid (by intro j _ h; omega), rfl⟩
      case round =>
        obtain ⟨m, rfl, HK, HG, rfl⟩ := hrel
        have hml : m ≤ l.length := by have := HK.out; omega
        by_cases hk : (m : Int) < (l.length : Int)
        · have hkl : m < l.length := by omega
          exact absurd hkl (by omega)
        · have HAT : Hid (insAt (fun y => sLt y x) l = m) := Lib.hid (insAt_eq _ _ m hml HG.out (fun h => by omega))
          have hm0 : m = 0 := by omega
          subst hm0
          have hl0 : l.length = 0 := by omega
          have hz : ((0 : Nat) : Int) = 0 := rfl
          have hz0 : w.heap.size ≤ w.heap.size := Nat.le_refl _
          have hrA : Reads w w.heap.size 1 none l.length (l.map Value.string) := (h.more hB).1
          have hrO : Reads w w.heap.size 1 none 0 ((l.take 0).map Value.string) := by
            have := hrA.take hml
            rw [Nat.mul_one, ← List.map_take] at this
            exact this
          have hb0 : Below w.heap.size w (w.alloc (.cells #[] 9)) := (Below.refl _ _).alloc (Nat.le_refl _) _
          have hmI : ((0 : Nat) : Int) ≤ (l.length : Int) := by omega
          go_wp2_with (at_builtin; refine stop8 ?_)
          unfold Stop8
          refine wpList_append_to _ (by rfl) (.tmp 25) (.tmp 28) _ rfl w.heap.size 9 (.string ByteArray.empty) 1 16 Try.underlying25 str_info8 rfl (by omega) (some ⟨_, 0, none⟩) 0 0 [] rfl (own_empty (Nat.le_refl _) (heapM1 _ _)) none w.heap.size 0 _ ((l.take 0).map Value.string) rfl (hrO.below hb0) (fun h => by first | rfl | cases h) (strs_one8 _) 0 (by omega) (by unfold maxLen; omega) (by omega) (by simp) ?_
          intro A4 c4 w4 hown4 hg4 hb4
          simp only [List.nil_append] at hown4
          have hB4 : Below w.heap.size w w4 := hb0.trans hb4
          have hz4 := hB4.size
          go_wp2_with (at_builtin; refine stop8 ?_)
          unfold Stop8
          refine wpList_append_to _ (by rfl) (.tmp 29) (.tmp 31) _ rfl w.heap.size 9 (.string ByteArray.empty) 1 16 Try.underlying25 str_info8 rfl (by omega) A4 0 c4 ((l.take 0).map Value.string) rfl (hown4.alloc _) (some ⟨_, 0, none⟩) _ 1 1 [.string x] rfl (reads_blk (t := 9) (fr := (0, 0)) (heapM1 _ _) rfl) (fun h => by cases h) (by intro u hu; simp at hu; subst hu; rfl) (0 + 1) rfl (by unfold maxLen; omega) (by omega) (by first | (simp; done) | (simp; omega)) ?_
          intro A5 c5 w5 hown5 hg5 hb5
          have hB5 : Below w.heap.size w w5 := (hB4.alloc hz4 _).trans hb5
          have hz5 := hB5.size
          have hrD := hrA.below hB5
          have HINS : Hid (putV l x = l.take 0 ++ [x] ++ l.drop 0) := Lib.hid (by rw [HV.out]; unfold insV; rw [HAT.out])
          have HLN : Hid ((putV l x).length = l.length + 1) := Lib.hid (by rw [HINS.out]; first | (simp; done) | (simp; omega))
          have hR1 : Reads w5 w.heap.size 1 none 0 ((l.drop 0).map Value.string) := ⟨by simpa using hl0, fun hp => by omega⟩
          have hR2 : Reads w5 w.heap.size 1 none (l.length - 0) ((l.drop 0).map Value.string) := ⟨by simp, fun hp => by omega⟩
          go_wp2_with (at_builtin; refine stop8 ?_)
          unfold Stop8
          refine wpList_append_to w5 (by rfl) (.tmp 33) (.tmp 36) _ rfl w.heap.size 9 (.string ByteArray.empty) 1 16 Try.underlying25 str_info8 rfl (by omega) A5 (0 + 1) c5 _ rfl hown5 _ w.heap.size _ _ ((l.drop 0).map Value.string) rfl (by first | exact hR1 | exact hR2) (fun h => by first | rfl | cases h) (strs_one8 _) (l.length + 1) (by omega) (by unfold maxLen; omega) (by omega) (by omega) ?_
          intro A7 c7 w7 hown7 hg7 hb7
          obtain ⟨g7, cap7, hv7, hgb7, _⟩ := hown7.form (by omega)
          injection hv7 with hv7 hn7 hc7
          subst hv7
          subst hc7
          have hcap7 := (own_sp8 hown7).2
          go_wp2
          refine bodyPost_ret (results_tmp rfl _ _ _) rfl ?_
          have hB7 : Below w.heap.size w w7 := hB5.trans (hb7.mono (by omega))
          refine ⟨some ⟨g7, 0, none⟩, c7, ?_, ?_, ?_, .inr ⟨g7, rfl⟩, .inr (fun b o sp e => by injection e with e; injection e with e1; subst e1; exact hgb7), hB7⟩
          · rw [HLN.out, hl0]; rfl
          · refine StrsAt.of_own (base := w.heap.size) (e := 9) (c := c7) ?_ HS.out
            rw [HLN.out, HINS.out, List.map_append, List.map_append]
            exact own_base hown7 (by omega)
          · rw [HLN.out]; exact hcap7
    · go_enter Try.func10, Try.ntmps10
      go_wp2_with fail
      refine HIN.out.mono ?_
      rintro e w1 ⟨rfl, rfl⟩
      rw [HM.out]
      go_wp2_with fail
      go_loopg [5] l.length (fun rest i wr => ∃ m : Nat, i = .int .i64 m ∧ Hid (m + rest = l.length) ∧ Hid (∀ j (hj : j < l.length), j < m → sLt l[j] x = true) ∧ w = wr)
      case atStart => exact ⟨0, rfl, Lib.hid (by simp), Lib.hid (by intro j _ h; omega), rfl⟩
      case round =>
        obtain ⟨m, rfl, HK, HG, rfl⟩ := hrel
        have hml : m ≤ l.length := by have := HK.out; omega
        by_cases hk : (m : Int) < (l.length : Int)
        · have hkl : m < l.length := by omega
          obtain ⟨b3, o3, e3, hb3, hcell3, _⟩ := h.one hkl
          injection e3 with e3
          injection e3 with e31 e32
          subst e31 e32
          rw [Nat.zero_add] at hcell3
          cases hs : sLt l[m] x with
          | true =>
            have HG2 := Lib.hid hs
            have hs2 : Op.bytesLess l[m].toList x.toList = true := hs
            clear hs
            generalize hy : l[m] = y at *
            have HY := Lib.hid hy
            clear hy
            go_wp2
            go_roundg (gk - 1)
            case measure => have := HK.out; omega
            case rel => exact ⟨m + 1, by go_num, Lib.hid (by have := HK.out; omega), Lib.hid (fun j hj hjm => by
                by_cases e : j = m
                · subst e; rw [HY.out]; exact HG2.out
                · exact HG.out j hj (by omega)), rfl⟩
          | false =>
            have HAT : Hid (insAt (fun y => sLt y x) l = m) := Lib.hid (insAt_eq _ _ m hml HG.out (fun _ => hs))
            have hs2 : Op.bytesLess l[m].toList x.toList = false := hs
            clear hs
            generalize hy : l[m] = y at *
            clear hy
            have hz0 : w.heap.size ≤ w.heap.size := Nat.le_refl _
            have hmc : (m : Int) ≤ (c : Int) := by omega
            have hrA : Reads w w.heap.size 1 (some ⟨g, 0, none⟩) l.length (l.map Value.string) := (h.more hB).1
            have hrO : Reads w w.heap.size 1 (some ⟨g, 0, none⟩) m ((l.take m).map Value.string) := by
              have := hrA.take hml
              rw [Nat.mul_one, ← List.map_take] at this
              exact this
            have hb0 : Below w.heap.size w (w.alloc (.cells #[] 9)) := (Below.refl _ _).alloc (Nat.le_refl _) _
            have hmI : (m : Int) ≤ (l.length : Int) := by omega
            go_wp2_with (at_builtin; refine stop8 ?_)
            unfold Stop8
            refine wpList_append_to _ (by rfl) (.tmp 25) (.tmp 28) _ rfl w.heap.size 9 (.string ByteArray.empty) 1 16 Try.underlying25 str_info8 rfl (by omega) (some ⟨_, 0, none⟩) 0 0 [] rfl (own_empty (Nat.le_refl _) (heapM1 _ _)) (some ⟨g, 0, none⟩) w.heap.size m _ ((l.take m).map Value.string) rfl (hrO.below hb0) (fun h => by first | rfl | cases h) (strs_one8 _) m (by omega) (by unfold maxLen; omega) (by omega) (by simp) ?_
            intro A4 c4 w4 hown4 hg4 hb4
            simp only [List.nil_append] at hown4
            have hB4 : Below w.heap.size w w4 := hb0.trans hb4
            have hz4 := hB4.size
            go_wp2_with (at_builtin; refine stop8 ?_)
            unfold Stop8
            refine wpList_append_to _ (by rfl) (.tmp 29) (.tmp 31) _ rfl w.heap.size 9 (.string ByteArray.empty) 1 16 Try.underlying25 str_info8 rfl (by omega) A4 m c4 ((l.take m).map Value.string) rfl (hown4.alloc _) (some ⟨_, 0, none⟩) _ 1 1 [.string x] rfl (reads_blk (t := 9) (fr := (0, 0)) (heapM1 _ _) rfl) (fun h => by cases h) (by intro u hu; simp at hu; subst hu; rfl) (m + 1) rfl (by unfold maxLen; omega) (by omega) (by first | (simp; done) | (simp; omega)) ?_
            intro A5 c5 w5 hown5 hg5 hb5
            have hB5 : Below w.heap.size w w5 := (hB4.alloc hz4 _).trans hb5
            have hz5 := hB5.size
            have hrD := hrA.below hB5
            have HINS : Hid (putV l x = l.take m ++ [x] ++ l.drop m) := Lib.hid (by rw [HV.out]; unfold insV; rw [HAT.out])
            have HLN : Hid ((putV l x).length = l.length + 1) := Lib.hid (by rw [HINS.out]; first | (simp; done) | (simp; omega))
            by_cases hq : c = m
            · have hR1 : Reads w5 w.heap.size 1 (some ⟨g, 0, none⟩) (l.length - m) ((l.drop m).map Value.string) := ⟨by simp, fun hp => by omega⟩
              have hR2 : Reads w5 w.heap.size 1 (some ⟨g, 0, none⟩) 0 ((l.drop m).map Value.string) := ⟨by simp; omega, fun hp => by omega⟩
              go_wp2_with (at_builtin; refine stop8 ?_)
              unfold Stop8
              refine wpList_append_to w5 (by rfl) (.tmp 33) (.tmp 36) _ rfl w.heap.size 9 (.string ByteArray.empty) 1 16 Try.underlying25 str_info8 rfl (by omega) A5 (m + 1) c5 _ rfl hown5 _ w.heap.size _ _ ((l.drop m).map Value.string) rfl (by first | exact hR1 | exact hR2) (fun h => by first | rfl | cases h) (strs_one8 _) (l.length + 1) (by omega) (by unfold maxLen; omega) (by omega) (by omega) ?_
              intro A7 c7 w7 hown7 hg7 hb7
              obtain ⟨g7, cap7, hv7, hgb7, _⟩ := hown7.form (by omega)
              injection hv7 with hv7 hn7 hc7
              subst hv7
              subst hc7
              have hcap7 := (own_sp8 hown7).2
              go_wp2
              refine bodyPost_ret (results_tmp rfl _ _ _) rfl ?_
              have hB7 : Below w.heap.size w w7 := hB5.trans (hb7.mono (by omega))
              refine ⟨some ⟨g7, 0, none⟩, c7, ?_, ?_, ?_, .inr ⟨g7, rfl⟩, .inr (fun b o sp e => by injection e with e; injection e with e1; subst e1; exact hgb7), hB7⟩
              · rw [HLN.out]; rfl
              · refine StrsAt.of_own (base := w.heap.size) (e := 9) (c := c7) ?_ HS.out
                rw [HLN.out, HINS.out, List.map_append, List.map_append]
                exact own_base hown7 (by omega)
              · rw [HLN.out]; exact hcap7
            · have hR1 : Reads w5 w.heap.size 1 (some ⟨g, m, none⟩) (l.length - m) ((l.drop m).map Value.string) := by
                have := hrD.drop (m := m) (c := c) (by omega) (by omega) rfl
                rw [if_neg hq, Nat.mul_one, Nat.zero_add, ← List.map_drop] at this
                exact this
              have hR2 := hR1
              go_wp2_with (at_builtin; refine stop8 ?_)
              unfold Stop8
              refine wpList_append_to w5 (by rfl) (.tmp 33) (.tmp 36) _ rfl w.heap.size 9 (.string ByteArray.empty) 1 16 Try.underlying25 str_info8 rfl (by omega) A5 (m + 1) c5 _ rfl hown5 _ w.heap.size _ _ ((l.drop m).map Value.string) rfl (by first | exact hR1 | exact hR2) (fun h => by first | rfl | cases h) (strs_one8 _) (l.length + 1) (by omega) (by unfold maxLen; omega) (by omega) (by omega) ?_
              intro A7 c7 w7 hown7 hg7 hb7
              obtain ⟨g7, cap7, hv7, hgb7, _⟩ := hown7.form (by omega)
              injection hv7 with hv7 hn7 hc7
              subst hv7
              subst hc7
              have hcap7 := (own_sp8 hown7).2
              go_wp2
              refine bodyPost_ret (results_tmp rfl _ _ _) rfl ?_
              have hB7 : Below w.heap.size w w7 := hB5.trans (hb7.mono (by omega))
              refine ⟨some ⟨g7, 0, none⟩, c7, ?_, ?_, ?_, .inr ⟨g7, rfl⟩, .inr (fun b o sp e => by injection e with e; injection e with e1; subst e1; exact hgb7), hB7⟩
              · rw [HLN.out]; rfl
              · refine StrsAt.of_own (base := w.heap.size) (e := 9) (c := c7) ?_ HS.out
                rw [HLN.out, HINS.out, List.map_append, List.map_append]
                exact own_base hown7 (by omega)
              · rw [HLN.out]; exact hcap7
        · have HAT : Hid (insAt (fun y => sLt y x) l = m) := Lib.hid (insAt_eq _ _ m hml HG.out (fun h => by omega))
          have hz0 : w.heap.size ≤ w.heap.size := Nat.le_refl _
          have hmc : (m : Int) ≤ (c : Int) := by omega
          have hrA : Reads w w.heap.size 1 (some ⟨g, 0, none⟩) l.length (l.map Value.string) := (h.more hB).1
          have hrO : Reads w w.heap.size 1 (some ⟨g, 0, none⟩) m ((l.take m).map Value.string) := by
            have := hrA.take hml
            rw [Nat.mul_one, ← List.map_take] at this
            exact this
          have hb0 : Below w.heap.size w (w.alloc (.cells #[] 9)) := (Below.refl _ _).alloc (Nat.le_refl _) _
          have hmI : (m : Int) ≤ (l.length : Int) := by omega
          go_wp2_with (at_builtin; refine stop8 ?_)
          unfold Stop8
          refine wpList_append_to _ (by rfl) (.tmp 25) (.tmp 28) _ rfl w.heap.size 9 (.string ByteArray.empty) 1 16 Try.underlying25 str_info8 rfl (by omega) (some ⟨_, 0, none⟩) 0 0 [] rfl (own_empty (Nat.le_refl _) (heapM1 _ _)) (some ⟨g, 0, none⟩) w.heap.size m _ ((l.take m).map Value.string) rfl (hrO.below hb0) (fun h => by first | rfl | cases h) (strs_one8 _) m (by omega) (by unfold maxLen; omega) (by omega) (by simp) ?_
          intro A4 c4 w4 hown4 hg4 hb4
          simp only [List.nil_append] at hown4
          have hB4 : Below w.heap.size w w4 := hb0.trans hb4
          have hz4 := hB4.size
          go_wp2_with (at_builtin; refine stop8 ?_)
          unfold Stop8
          refine wpList_append_to _ (by rfl) (.tmp 29) (.tmp 31) _ rfl w.heap.size 9 (.string ByteArray.empty) 1 16 Try.underlying25 str_info8 rfl (by omega) A4 m c4 ((l.take m).map Value.string) rfl (hown4.alloc _) (some ⟨_, 0, none⟩) _ 1 1 [.string x] rfl (reads_blk (t := 9) (fr := (0, 0)) (heapM1 _ _) rfl) (fun h => by cases h) (by intro u hu; simp at hu; subst hu; rfl) (m + 1) rfl (by unfold maxLen; omega) (by omega) (by first | (simp; done) | (simp; omega)) ?_
          intro A5 c5 w5 hown5 hg5 hb5
          have hB5 : Below w.heap.size w w5 := (hB4.alloc hz4 _).trans hb5
          have hz5 := hB5.size
          have hrD := hrA.below hB5
          have HINS : Hid (putV l x = l.take m ++ [x] ++ l.drop m) := Lib.hid (by rw [HV.out]; unfold insV; rw [HAT.out])
          have HLN : Hid ((putV l x).length = l.length + 1) := Lib.hid (by rw [HINS.out]; first | (simp; done) | (simp; omega))
          by_cases hq : c = m
          · have hR1 : Reads w5 w.heap.size 1 (some ⟨g, 0, none⟩) (l.length - m) ((l.drop m).map Value.string) := ⟨by simp, fun hp => by omega⟩
            have hR2 : Reads w5 w.heap.size 1 (some ⟨g, 0, none⟩) 0 ((l.drop m).map Value.string) := ⟨by simp; omega, fun hp => by omega⟩
            go_wp2_with (at_builtin; refine stop8 ?_)
            unfold Stop8
            refine wpList_append_to w5 (by rfl) (.tmp 33) (.tmp 36) _ rfl w.heap.size 9 (.string ByteArray.empty) 1 16 Try.underlying25 str_info8 rfl (by omega) A5 (m + 1) c5 _ rfl hown5 _ w.heap.size _ _ ((l.drop m).map Value.string) rfl (by first | exact hR1 | exact hR2) (fun h => by first | rfl | cases h) (strs_one8 _) (l.length + 1) (by omega) (by unfold maxLen; omega) (by omega) (by omega) ?_
            intro A7 c7 w7 hown7 hg7 hb7
            obtain ⟨g7, cap7, hv7, hgb7, _⟩ := hown7.form (by omega)
            injection hv7 with hv7 hn7 hc7
            subst hv7
            subst hc7
            have hcap7 := (own_sp8 hown7).2
            go_wp2
            refine bodyPost_ret (results_tmp rfl _ _ _) rfl ?_
            have hB7 : Below w.heap.size w w7 := hB5.trans (hb7.mono (by omega))
            refine ⟨some ⟨g7, 0, none⟩, c7, ?_, ?_, ?_, .inr ⟨g7, rfl⟩, .inr (fun b o sp e => by injection e with e; injection e with e1; subst e1; exact hgb7), hB7⟩
            · rw [HLN.out]; rfl
            · refine StrsAt.of_own (base := w.heap.size) (e := 9) (c := c7) ?_ HS.out
              rw [HLN.out, HINS.out, List.map_append, List.map_append]
              exact own_base hown7 (by omega)
            · rw [HLN.out]; exact hcap7
          · have hR1 : Reads w5 w.heap.size 1 (some ⟨g, m, none⟩) (l.length - m) ((l.drop m).map Value.string) := by
              have := hrD.drop (m := m) (c := c) (by omega) (by omega) rfl
              rw [if_neg hq, Nat.mul_one, Nat.zero_add, ← List.map_drop] at this
              exact this
            have hR2 := hR1
            go_wp2_with (at_builtin; refine stop8 ?_)
            unfold Stop8
            refine wpList_append_to w5 (by rfl) (.tmp 33) (.tmp 36) _ rfl w.heap.size 9 (.string ByteArray.empty) 1 16 Try.underlying25 str_info8 rfl (by omega) A5 (m + 1) c5 _ rfl hown5 _ w.heap.size _ _ ((l.drop m).map Value.string) rfl (by first | exact hR1 | exact hR2) (fun h => by first | rfl | cases h) (strs_one8 _) (l.length + 1) (by omega) (by unfold maxLen; omega) (by omega) (by omega) ?_
            intro A7 c7 w7 hown7 hg7 hb7
            obtain ⟨g7, cap7, hv7, hgb7, _⟩ := hown7.form (by omega)
            injection hv7 with hv7 hn7 hc7
            subst hv7
            subst hc7
            have hcap7 := (own_sp8 hown7).2
            go_wp2
            refine bodyPost_ret (results_tmp rfl _ _ _) rfl ?_
            have hB7 : Below w.heap.size w w7 := hB5.trans (hb7.mono (by omega))
            refine ⟨some ⟨g7, 0, none⟩, c7, ?_, ?_, ?_, .inr ⟨g7, rfl⟩, .inr (fun b o sp e => by injection e with e; injection e with e1; subst e1; exact hgb7), hB7⟩
            · rw [HLN.out]; rfl
            · refine StrsAt.of_own (base := w.heap.size) (e := 9) (c := c7) ?_ HS.out
              rw [HLN.out, HINS.out, List.map_append, List.map_append]
              exact own_base hown7 (by omega)
            · rw [HLN.out]; exact hcap7
end Go.Proofs.Ytpjaolablkcpmaa
