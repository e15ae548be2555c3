/- Contract of the reference's Mix. -/
import Derived.Test.YtpbaokhlhhpiiaaDrawM
namespace Go.Proofs.Ytpbaokhlhhpiiaa
open Go.ChangeShapes Go.WideShapes Go.ChangeAt Go.RowKit
set_option linter.unusedVariables false
set_option linter.unusedSimpArgs false

theorem filter_take_snoc (p : ByteArray → Bool) (l : List ByteArray) (k : Nat) (h : k < l.length) : (l.take (k + 1)).filter p = (l.take k).filter p ++ (if p l[k] = true then [l[k]] else []) := by
  rw [List.take_succ_eq_append_getElem h, List.filter_append]
  congr 1
  by_cases hp : p l[k] = true
  · simp [hp]
  · simp [hp]

def MixR2 (w5 : World) (B0 : Nat) (every : Int) (R f d : List ByteArray) (rest : Nat) (pv av bv lv : Value) (wr : World) : Prop :=
  ∃ (k a b : Nat) (A3 : Option Addr) (c3 : Nat) (out : List ByteArray), pv = .int .i64 ((k : Int) + 1) ∧ av = .int .i64 (a : Int) ∧ bv = .int .i64 (b : Int) ∧ lv = .slice A3 out.length c3 ∧ wr.ownsRow B0 9 1 (.slice A3 out.length c3) out.length (out.map Value.string) ∧ Hid (R = out ++ mixFrom every rest k (f.drop a) (d.drop b)) ∧ Hid (k + rest = f.length) ∧ a + b = k ∧ b ≤ d.length ∧ out.length ≤ k ∧ Below B0 w5 wr

theorem mem_mixFrom {every : Int} : ∀ (k i : Nat) (f d : List ByteArray) {s : ByteArray}, s ∈ mixFrom every k i f d → s ∈ f ∨ s ∈ d := by
  intro k
  induction k with
  | zero => intro i f d s h; simp [mixFrom] at h
  | succ k ih =>
    intro i f d s h
    unfold mixFrom at h
    split at h
    · cases d with
      | cons x d' =>
        rcases List.mem_cons.1 h with rfl | h
        · exact .inr (by simp)
        · rcases ih _ _ _ h with h | h
          · exact .inl h
          · exact .inr (by simp [h])
      | nil =>
        cases f with
        | cons x f' =>
          rcases List.mem_cons.1 h with rfl | h
          · exact .inl (by simp)
          · rcases ih _ _ _ h with h | h
            · exact .inl (by simp [h])
            · exact .inr h
        | nil => simp at h
    · cases f with
      | cons x f' =>
        rcases List.mem_cons.1 h with rfl | h
        · exact .inl (by simp)
        · rcases ih _ _ _ h with h | h
          · exact .inl (by simp [h])
          · exact .inr h
      | nil => simp at h
theorem mem_mix {seed every : Int} {main other : List ByteArray} {s : ByteArray} (h : s ∈ mixV seed main other every) : s ∈ onceV main ∨ s ∈ freshV seed main other := mem_mixFrom _ _ _ _ h

set_option maxRecDepth 20000 in
set_option maxHeartbeats 4000000 in
theorem rmix_any (seed every : Int) (A1 A2 : Option Addr) (B c1 c2 : Nat) (main other : List ByteArray) (w : World) (h1 : StrsAt w B A1 main) (h2 : StrsAt w B A2 other) (hB : B ≤ w.heap.size) (hl1 : (main.length : Int) ≤ 1000000) (hl2 : (other.length : Int) ≤ 1000000) (hs8 : ∀ s ∈ other, (s.size : Int) ≤ 1000000) (he : every ≤ 9223372036854775807) :
    Calls Try.prog 19 #[.int .u64 seed, .slice A1 main.length c1, .slice A2 other.length c2, .int .i64 every] w (RetS w (mixV seed main other every)) := by
  obtain ⟨R, hR⟩ : ∃ R, mixV seed main other every = R := ⟨_, rfl⟩
  rw [hR]
  have HRR := Lib.hid hR
  clear hR
  have hlen := onceV_len main
  have hlenS : (sampleAll seed other).length ≤ other.length := by rw [sampleAll_len]; exact onceV_len other
  have HSF : Hid (∀ s ∈ onceV main, s.size ≤ maxLen) := Lib.hid (fun s hs => h1.2 s (mem_onceV.1 hs))
  have HSD : Hid (∀ s ∈ freshV seed main other, s.size ≤ maxLen) := Lib.hid (fun s hs => h2.2 s (fresh_mem hs))
  have HSA : Hid (sampleV seed (other.length : Int) other = sampleAll seed other) := Lib.hid (smpV_all seed _ other (Int.le_refl _))
  have HFR : Hid (freshV seed main other = (sampleAll seed other).filter (fun x => !memB x (onceV main))) := Lib.hid rfl
  have EM : Hid (R = [] ++ mixFrom every (onceV main).length 0 ((onceV main).drop 0) ((freshV seed main other).drop 0)) := Lib.hid (by rw [← HRR.out]; rfl)
  have HALLS : Hid (∀ s ∈ R, s.size ≤ maxLen) := Lib.hid (fun s hs => by
    rw [← HRR.out] at hs
    rcases mem_mix hs with h | h
    · exact HSF.out s h
    · exact HSD.out s h)
  have HS8 := Lib.hid hs8
  clear HRR hs8
  go_enter Try.func19, Try.ntmps19
  go_wp2_with fail
  refine (once_any A1 B c1 main w h1 hB hl1).mono ?_
  rintro e w1 ⟨P1, p1, rfl, ho1, hb1⟩
  have z1 := hb1.size
  have hrF1 : StrsAt w1 w1.heap.size P1 (onceV main) := StrsAt.of_own ho1 HSF.out
  have hb1a : Below w1.heap.size w1 (w1.alloc (.cells #[] 9)) := (Below.refl _ _).alloc (Nat.le_refl _) _
  have hbwa : Below w.heap.size w (w1.alloc (.cells #[] 9)) := hb1.trans (hb1a.mono z1)
  have h2a := (h2.below (hbwa.mono hB)).more (B' := (w1.alloc (.cells #[] 9)).heap.size) (by simp; omega)
  clear ho1
  go_wp2_with fail
  refine (rsample_any seed (other.length : Int) A2 _ c2 other _ h2a (Nat.le_refl _) hl2 (by omega) HS8.out).mono ?_
  rw [HSA.out]
  rintro e w2 ⟨P2, p2, rfl, r2, k2, fr2, hb2⟩
  simp only [World.size_alloc] at fr2
  have z2 := hb2.size
  simp at z2
  have hrF2 : StrsAt w2 w1.heap.size P1 (onceV main) := (hrF1.below hb1a).below (hb2.mono (by simp))
  have hE : w2.ownsRow w1.heap.size 9 1 (.slice (some ⟨w1.heap.size, 0, none⟩) 0 0) 0 [] := own_empty (Nat.le_refl _) ((hb2.block _ (by simp)).trans (heap_alloc_new w1 _))
  have hbw2 : Below w.heap.size w w2 := hbwa.trans (hb2.mono (by simp; omega))
  generalize hF : onceV main = f at *
  clear hF hb1 hb1a hbwa h2a hb2 hrF1
  generalize hSA : sampleAll seed other = all at *
  clear hSA
  go_wp2_with fail
  go_loopg [10, 12] all.length (fun rest v i wr => ∃ (k : Nat) (A3 : Option Addr) (c3 : Nat), i = .int .i64 k ∧ v = .slice A3 ((all.take k).filter (fun x => !memB x f)).length c3 ∧ Hid (k + rest = all.length) ∧ wr.ownsRow w1.heap.size 9 1 (.slice A3 ((all.take k).filter (fun x => !memB x f)).length c3) ((all.take k).filter (fun x => !memB x f)).length (((all.take k).filter (fun x => !memB x f)).map Value.string) ∧ Below w1.heap.size w2 wr ∧ StrsAt wr w2.heap.size P2 all ∧ (∀ j, (Value.slice A3 ((all.take k).filter (fun x => !memB x f)).length c3).ownBlock = some j → j = w1.heap.size ∨ w2.heap.size ≤ j))
  case atStart => exact ⟨0, some ⟨w1.heap.size, 0, none⟩, 0, rfl, rfl, Lib.hid (by simp), hE, Below.refl _ _, r2, fun j hj => .inl (by injection hj with hj; exact hj.symm)⟩
  case round =>
    obtain ⟨k, A3, c3, rfl, rfl, HK, hown, hbw, hra, hlc⟩ := hrel
    have zr := hbw.size
    have hfl : ((all.take k).filter (fun x => !memB x f)).length ≤ all.length := by
      have := List.length_filter_le (fun x => !memB x f) (all.take k)
      simp at this; omega
    by_cases hk : (k : Int) < (all.length : Int)
    · have hkl : k < all.length := by omega
      have hst := filter_take_snoc (fun x => !memB x f) all k hkl
      obtain ⟨b2, o2, rfl, hbl, hcell, _⟩ := hra.one hkl
      have hin := in26_any P1 w1.heap.size p1 f all[k] wr (hrF2.below hbw) (by omega)
      generalize (all.take k).filter (fun x => !memB x f) = out at *
      have hxs := hra.2 _ (List.getElem_mem hkl)
      generalize all[k] = x at *
      cases hm : memB x f with
      | true =>
        rw [hm] at hin hst
        have HST : Hid ((all.take (k + 1)).filter (fun x => !memB x f) = out) := Lib.hid (by rw [hst]; simp)
        have HIN := Lib.hid hin
        clear hin hst hm
        go_wp2_with fail
        refine HIN.out.mono ?_
        rintro e w3 ⟨rfl, rfl⟩
        go_wp2
        go_roundg (gk - 1)
        case measure => have := HK.out; omega
        case rel => exact ⟨k + 1, A3, c3, by go_num, by rw [HST.out], Lib.hid (by have := HK.out; omega), by rw [HST.out]; exact hown, hbw, hra, by rw [HST.out]; exact hlc⟩
      | false =>
        rw [hm] at hin hst
        have HST : Hid ((all.take (k + 1)).filter (fun x => !memB x f) = out ++ [x]) := Lib.hid (by rw [hst]; simp)
        have HIN := Lib.hid hin
        clear hin hst hm
        have HFR2 := Lib.hid fr2
        have HLC := Lib.hid hlc
        clear hlc
        go_wp2_with fail
        refine HIN.out.mono ?_
        rintro e w3 ⟨rfl, rfl⟩
        go_wp2_with (at_builtin; refine wpList_append_cellL wr rfl (.tmp 38) (.tmp 43) _ rfl w1.heap.size 9 (.string ByteArray.empty) 16 Try.underlying23 str_info rfl A3 out.length c3 _ rfl hown (.string x) rfl rfl (by omega) (by unfold maxLen; omega) (by omega) ?_; intro A4 c4 w4 hown4 hg4 hb4 hl4)
        have hz4 := hg4.size
        have hra4 : StrsAt w4 w2.heap.size (some ⟨b2, o2, none⟩) all := hra.keep (Keeps.ofGrown hg4) (by omega) (fun b o sp e hj => by
          have h1 := HFR2.out b o sp e
          rcases HLC.out b hj.symm with h2 | h2 <;> omega)
        go_roundg (gk - 1)
        case measure => have := HK.out; omega
        case rel =>
          refine ⟨k + 1, A4, c4, by go_num, by rw [HST.out]; simp, Lib.hid (by have := HK.out; omega), by rw [HST.out]; simpa using hown4, hbw.trans hb4, hra4, ?_⟩
          rw [HST.out]
          intro j hj
          have hj' : (Value.slice A4 (out.length + 1) c4).ownBlock = some j := by rw [← hj]; simp [Value.ownBlock]
          rcases hl4 with h | h
          · exact HLC.out j (by rw [← h]; exact hj')
          · rw [h] at hj'
            injection hj' with hj'
            omega
    · have hkl : k = all.length := by have := HK.out; omega
      have hfin : (all.take k).filter (fun x => !memB x f) = freshV seed main other := by rw [hkl, List.take_length]; exact HFR.out.symm
      clear hra hlc
      generalize (all.take k).filter (fun x => !memB x f) = d0 at *
      subst hfin
      clear hkl HFR
      have hcapD := (own_sp hown).2
      have hrD0 : StrsAt wr wr.heap.size A3 (freshV seed main other) := StrsAt.of_own hown HSD.out
      have hrF0 := hrF2.below hbw
      have hbwr : Below w.heap.size w wr := hbw2.trans (hbw.mono z1)
      generalize freshV seed main other = d at *
      obtain ⟨w5, rfl⟩ : ∃ w5 : World, w5 = wr := ⟨_, rfl⟩
      clear hown hE r2 hrF2 HSF HSD HSA fr2
      have HALLS2 := HALLS
      go_wp2_with fail
      obtain ⟨B0, hB0⟩ : ∃ B0, B0 = w5.heap.size := ⟨_, rfl⟩
      have hA6 : Below w5.heap.size w5 (w5.alloc (.cells #[] 9)) := (Below.refl _ _).alloc (Nat.le_refl _) _
      have hE6 : (w5.alloc (.cells #[] 9)).ownsRow B0 9 1 (.slice (some ⟨w5.heap.size, 0, none⟩) 0 0) 0 [] := own_empty (by omega) (heap_alloc_new w5 _)
      have hrF : StrsAt w5 B0 P1 f := hrF0.more (by omega)
      have hrD : StrsAt w5 B0 A3 d := by rw [hB0]; exact hrD0
      have hB0w : w.heap.size ≤ B0 := by omega
      have hb06 : Below B0 w5 (w5.alloc (.cells #[] 9)) := by rw [hB0]; exact hA6
      have HB0 := Lib.hid hB0
      clear hB0 hrF0 hrD0 hA6
      generalize A3 = D3 at *
      generalize c3 = d3 at *
      have hdl : (d.length : Int) ≤ 1000000 := by omega
      have hfN : (f.length : Int) ≤ 1000000 := by omega
      have START : MixR2 w5 B0 every R f d f.length (.int .i64 1) (.int .i64 0) (.int .i64 0) (.slice (some ⟨w5.heap.size, 0, none⟩) 0 0) (w5.alloc (.cells #[] 9)) :=
        ⟨0, 0, 0, some ⟨w5.heap.size, 0, none⟩, 0, [], rfl, rfl, rfl, rfl, hE6, EM, Lib.hid (by omega), rfl, Nat.zero_le _, Nat.le_refl _, hb06⟩
      go_loopg [16, 14, 15, 13] f.length (fun rest pv av bv lv wr => MixR2 w5 B0 every R f d rest pv av bv lv wr)
      case atStart => exact START
      case round =>
        obtain ⟨k, a, b, A3, c3, out, rfl, rfl, rfl, rfl, hown, HR, HK, hab, hbd0, hok, hbw⟩ := hrel
        clear START hE6
        have zr := hbw.size
        have hz5 : B0 ≤ w5.heap.size := by rw [HB0.out]; exact Nat.le_refl _
        have HAB := Lib.hid hab
        have hab1 : a ≤ k := by omega
        by_cases hk : (k : Int) + 1 ≤ (f.length : Int)
        · obtain ⟨r, rfl⟩ : ∃ r, gk = r + 1 := ⟨gk - 1, by have := HK.out; omega⟩
          clear hab
          by_cases hev : 1 ≤ every ∧ ((k : Int) + 1) % every = 0
          · have HEV := Lib.hid hev
            obtain ⟨e1, e2⟩ := hev
            have e2b : (((k : Int) + 1) % every == 0) = true := by simp [e2]
            clear e2
            by_cases hbd : b < d.length
            · have hab2 : a + b ≤ k := by rw [HAB.out]; exact Nat.le_refl _
              obtain ⟨b2, o2, rfl, hbl, hcell, _⟩ := (hrD.below hbw).one hbd
              have HR2 : Hid (R = (out ++ [d[b]]) ++ mixFrom every r (k + 1) (f.drop a) (d.drop (b + 1))) := Lib.hid (by rw [HR.out, List.drop_eq_getElem_cons hbd]; simp [mixFrom, HEV.out])
              generalize d[b] = x at *
              have hbI : (b : Int) < (d.length : Int) := by omega
              go_wp2_with (at_builtin; refine wpList_append_cell wr rfl (.tmp 66) (.tmp 71) _ rfl B0 9 (.string ByteArray.empty) 16 Try.underlying23 str_info rfl A3 out.length c3 _ rfl hown (.string x) rfl rfl (by omega) (by unfold maxLen; omega) (by omega) ?_; intro A4 c4 w4 hown4 hg4 hb4)
              go_roundg r
              case measure => omega
              case rel => exact ⟨k + 1, a, b + 1, A4, c4, out ++ [x], by go_num, rfl, by go_num, by simp, by simpa using hown4, HR2, Lib.hid (by have := HK.out; omega), by have := HAB.out; omega, by omega, by simp; omega, hbw.trans hb4⟩
            · have hab2 : a + b ≤ k := by rw [HAB.out]; exact Nat.le_refl _
              have hbdI : ¬ (b : Int) < (d.length : Int) := by omega
              have hde : d.drop b = [] := List.drop_of_length_le (by omega)
              have HDE := Lib.hid hde
              clear hde
              have haN : a < f.length := by omega
              obtain ⟨b2, o2, rfl, hbl, hcell, _⟩ := (hrF.below hbw).one haN
              have HR2 : Hid (R = (out ++ [f[a]]) ++ mixFrom every r (k + 1) (f.drop (a + 1)) (d.drop b)) := Lib.hid (by rw [HR.out, List.drop_eq_getElem_cons haN]; rw [HDE.out]; simp [mixFrom, HEV.out])
              generalize f[a] = x at *
              have haI : (a : Int) < (f.length : Int) := by omega
              go_wp2_with (at_builtin; refine wpList_append_cell wr rfl (.tmp 75) (.tmp 80) _ rfl B0 9 (.string ByteArray.empty) 16 Try.underlying23 str_info rfl A3 out.length c3 _ rfl hown (.string x) rfl rfl (by omega) (by unfold maxLen; omega) (by omega) ?_; intro A4 c4 w4 hown4 hg4 hb4)
              go_roundg r
              case measure => omega
              case rel => exact ⟨k + 1, a + 1, b, A4, c4, out ++ [x], by go_num, by go_num, rfl, by simp, by simpa using hown4, HR2, Lib.hid (by have := HK.out; omega), by have := HAB.out; omega, by omega, by simp; omega, hbw.trans hb4⟩
          · have HEV := Lib.hid hev
            have hab2 : a + b ≤ k := by rw [HAB.out]; exact Nat.le_refl _
            by_cases e1 : 1 ≤ every
            · have e2b : (((k : Int) + 1) % every == 0) = false := by
                rw [beq_eq_false_iff_ne]; exact fun e => hev ⟨e1, e⟩
              clear hev
              have haN : a < f.length := by omega
              obtain ⟨b2, o2, rfl, hbl, hcell, _⟩ := (hrF.below hbw).one haN
              have HR2 : Hid (R = (out ++ [f[a]]) ++ mixFrom every r (k + 1) (f.drop (a + 1)) (d.drop b)) := Lib.hid (by rw [HR.out, List.drop_eq_getElem_cons haN]; simp [mixFrom, HEV.out])
              generalize f[a] = x at *
              have haI : (a : Int) < (f.length : Int) := by omega
              go_wp2_with (at_builtin; refine wpList_append_cell wr rfl (.tmp 75) (.tmp 80) _ rfl B0 9 (.string ByteArray.empty) 16 Try.underlying23 str_info rfl A3 out.length c3 _ rfl hown (.string x) rfl rfl (by omega) (by unfold maxLen; omega) (by omega) ?_; intro A4 c4 w4 hown4 hg4 hb4)
              go_roundg r
              case measure => omega
              case rel => exact ⟨k + 1, a + 1, b, A4, c4, out ++ [x], by go_num, by go_num, rfl, by simp, by simpa using hown4, HR2, Lib.hid (by have := HK.out; omega), by have := HAB.out; omega, by omega, by simp; omega, hbw.trans hb4⟩
            · have e1b : decide (1 ≤ every) = false := by simpa using e1
              clear hev
              have haN : a < f.length := by omega
              obtain ⟨b2, o2, rfl, hbl, hcell, _⟩ := (hrF.below hbw).one haN
              have HR2 : Hid (R = (out ++ [f[a]]) ++ mixFrom every r (k + 1) (f.drop (a + 1)) (d.drop b)) := Lib.hid (by rw [HR.out, List.drop_eq_getElem_cons haN]; simp [mixFrom, HEV.out])
              generalize f[a] = x at *
              have haI : (a : Int) < (f.length : Int) := by omega
              go_wp2_with (at_builtin; refine wpList_append_cell wr rfl (.tmp 75) (.tmp 80) _ rfl B0 9 (.string ByteArray.empty) 16 Try.underlying23 str_info rfl A3 out.length c3 _ rfl hown (.string x) rfl rfl (by omega) (by unfold maxLen; omega) (by omega) ?_; intro A4 c4 w4 hown4 hg4 hb4)
              go_roundg r
              case measure => omega
              case rel => exact ⟨k + 1, a + 1, b, A4, c4, out ++ [x], by go_num, by go_num, rfl, by simp, by simpa using hown4, HR2, Lib.hid (by have := HK.out; omega), by have := HAB.out; omega, by omega, by simp; omega, hbw.trans hb4⟩
        · have hg : gk = 0 := by have := HK.out; omega
          subst hg
          have HR2 : Hid (R = out) := Lib.hid (by rw [HR.out]; simp [mixFrom])
          have fin : RetS w R (.returned (.slice A3 out.length c3)) wr := by
            refine ⟨A3, c3, by rw [HR2.out], ?_, by rw [HR2.out]; exact (own_sp hown).2, fun b o sp e => ?_, hbwr.trans (hbw.mono hB0w)⟩
            · have := StrsAt.of_own hown (fun s hs => HALLS.out s (by rw [HR2.out]; exact hs))
              rw [HR2.out]; exact this
            · have := hown.lt b (by rw [e]; rfl)
              omega
          have FIN := Lib.hid fin
          clear fin
          go_wp2
          refine bodyPost_ret (results_tmp rfl _ _ _) rfl ?_
          exact FIN.out
end Go.Proofs.Ytpbaokhlhhpiiaa
