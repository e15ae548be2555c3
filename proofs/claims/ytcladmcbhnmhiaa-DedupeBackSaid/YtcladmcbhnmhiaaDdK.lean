/- The reference's Name and rising. -/
import Derived.Test.YtcladmcbhnmhiaaDdJ
import Derived.Deep.DeepCutAuto
namespace Go.Proofs.Ytcladmcbhnmhiaa
open Go.ChangeShapes Go.WideShapes Go.ChangeAt Go.RowKit Go.Shelf Go.Lib Go.Sort Go.Proofs
set_option linter.unusedVariables false
set_option linter.unusedSimpArgs false

theorem nameB_iff (s : ByteArray) : nameB s = true ↔ 1 ≤ (s.size : Int) ∧ (s.size : Int) ≤ 24 ∧ ∀ k (hk : k < s.size), nmC ((s[k]).toNat : Int) := by
  constructor
  · intro h
    by_cases h1 : 1 ≤ (s.size : Int)
    · by_cases h2 : (s.size : Int) ≤ 24
      · refine ⟨h1, h2, fun k hk => ?_⟩
        rcases Classical.em (nmC ((s[k]).toNat : Int)) with q | q
        · exact q
        · rw [nameB_false hk q] at h; cases h
      · unfold nameB at h
        simp [h2] at h
    · unfold nameB at h
      have : decide (1 ≤ (s.size : Int)) = false := by simp; omega
      rw [this] at h
      simp at h
  · rintro ⟨h1, h2, h3⟩
    exact nameB_true h1 h2 h3

set_option maxRecDepth 20000 in
set_option maxHeartbeats 4000000 in
theorem rname07_any (s : ByteArray) (w : World) (hs : s.size ≤ maxLen) : Calls Try.prog 18 #[.string s] w fun e w' => e = .returned (.bool (nameB s)) ∧ w = w' := by
  have hs2 : (s.size : Int) ≤ 9223372036854775807 := by unfold maxLen at hs; omega
  obtain ⟨r, hr⟩ : ∃ r, r = nameB s := ⟨_, rfl⟩
  rw [← hr]
  have HR := Lib.hid hr
  clear hr hs
  go_enter Try.func18, Try.ntmps18
  go_wp2_with fail
  go_loopg [3] s.size (fun rest i wr => ∃ k : Nat, i = .int .i64 k ∧ Hid (k + rest = s.size) ∧ Hid (∀ j (hj : j < s.size), j < k → nmC ((s[j]).toNat : Int)) ∧ w = wr)
  case atStart => exact ⟨0, rfl, Lib.hid (by simp), Lib.hid (by intro j _ h; omega), rfl⟩
  case round =>
    obtain ⟨k, rfl, HK, HA, rfl⟩ := hrel
    by_cases hk : (k : Int) < (s.size : Int)
    · have hkl : k < s.size := by omega
      by_cases hc : nmC ((s[k]).toNat : Int)
      · have HA' : Hid (∀ j (hj : j < s.size), j < k + 1 → nmC ((s[j]).toNat : Int)) := Lib.hid (fun j hj hjk => by
          by_cases e : j = k
          · subst e; exact hc
          · exact HA.out j hj (by omega))
        unfold nmC at hc
        rcases hc with ⟨c1, c2⟩ | ⟨c1, c2⟩ | c1
        · have d1 : ¬ ((s[k]).toNat : Int) < 97 := by omega
          have d2 : ¬ 122 < ((s[k]).toNat : Int) := by omega
          go_wp2
          go_roundg (gk - 1)
          case measure => have := HK.out; omega
          case rel => exact ⟨k + 1, by go_num, Lib.hid (by have := HK.out; omega), HA', rfl⟩
        · have d1 : ((s[k]).toNat : Int) < 97 := by omega
          have d2 : ¬ ((s[k]).toNat : Int) < 48 := by omega
          have d3 : ¬ 57 < ((s[k]).toNat : Int) := by omega
          go_wp2
          go_roundg (gk - 1)
          case measure => have := HK.out; omega
          case rel => exact ⟨k + 1, by go_num, Lib.hid (by have := HK.out; omega), HA', rfl⟩
        · have d1 : ((s[k]).toNat : Int) < 97 := by omega
          have d2 : ((s[k]).toNat : Int) < 48 := by omega
          have d3 : (((s[k]).toNat : Int) == 45) = true := by simpa using c1
          go_wp2
          go_roundg (gk - 1)
          case measure => have := HK.out; omega
          case rel => exact ⟨k + 1, by go_num, Lib.hid (by have := HK.out; omega), HA', rfl⟩
      · have HF : Hid (r = false) := Lib.hid (HR.out.trans (nameB_false hkl hc))
        unfold nmC at hc
        have n3 : ¬ ((s[k]).toNat : Int) = 45 := fun h => hc (.inr (.inr h))
        have n5 : (((s[k]).toNat : Int) == 45) = false := by simpa using n3
        have n1 : ((s[k]).toNat : Int) < 97 ∨ 122 < ((s[k]).toNat : Int) := by omega
        have n2 : ((s[k]).toNat : Int) < 48 ∨ 57 < ((s[k]).toNat : Int) := by omega
        clear hc
        have n4 : ¬ (s[k]).toNat = 45 := fun h => n3 (by rw [h]; rfl)
        rcases n1 with c1 | c1
        · rcases n2 with c3 | c3
          · go_wp2
            go_ret
            exact ⟨ret_bool HF.out.symm, rfl⟩
          · have c4 : ¬ ((s[k]).toNat : Int) < 48 := by omega
            go_wp2
            go_ret
            exact ⟨ret_bool HF.out.symm, rfl⟩
        · have c2 : ¬ ((s[k]).toNat : Int) < 97 := by omega
          have c3 : 57 < ((s[k]).toNat : Int) := by omega
          have c4 : ¬ ((s[k]).toNat : Int) < 48 := by omega
          go_wp2
          go_ret
          exact ⟨ret_bool HF.out.symm, rfl⟩
    · have HALL : Hid (∀ j (hj : j < s.size), nmC ((s[j]).toNat : Int)) := Lib.hid (fun j hj => HA.out j hj (by omega))
      by_cases h1 : 1 ≤ (s.size : Int)
      · by_cases h2 : (s.size : Int) ≤ 24
        · have HF : Hid (r = true) := Lib.hid (HR.out.trans ((nameB_iff s).2 ⟨h1, h2, HALL.out⟩))
          go_wp2
          go_ret
          exact ⟨ret_bool HF.out.symm, rfl⟩
        · have HF : Hid (r = false) := Lib.hid (by
            rw [HR.out]
            cases h : nameB s with
            | false => rfl
            | true => exact absurd ((nameB_iff s).1 h).2.1 h2)
          have h3 : decide ((s.size : Int) ≤ 24) = false := by simpa using h2
          go_wp2
          go_ret
          exact ⟨ret_bool HF.out.symm, rfl⟩
      · have HF : Hid (r = false) := Lib.hid (by
            rw [HR.out]
            cases h : nameB s with
            | false => rfl
            | true => exact absurd ((nameB_iff s).1 h).1 h1)
        have h3 : decide (1 ≤ (s.size : Int)) = false := by simpa using h1
        go_wp2
        go_ret
        exact ⟨ret_bool HF.out.symm, rfl⟩

/-- A rising row with a number more. -/
def risL (n : Int) : List Int → List Int
  | [] => [n]
  | x :: xs => if n < x then n :: x :: xs else x :: risL n xs
theorem risL_len (n : Int) : ∀ l : List Int, (risL n l).length = l.length + 1
  | [] => rfl
  | x :: xs => by
    unfold risL
    split
    · simp
    · simp [risL_len n xs]
theorem mem_risL (n : Int) : ∀ (l : List Int) (m : Int), m ∈ risL n l ↔ m = n ∨ m ∈ l
  | [], m => by simp [risL]
  | x :: xs, m => by
    unfold risL
    split
    · simp
    · rw [List.mem_cons, mem_risL n xs m, List.mem_cons]
      constructor
      · rintro (h | h | h)
        · exact .inr (.inl h)
        · exact .inl h
        · exact .inr (.inr h)
      · rintro (h | h | h)
        · exact .inr (.inl h)
        · exact .inl h
        · exact .inr (.inr h)
theorem risL_up {n : Int} : ∀ {l : List Int}, l.Pairwise (· < ·) → n ∉ l → (risL n l).Pairwise (· < ·)
  | [], _, _ => by simp [risL]
  | x :: xs, h, hn => by
    rw [List.pairwise_cons] at h
    unfold risL
    split
    · rename_i hx
      rw [List.pairwise_cons, List.pairwise_cons]
      refine ⟨fun y hy => ?_, h⟩
      rcases List.mem_cons.1 hy with rfl | hy
      · exact hx
      · have := h.1 y hy; omega
    · rename_i hx
      rw [List.pairwise_cons]
      refine ⟨fun y hy => ?_, risL_up h.2 (fun e => hn (List.mem_cons_of_mem _ e))⟩
      rcases (mem_risL n xs y).1 hy with rfl | hy
      · have : y ≠ x := fun e => hn (by simp [e])
        omega
      · exact h.1 y hy
theorem int_info07 : (Try.prog.info? 3).map (fun i => (i.zero, i.size, i.bytes)) = some (some (.int .i64 0), 1, 8) := by kernel_rfl
theorem intC_append (a b : List Int) : intC (a ++ b) = intC a ++ intC b := by unfold intC; rw [List.map_append]

set_option maxRecDepth 100000 in
set_option maxHeartbeats 8000000 in
theorem rising_any (A : Option Addr) (c : Nat) (l : List Int) (n : Int) (w : World) (h : Reads w w.heap.size 1 A l.length (intC l)) (hl : l.length < 1000000) :
    Calls Try.prog 43 #[.slice A l.length c, .int .i64 n] w fun e w' => ∃ A' c', e = .returned (.slice A' (risL n l).length c') ∧ w'.ownsRow w.heap.size 3 1 (.slice A' (risL n l).length c') (risL n l).length (intC (risL n l)) ∧ Below w.heap.size w w' := by
  have HL := Lib.hid h
  have hrl := risL_len n l
  have HRL := Lib.hid hrl
  clear h hrl
  obtain ⟨W1, hW1⟩ : ∃ W1, W1 = w.alloc (.cells #[] 3) := ⟨_, rfl⟩
  have hb1 : Below w.heap.size w W1 := by rw [hW1]; exact (Below.refl _ w).alloc (Nat.le_refl _) _
  have ho1 : W1.ownsRow w.heap.size 3 1 (.slice (some ⟨w.heap.size, 0, none⟩) 0 0) 0 [] := own_empty (Nat.le_refl _) (by rw [hW1]; exact heap_alloc_new w _)
  have HB1 := Lib.hid hb1
  have HO1 := Lib.hid ho1
  clear hb1 ho1
  go_enter Try.func43, Try.ntmps43
  go_wp2_with fail
  rw [← hW1]
  clear hW1
  go_loopg [5, 6, 7] l.length (fun rest s5 s6 s7 wr => ∃ (k : Nat) (d : Bool) (A2 : Option Addr) (c2 : Nat) (O : List Int), s7 = .int .i64 k ∧ s6 = .bool d ∧ s5 = .slice A2 O.length c2 ∧ Hid (k + rest = l.length) ∧ (k : Int) ≤ 1000000 ∧ Hid (O ++ (if d = true then l.drop k else risL n (l.drop k)) = risL n l) ∧ Hid (wr.ownsRow w.heap.size 3 1 (.slice A2 O.length c2) O.length (intC O)) ∧ Hid (Below w.heap.size w wr))
  case atStart => exact ⟨0, false, some ⟨w.heap.size, 0, none⟩, 0, [], rfl, rfl, rfl, Lib.hid (by simp), by omega, Lib.hid (by simp), HO1, HB1⟩
  case round =>
    obtain ⟨k, d, A2, c2, O, rfl, rfl, rfl, HK, hk0, HEQ, HO, HB⟩ := hrel
    have hOl : O.length ≤ l.length + 1 := by
      have h1 := congrArg List.length HEQ.out
      rw [HRL.out, List.length_append] at h1
      omega
    have hbase : w.heap.size ≤ wr.heap.size := HB.out.size
    by_cases hk : (k : Int) < (l.length : Int)
    · have hkl : k < l.length := by omega
      obtain ⟨b, o, rfl, hb, x1⟩ := int_at (HL.out.below HB.out) hkl
      have hd := List.drop_eq_getElem_cons hkl
      have HD := Lib.hid hd
      clear hd
      generalize l[k] = x at *
      have happ : ∀ (W : World) (A3 : Option Addr) (c3 : Nat) (O3 : List Int) (y : Int), Hid (W.ownsRow w.heap.size 3 1 (.slice A3 O3.length c3) O3.length (intC O3)) → True := fun _ _ _ _ _ _ => trivial
      clear happ
      cases d with
      | true =>
        have HE2 : Hid (O ++ [x] ++ l.drop (k + 1) = risL n l) := Lib.hid (by
          have := HEQ.out
          simp only [if_true, HD.out] at this
          rw [← this]
          simp)
        go_wp2_with (at_builtin; refine wpList_append_cell wr rfl _ _ _ rfl w.heap.size 3 (.int .i64 0) 8 Try.underlying36 int_info07 rfl A2 O.length c2 _ rfl HO.out (.int .i64 x) rfl rfl (by omega) (by unfold maxLen; omega) hbase ?_; intro A5 c5 w5 hown5 hg5 hb5)
        have HO5 : Hid (w5.ownsRow w.heap.size 3 1 (.slice A5 (O ++ [x]).length c5) (O ++ [x]).length (intC (O ++ [x]))) := Lib.hid (by rw [intC_append, List.length_append]; exact hown5)
        clear hown5 hg5
        go_roundg (gk - 1)
        case measure => have := HK.out; omega
        case rel => exact ⟨k + 1, true, A5, c5, O ++ [x], by go_num, rfl, by simp, Lib.hid (by have := HK.out; omega), by omega, Lib.hid (by simp only [if_true]; exact HE2.out), HO5, Lib.hid (HB.out.trans hb5)⟩
      | false =>
        by_cases hx : n < x
        · have HE2 : Hid (O ++ [n] ++ [x] ++ l.drop (k + 1) = risL n l) := Lib.hid (by
            have := HEQ.out
            simp only [HD.out] at this
            rw [← this]
            simp [risL, hx])
          go_upto_region 9 with (at_builtin; refine wpList_append_cell wr rfl _ _ _ rfl w.heap.size 3 (.int .i64 0) 8 Try.underlying36 int_info07 rfl A2 O.length c2 _ rfl HO.out (.int .i64 n) rfl rfl (by omega) (by unfold maxLen; omega) hbase ?_; intro A5 c5 w5 hown5 hg5 hb5)
          have HO5 : Hid (w5.ownsRow w.heap.size 3 1 (.slice A5 (O ++ [n]).length c5) (O ++ [n]).length (intC (O ++ [n]))) := Lib.hid (by rw [intC_append, List.length_append]; exact hown5)
          have x2 : w5.cell? ⟨b, o + k, none⟩ = some (.int .i64 x) := (hb5.cell (p := ⟨b, o + k, none⟩) hb).trans x1
          have hbase5 : w.heap.size ≤ w5.heap.size := Nat.le_trans hbase hb5.size
          have hl5 : (O ++ [n]).length = O.length + 1 := by simp
          have HL5 := Lib.hid hl5
          rw [← hl5]
          clear hown5 hg5 hl5
          go_wp2_with (at_builtin; refine wpList_append_cell w5 rfl _ _ _ rfl w.heap.size 3 (.int .i64 0) 8 Try.underlying36 int_info07 rfl A5 (O ++ [n]).length c5 _ rfl HO5.out (.int .i64 x) rfl rfl (by have := HL5.out; omega) (by have := HL5.out; unfold maxLen; omega) hbase5 ?_; intro A6 c6 w6 hown6 hg6 hb6)
          have HO6 : Hid (w6.ownsRow w.heap.size 3 1 (.slice A6 (O ++ [n] ++ [x]).length c6) (O ++ [n] ++ [x]).length (intC (O ++ [n] ++ [x]))) := Lib.hid (by rw [intC_append, List.length_append]; exact hown6)
          clear hown6 hg6
          go_roundg (gk - 1)
          case measure => have := HK.out; omega
          case rel => exact ⟨k + 1, true, A6, c6, O ++ [n] ++ [x], by go_num, rfl, by simp, Lib.hid (by have := HK.out; omega), by omega, Lib.hid (by simp only [if_true]; exact HE2.out), HO6, Lib.hid ((HB.out.trans hb5).trans hb6)⟩
        · have HE2 : Hid (O ++ [x] ++ risL n (l.drop (k + 1)) = risL n l) := Lib.hid (by
            have := HEQ.out
            simp only [HD.out] at this
            rw [← this]
            simp [risL, hx])
          go_wp2_with (at_builtin; refine wpList_append_cell wr rfl _ _ _ rfl w.heap.size 3 (.int .i64 0) 8 Try.underlying36 int_info07 rfl A2 O.length c2 _ rfl HO.out (.int .i64 x) rfl rfl (by omega) (by unfold maxLen; omega) hbase ?_; intro A5 c5 w5 hown5 hg5 hb5)
          have HO5 : Hid (w5.ownsRow w.heap.size 3 1 (.slice A5 (O ++ [x]).length c5) (O ++ [x]).length (intC (O ++ [x]))) := Lib.hid (by rw [intC_append, List.length_append]; exact hown5)
          clear hown5 hg5
          go_roundg (gk - 1)
          case measure => have := HK.out; omega
          case rel => exact ⟨k + 1, false, A5, c5, O ++ [x], by go_num, rfl, by simp, Lib.hid (by have := HK.out; omega), by omega, Lib.hid (by simpa using HE2.out), HO5, Lib.hid (HB.out.trans hb5)⟩
    · have hke : k = l.length := by have := HK.out; omega
      cases d with
      | true =>
        have hE : O = risL n l := by
          have := HEQ.out
          simp only [if_true, hke, List.drop_length, List.append_nil] at this
          exact this
        have HE := Lib.hid hE
        clear hE
        go_wp2_with fail
        go_ret
        exact ⟨A2, c2, (by rw [← HE.out]; rfl), by rw [← HE.out]; exact HO.out, HB.out⟩
      | false =>
        have hE : O ++ [n] = risL n l := by
          have := HEQ.out
          simp only [hke, List.drop_length, risL] at this
          simpa using this
        have HE := Lib.hid hE
        clear hE
        go_wp2_with (at_builtin; refine wpList_append_cell wr rfl _ _ _ rfl w.heap.size 3 (.int .i64 0) 8 Try.underlying36 int_info07 rfl A2 O.length c2 _ rfl HO.out (.int .i64 n) rfl rfl (by omega) (by unfold maxLen; omega) hbase ?_; intro A5 c5 w5 hown5 hg5 hb5)
        have HO5 : Hid (w5.ownsRow w.heap.size 3 1 (.slice A5 (O ++ [n]).length c5) (O ++ [n]).length (intC (O ++ [n]))) := Lib.hid (by rw [intC_append, List.length_append]; exact hown5)
        clear hown5 hg5
        go_ret
        exact ⟨A5, c5, (by rw [← HE.out, List.length_append]; rfl), by rw [← HE.out]; exact HO5.out, HB.out.trans hb5⟩
end Go.Proofs.Ytcladmcbhnmhiaa
