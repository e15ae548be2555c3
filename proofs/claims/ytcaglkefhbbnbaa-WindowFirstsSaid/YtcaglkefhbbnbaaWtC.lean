/- Contracts of the reference's Less, Put, First and Same of counts. -/
import Derived.Test.YtcaglkefhbbnbaaWtA
import Derived.Test.YtcaglkefhbbnbaaInsG
import Derived.Laws.StructEq
import Derived.ChangeKeysEq
namespace Go.Proofs.Ytcaglkefhbbnbaa
open Go.ChangeShapes Go.WideShapes Go.ChangeAt Go.RowKit Go.Shelf Go.Lib Go.Sort Go.Proofs
set_option linter.unusedVariables false
set_option linter.unusedSimpArgs false

theorem cntLt_is (a b : CntV) : cntLt a b = if b.n < a.n then true else if a.n = b.n then sLt a.key b.key else false := by
  have h := cntLt_iff a b
  by_cases h1 : b.n < a.n
  · rw [if_pos h1]; exact h.2 (.inl h1)
  · rw [if_neg h1]
    by_cases h2 : a.n = b.n
    · rw [if_pos h2]
      cases hs : sLt a.key b.key with
      | true => exact h.2 (.inr ⟨h2.symm, hs⟩)
      | false =>
        cases hr : cntLt a b with
        | false => rfl
        | true =>
          rcases h.1 hr with h3 | ⟨_, h3⟩
          · omega
          · rw [hs] at h3; cases h3
    · rw [if_neg h2]
      cases hr : cntLt a b with
      | false => rfl
      | true => rcases h.1 hr with h3 | ⟨h3, _⟩ <;> omega

set_option maxRecDepth 20000 in
set_option maxHeartbeats 1000000 in
theorem cless_any (a b : CntV) (w : World) :
    Calls Try.prog 31 #[.agg #[.string a.key, .int .i64 a.n], .agg #[.string b.key, .int .i64 b.n]] w fun e w' => e = .returned (.bool (cntLt a b)) ∧ Below w.heap.size w w' := by
  have hb : ∀ o1 o2 : Obj, Below w.heap.size w ((w.alloc o1).alloc o2) := fun o1 o2 => ((Below.refl _ _).alloc (Nat.le_refl _) _).alloc (by simp) _
  have HB := Lib.hid hb
  have HL := Lib.hid (cntLt_is a b)
  clear hb
  by_cases h1 : b.n < a.n
  · go_enter Try.func31, Try.ntmps31
    go_wp2
    go_ret
    exact ⟨ret_bool (by rw [HL.out, if_pos h1]), HB.out _ _⟩
  · by_cases h2 : a.n = b.n
    · have h2' : (a.n == b.n) = true := by simpa using h2
      have H2 := Lib.hid h2
      have H1 := Lib.hid h1
      clear h2
      go_enter Try.func31, Try.ntmps31
      go_wp2
      go_ret
      exact ⟨ret_bool (by rw [HL.out, if_neg (by have := H1.out; omega), if_pos H2.out]; rfl), HB.out _ _⟩
    · have h2' : (a.n == b.n) = false := by simpa using h2
      have H1 := Lib.hid h1
      have H2 := Lib.hid h2
      clear h2
      go_enter Try.func31, Try.ntmps31
      go_wp2
      go_ret
      exact ⟨ret_bool (by rw [HL.out, if_neg (by have := H1.out; omega), if_neg H2.out]), HB.out _ _⟩

theorem keep4b {W0 W : World} {p q o : Nat} {k1 k2 : ByteArray} {n1 n2 : Int} (h : Below W0.heap.size W0 W) (hp : p < W0.heap.size) (hq : q < W0.heap.size)
    (e0 : W0.cell? ⟨p, 0, none⟩ = some (.string k1)) (e1 : W0.cell? ⟨p, 1, none⟩ = some (.int .i64 n1))
    (d0 : W0.cell? ⟨q, o, none⟩ = some (.string k2)) (d1 : W0.cell? ⟨q, o + 1, none⟩ = some (.int .i64 n2)) :
    W.cell? ⟨p, 0, none⟩ = some (.string k1) ∧ W.cell? ⟨p, 1, none⟩ = some (.int .i64 n1) ∧ W.cell? ⟨q, o, none⟩ = some (.string k2) ∧ W.cell? ⟨q, o + 1, none⟩ = some (.int .i64 n2) :=
  ⟨(h.cell (p := ⟨p, 0, none⟩) hp).trans e0, (h.cell (p := ⟨p, 1, none⟩) hp).trans e1, (h.cell (p := ⟨q, o, none⟩) hq).trans d0, (h.cell (p := ⟨q, o + 1, none⟩) hq).trans d1⟩

/-- What Put leaves. -/
def PutNew (w : World) (ts : List CntV) (e : Ending) (w' : World) : Prop :=
  ∃ A c, e = .returned (.slice A ts.length c) ∧ w'.ownsRow w.heap.size 53 2 (.slice A ts.length c) ts.length (ts.flatMap cntEnc) ∧ Below w.heap.size w w'

set_option maxRecDepth 20000 in
set_option maxHeartbeats 4000000 in
theorem cput_any (A : Option Addr) (B c : Nat) (out : List CntV) (r : CntV) (w : World) (hat : CntsAt w B A out) (hB : B ≤ w.heap.size) (hl : (out.length : Int) ≤ 1000) :
    Calls Try.prog 44 #[.slice A out.length c, .agg #[.string r.key, .int .i64 r.n]] w (PutNew w (insG cntLt r out)) := by
  have hanys : ∀ m (hm : m < out.length), (out.take (m + 1)).any (cntLt r) = ((out.take m).any (cntLt r) || cntLt r out[m]) := fun m hm => any_take_snoc out _ hm
  have hparts : ∀ m (hm : m < out.length), partG cntLt r (out.take (m + 1)) = partG cntLt r (out.take m) ++ (if (!(out.take m).any (cntLt r) && cntLt r out[m]) = true then [r] else []) ++ [out[m]] := fun m hm => by rw [List.take_succ_eq_append_getElem hm, partG_snoc]
  have HANY := Lib.hid hanys
  have HPART := Lib.hid hparts
  have HAT := Lib.hid hat
  clear hanys hparts hat
  go_enter Try.func44, Try.ntmps44
  go_wp2_with fail
  have f0 : ((w.alloc (Obj.cells #[.string r.key, .int .i64 r.n] 53)).alloc (.cells #[] 53)).cell? ⟨w.heap.size, 0, none⟩ = some (.string r.key) := by simp
  have f1 : ((w.alloc (Obj.cells #[.string r.key, .int .i64 r.n] 53)).alloc (.cells #[] 53)).cell? ⟨w.heap.size, 1, none⟩ = some (.int .i64 r.n) := by simp
  have hz8 : w.heap.size + 1 < ((w.alloc (Obj.cells #[.string r.key, .int .i64 r.n] 53)).alloc (.cells #[] 53)).heap.size := by simp
  have hb9 : Below w.heap.size w ((w.alloc (Obj.cells #[.string r.key, .int .i64 r.n] 53)).alloc (.cells #[] 53)) := ((Below.refl _ _).alloc (Nat.le_refl _) _).alloc (by simp) _
  have ho9 : ((w.alloc (Obj.cells #[.string r.key, .int .i64 r.n] 53)).alloc (.cells #[] 53)).ownsRow (w.heap.size + 1) 53 2 (.slice (some ⟨w.heap.size + 1, 0, none⟩) 0 0) 0 [] := own_empty (Nat.le_refl _) (by
    have := heap_alloc_new (w.alloc (Obj.cells #[.string r.key, .int .i64 r.n] 53)) (.cells #[] 53)
    rwa [World.size_alloc] at this)
  generalize (w.alloc (Obj.cells #[.string r.key, .int .i64 r.n] 53)).alloc (.cells #[] 53) = W8 at *
  obtain ⟨z0, hz0⟩ : ∃ z0, z0 = w.heap.size + 1 := ⟨_, rfl⟩
  rw [← hz0] at ho9 hz8
  have HZ0 := Lib.hid hz0
  have hz0' : w.heap.size < z0 := by omega
  clear hz0
  go_loopg [5, 6, 7] out.length (fun rest s d j wx => ∃ (n : Nat) (A5 : Option Addr) (c5 : Nat) (nx : List CntV), j = .int .i64 n ∧ Hid (n + rest = out.length) ∧ s = .slice A5 nx.length c5 ∧ d = .bool ((out.take n).any (cntLt r)) ∧ Hid (nx = partG cntLt r (out.take n)) ∧
    wx.ownsRow z0 53 2 (.slice A5 nx.length c5) nx.length (nx.flatMap cntEnc) ∧ Below z0 W8 wx)
  case atStart => exact ⟨0, _, 0, [], rfl, Lib.hid (by simp), rfl, rfl, Lib.hid (by simp [partG]), by rw [← HZ0.out]; exact ho9, Below.refl _ _⟩
  case round =>
    clear ho9
    obtain ⟨n, A5, c5, nx, rfl, HN, rfl, rfl, HNX, hown5, hb5⟩ := hrel
    have hnl : (nx.length : Int) ≤ (n : Int) + 1 := by
      have h1 := partG_len (lt := cntLt) r (out.take n)
      have h2 := List.length_take_le n out
      rw [← HNX.out] at h1
      omega
    have e0 := (hb5.cell (p := ⟨w.heap.size, 0, none⟩) hz0').trans f0
    have e1 := (hb5.cell (p := ⟨w.heap.size, 1, none⟩) hz0').trans f1
    have hz5 := hb5.size
    have hB5 : Below w.heap.size w wr := hb9.trans (hb5.mono (by omega))
    have hnle : (n : Int) ≤ (out.length : Int) := by have := HN.out; omega
    by_cases hn : (n : Int) < (out.length : Int)
    · have hnk : n < out.length := by omega
      obtain ⟨b', o', rfl, hbl', d1, d2⟩ := (HAT.out.below (hB5.mono hB)).one hnk
      have hsn := HANY.out n hnk
      have hpn := HPART.out n hnk
      rw [← HNX.out] at hpn
      generalize out[n] = y at *
      have HSN := Lib.hid hsn
      have HPN := Lib.hid hpn
      clear hsn hpn hB5
      generalize (out.take n).any (cntLt r) = sm at *
      have hlt1 : w.heap.size < wr.heap.size := by omega
      have hlt2 : b' < wr.heap.size := by omega
      cases sm with
      | true =>
        have hKe : Below wr.heap.size wr wr.drew := (Below.refl _ _).drew
        go_wp2_with fail
        refine heldStart 10 (S := fun W => W.cell? ⟨w.heap.size, 0, none⟩ = some (.string r.key) ∧ W.cell? ⟨w.heap.size, 1, none⟩ = some (.int .i64 r.n) ∧ W.cell? ⟨b', o' + n * 2, none⟩ = some (.string y.key) ∧ W.cell? ⟨b', o' + n * 2 + 1, none⟩ = some (.int .i64 y.n)) (by kernel_rfl) ?_ (fun hHeld => ?_)
        · exact keep4b hKe hlt1 hlt2 e0 e1 d1 d2
        refine heldTake 0 (v := ?_) (by simp only [List.getElem?_toArray, List.getElem?_cons_succ, List.getElem?_cons_zero]; rfl) (by kernel_rfl) (by intro _ _ _ h; exact h) (by rfl) (by assumption) ?_ ?_
        rotate_left
        · intro W hSw; (try dsimp only at hSw); go_simp; try with_reducible rfl
        simp only [Act.put, List.setIfInBounds_toArray, List.set_cons_zero, List.set_cons_succ]
        refine heldTake 1 (v := ?_) (by simp only [List.getElem?_toArray, List.getElem?_cons_succ, List.getElem?_cons_zero]; rfl) (by kernel_rfl) (by intro _ _ _ h; exact h) (by rfl) (by assumption) ?_ ?_
        rotate_left
        · intro W hSw; (try dsimp only at hSw); go_simp; try with_reducible rfl
        simp only [Act.put, List.setIfInBounds_toArray, List.set_cons_zero, List.set_cons_succ]
        refine heldTake 2 (v := ?_) (by simp only [List.getElem?_toArray, List.getElem?_cons_succ, List.getElem?_cons_zero]; rfl) (by kernel_rfl) (by intro _ _ _ h; exact h) (by rfl) (by assumption) ?_ ?_
        rotate_left
        · intro W hSw; (try dsimp only at hSw); go_simp; try with_reducible rfl
        simp only [Act.put, List.setIfInBounds_toArray, List.set_cons_zero, List.set_cons_succ]
        refine heldSkip 3 (by simp only [List.getElem?_toArray, List.getElem?_cons_succ, List.getElem?_cons_zero]; rfl) (by kernel_rfl) (by intro _ _ _ h; exact h) (by rfl) (by assumption) ?_
        simp only [Act.put, List.setIfInBounds_toArray, List.set_cons_zero, List.set_cons_succ]
        refine heldSkip 4 (by simp only [List.getElem?_toArray, List.getElem?_cons_succ, List.getElem?_cons_zero]; rfl) (by kernel_rfl) (by intro _ _ _ h; exact h) (by rfl) (by assumption) ?_
        simp only [Act.put, List.setIfInBounds_toArray, List.set_cons_zero, List.set_cons_succ]
        refine heldSkip 5 (by simp only [List.getElem?_toArray, List.getElem?_cons_succ, List.getElem?_cons_zero]; rfl) (by kernel_rfl) (by intro _ _ _ h; exact h) (by rfl) (by assumption) ?_
        simp only [Act.put, List.setIfInBounds_toArray, List.set_cons_zero, List.set_cons_succ]
        refine heldSkip 6 (by simp only [List.getElem?_toArray, List.getElem?_cons_succ, List.getElem?_cons_zero]; rfl) (by kernel_rfl) (by intro _ _ _ h; exact h) (by rfl) (by assumption) ?_
        simp only [Act.put, List.setIfInBounds_toArray, List.set_cons_zero, List.set_cons_succ]
        refine heldSkip 7 (by simp only [List.getElem?_toArray, List.getElem?_cons_succ, List.getElem?_cons_zero]; rfl) (by kernel_rfl) (by intro _ _ _ h; exact h) (by rfl) (by assumption) ?_
        simp only [Act.put, List.setIfInBounds_toArray, List.set_cons_zero, List.set_cons_succ]
        refine heldSkip 8 (by simp only [List.getElem?_toArray, List.getElem?_cons_succ, List.getElem?_cons_zero]; rfl) (by kernel_rfl) (by intro _ _ _ h; exact h) (by rfl) (by assumption) ?_
        simp only [Act.put, List.setIfInBounds_toArray, List.set_cons_zero, List.set_cons_succ]
        refine heldTake 9 (v := ?_) (by simp only [List.getElem?_toArray, List.getElem?_cons_succ, List.getElem?_cons_zero]; rfl) (by kernel_rfl) (by intro _ _ _ h; exact h) (by rfl) (by assumption) ?_ ?_
        rotate_left
        · intro W hSw; (try dsimp only at hSw); go_simp; try with_reducible rfl
        simp only [Act.put, List.setIfInBounds_toArray, List.set_cons_zero, List.set_cons_succ]
        refine heldDone (by kernel_rfl) ?_ _
        have hownD : wr.drew.ownsRow z0 53 2 (.slice A5 nx.length c5) nx.length (nx.flatMap cntEnc) := (Keeps.ofBelow hKe (fun _ => False)).own hown5 (fun _ _ h => h)
        have hbD : Below z0 W8 wr.drew := hb5.drew
        have hzD := hbD.size
        obtain ⟨k0, k1, k3, k4⟩ := keep4b hKe hlt1 hlt2 e0 e1 d1 d2
        clear hKe hown5 hHeld e0 e1 d1 d2 hb5
        generalize wr.drew = wd9 at *
        go_wp2_with (at_builtin; refine wpList_append_one wd9 rfl _ _ _ rfl z0 53 (.agg #[.string ByteArray.empty, .int .i64 0]) 2 24 Try.underlying47 cnt_info rfl (by decide) A5 nx.length c5 _ rfl hownD [.string y.key, .int .i64 y.n] rfl rfl (by intro u hu; simp at hu; rcases hu with rfl | rfl <;> rfl) (by omega) (by unfold maxLen; omega) (by omega) ?_; intro A6 c6 w6 hown6 hg6 hb6)
        have hb7 : Below z0 W8 w6 := hbD.trans hb6
        have hl6 : (nx ++ [y]).length = nx.length + 1 := by simp
        have HO6 : Hid (w6.ownsRow z0 53 2 (.slice A6 (nx ++ [y]).length c6) (nx ++ [y]).length ((nx ++ [y]).flatMap cntEnc)) := Lib.hid (by
          rw [hl6, List.flatMap_append]
          exact hown6)
        clear hown6 hg6 hb6 hownD
        go_wp2
        go_roundg (gk - 1)
        case measure => have := HN.out; omega
        case rel => exact ⟨n + 1, A6, c6, nx ++ [y], by go_num, Lib.hid (by have := HN.out; omega), by rw [hl6], by rw [HSN.out]; rfl, Lib.hid (by rw [HPN.out]; simp), HO6.out, hb7⟩
      | false =>
        have hKe : Below wr.heap.size wr wr.drew := (Below.refl _ _).drew
        go_wp2_with fail
        refine heldStart 10 (S := fun W => W.cell? ⟨w.heap.size, 0, none⟩ = some (.string r.key) ∧ W.cell? ⟨w.heap.size, 1, none⟩ = some (.int .i64 r.n) ∧ W.cell? ⟨b', o' + n * 2, none⟩ = some (.string y.key) ∧ W.cell? ⟨b', o' + n * 2 + 1, none⟩ = some (.int .i64 y.n)) (by kernel_rfl) ?_ (fun hHeld => ?_)
        · exact keep4b hKe hlt1 hlt2 e0 e1 d1 d2
        refine heldTake 0 (v := ?_) (by simp only [List.getElem?_toArray, List.getElem?_cons_succ, List.getElem?_cons_zero]; rfl) (by kernel_rfl) (by intro _ _ _ h; exact h) (by rfl) (by assumption) ?_ ?_
        rotate_left
        · intro W hSw; (try dsimp only at hSw); go_simp; try with_reducible rfl
        simp only [Act.put, List.setIfInBounds_toArray, List.set_cons_zero, List.set_cons_succ]
        refine heldTake 1 (v := ?_) (by simp only [List.getElem?_toArray, List.getElem?_cons_succ, List.getElem?_cons_zero]; rfl) (by kernel_rfl) (by intro _ _ _ h; exact h) (by rfl) (by assumption) ?_ ?_
        rotate_left
        · intro W hSw; (try dsimp only at hSw); go_simp; try with_reducible rfl
        simp only [Act.put, List.setIfInBounds_toArray, List.set_cons_zero, List.set_cons_succ]
        refine heldTake 2 (v := ?_) (by simp only [List.getElem?_toArray, List.getElem?_cons_succ, List.getElem?_cons_zero]; rfl) (by kernel_rfl) (by intro _ _ _ h; exact h) (by rfl) (by assumption) ?_ ?_
        rotate_left
        · intro W hSw; (try dsimp only at hSw); go_simp; try with_reducible rfl
        simp only [Act.put, List.setIfInBounds_toArray, List.set_cons_zero, List.set_cons_succ]
        refine heldTake 3 (v := ?_) (by simp only [List.getElem?_toArray, List.getElem?_cons_succ, List.getElem?_cons_zero]; rfl) (by kernel_rfl) (by intro _ _ _ h; exact h) (by rfl) (by assumption) ?_ ?_
        rotate_left
        · intro W hSw; (try dsimp only at hSw); go_simp; try with_reducible rfl
        simp only [Act.put, List.setIfInBounds_toArray, List.set_cons_zero, List.set_cons_succ]
        refine heldTake 4 (v := ?_) (by simp only [List.getElem?_toArray, List.getElem?_cons_succ, List.getElem?_cons_zero]; rfl) (by kernel_rfl) (by intro _ _ _ h; exact h) (by rfl) (by assumption) ?_ ?_
        rotate_left
        · intro W hSw; (try dsimp only at hSw); go_simp; try with_reducible rfl
        simp only [Act.put, List.setIfInBounds_toArray, List.set_cons_zero, List.set_cons_succ]
        refine heldTake 5 (v := ?_) (by simp only [List.getElem?_toArray, List.getElem?_cons_succ, List.getElem?_cons_zero]; rfl) (by kernel_rfl) (by intro _ _ _ h; exact h) (by rfl) (by assumption) ?_ ?_
        rotate_left
        · intro W hSw; (try dsimp only at hSw); go_simp; try with_reducible rfl
        simp only [Act.put, List.setIfInBounds_toArray, List.set_cons_zero, List.set_cons_succ]
        refine heldTake 6 (v := ?_) (by simp only [List.getElem?_toArray, List.getElem?_cons_succ, List.getElem?_cons_zero]; rfl) (by kernel_rfl) (by intro _ _ _ h; exact h) (by rfl) (by assumption) ?_ ?_
        rotate_left
        · intro W hSw; (try dsimp only at hSw); go_simp; try with_reducible rfl
        simp only [Act.put, List.setIfInBounds_toArray, List.set_cons_zero, List.set_cons_succ]
        refine heldTake 7 (v := ?_) (by simp only [List.getElem?_toArray, List.getElem?_cons_succ, List.getElem?_cons_zero]; rfl) (by kernel_rfl) (by intro _ _ _ h; exact h) (by rfl) (by assumption) ?_ ?_
        rotate_left
        · intro W hSw; (try dsimp only at hSw); go_simp; try with_reducible rfl
        simp only [Act.put, List.setIfInBounds_toArray, List.set_cons_zero, List.set_cons_succ]
        refine heldCall 8 (by simp only [List.getElem?_toArray, List.getElem?_cons_succ, List.getElem?_cons_zero]; rfl) (by kernel_rfl) (fun K hK => ?_)
        go_simp
        refine (cless_any r y _).mono ?_
        rintro e w9 ⟨rfl, hb9'⟩
        have hK0 : Below wr.heap.size wr w9 := hKe.trans (hb9'.mono hKe.size)
        clear hKe hb9'
        have hKe := hK0
        clear hK0
        go_wp2_with fail
        refine hK.out _ _ ?_ (fun hHeld => ?_)
        · exact keep4b hKe hlt1 hlt2 e0 e1 d1 d2
        clear hK K
        (try simp only [Act.put, List.setIfInBounds_toArray, List.set_cons_zero, List.set_cons_succ])
        refine heldTake 9 (v := ?_) (by simp only [List.getElem?_toArray, List.getElem?_cons_succ, List.getElem?_cons_zero]; rfl) (by kernel_rfl) (by intro _ _ _ h; exact h) (by rfl) (by assumption) ?_ ?_
        rotate_left
        · intro W hSw; (try dsimp only at hSw); go_simp; try with_reducible rfl
        simp only [Act.put, List.setIfInBounds_toArray, List.set_cons_zero, List.set_cons_succ]
        refine heldDone (by kernel_rfl) ?_ _
        have hownD : w9.ownsRow z0 53 2 (.slice A5 nx.length c5) nx.length (nx.flatMap cntEnc) := (Keeps.ofBelow hKe (fun _ => False)).own hown5 (fun _ _ h => h)
        have hbD : Below z0 W8 w9 := hb5.trans (hKe.mono (by omega))
        have hzD := hbD.size
        obtain ⟨k0, k1, k3, k4⟩ := keep4b hKe hlt1 hlt2 e0 e1 d1 d2
        have hlt1' : w.heap.size < w9.heap.size := by have := hKe.size; omega
        have hlt2' : b' < w9.heap.size := by have := hKe.size; omega
        clear hKe hown5 hHeld e0 e1 d1 d2 hb5
        cases hrl : cntLt r y with
        | false =>
          have HPN' : Hid (partG cntLt r (out.take (n + 1)) = nx ++ [y]) := Lib.hid (by rw [HPN.out, hrl]; simp)
          have HSN' : Hid ((out.take (n + 1)).any (cntLt r) = false) := Lib.hid (by rw [HSN.out, hrl]; rfl)
          clear HPN HSN hrl
          go_wp2_with (at_builtin; refine wpList_append_one w9 rfl _ _ _ rfl z0 53 (.agg #[.string ByteArray.empty, .int .i64 0]) 2 24 Try.underlying47 cnt_info rfl (by decide) A5 nx.length c5 _ rfl hownD [.string y.key, .int .i64 y.n] rfl rfl (by intro u hu; simp at hu; rcases hu with rfl | rfl <;> rfl) (by omega) (by unfold maxLen; omega) (by omega) ?_; intro A6 c6 w6 hown6 hg6 hb6)
          have hb7 : Below z0 W8 w6 := hbD.trans hb6
          have hl6 : (nx ++ [y]).length = nx.length + 1 := by simp
          have HO6 : Hid (w6.ownsRow z0 53 2 (.slice A6 (nx ++ [y]).length c6) (nx ++ [y]).length ((nx ++ [y]).flatMap cntEnc)) := Lib.hid (by
            rw [hl6, List.flatMap_append]
            exact hown6)
          clear hown6 hg6 hb6 hownD
          go_wp2
          go_roundg (gk - 1)
          case measure => have := HN.out; omega
          case rel => exact ⟨n + 1, A6, c6, nx ++ [y], by go_num, Lib.hid (by have := HN.out; omega), by rw [hl6], by rw [HSN'.out], Lib.hid HPN'.out.symm, HO6.out, hb7⟩
        | true =>
          have HPN' : Hid (partG cntLt r (out.take (n + 1)) = (nx ++ [r]) ++ [y]) := Lib.hid (by rw [HPN.out, hrl]; simp)
          have HSN' : Hid ((out.take (n + 1)).any (cntLt r) = true) := Lib.hid (by rw [HSN.out, hrl]; rfl)
          clear HPN HSN hrl
          go_wp2_with (first
            | (at_builtin; refine wpList_append_one w9 rfl _ _ _ rfl z0 53 (.agg #[.string ByteArray.empty, .int .i64 0]) 2 24 Try.underlying47 cnt_info rfl (by decide) A5 nx.length c5 _ rfl hownD [.string r.key, .int .i64 r.n] rfl rfl (by intro u hu; simp at hu; rcases hu with rfl | rfl <;> rfl) (by omega) (by unfold maxLen; omega) (by omega) ?_; intro A6 c6 w6 hown6 hg6 hb6; have q3 := (hb6.cell (p := ⟨b', o' + n * 2, none⟩) (by show b' < _; omega)).trans k3; have q4 := (hb6.cell (p := ⟨b', o' + n * 2 + 1, none⟩) (by show b' < _; omega)).trans k4; have hz6b : z0 ≤ w6.heap.size := Nat.le_trans (Nat.le_trans (by omega) hzD) hb6.size)
            | (at_builtin; refine wpList_append_one w6 rfl _ _ _ rfl z0 53 (.agg #[.string ByteArray.empty, .int .i64 0]) 2 24 Try.underlying47 cnt_info rfl (by decide) A6 (nx.length + 1) c6 _ rfl hown6 [.string y.key, .int .i64 y.n] rfl rfl (by intro u hu; simp at hu; rcases hu with rfl | rfl <;> rfl) (by omega) (by unfold maxLen; omega) (by omega) ?_; intro A7 c7 w7 hown7 hg7 hb7b))
          have hb8 : Below z0 W8 w7 := (hbD.trans hb6).trans hb7b
          have hl7 : ((nx ++ [r]) ++ [y]).length = nx.length + 1 + 1 := by simp
          have HO7 : Hid (w7.ownsRow z0 53 2 (.slice A7 ((nx ++ [r]) ++ [y]).length c7) ((nx ++ [r]) ++ [y]).length (((nx ++ [r]) ++ [y]).flatMap cntEnc)) := Lib.hid (by
            rw [hl7, List.flatMap_append, List.flatMap_append]
            exact hown7)
          clear hown7 hg7 hb7b hown6 hg6 hb6 hownD
          go_wp2
          go_roundg (gk - 1)
          case measure => have := HN.out; omega
          case rel => exact ⟨n + 1, A7, c7, (nx ++ [r]) ++ [y], by go_num, Lib.hid (by have := HN.out; omega), by rw [hl7], by rw [HSN'.out], Lib.hid HPN'.out.symm, HO7.out, hb8⟩
    · have hall : out.take n = out := List.take_of_length_le (by omega)
      rw [hall]
      have hnx : nx = partG cntLt r out := by rw [HNX.out, hall]
      have hfin := partG_fin (lt := cntLt) r out
      rw [← hnx] at hfin
      have HF := Lib.hid hfin
      clear hnx hfin hall
      generalize out.any (cntLt r) = sm at *
      cases sm with
      | true =>
        have hf2 : nx = insG cntLt r out := by have := HF.out; simpa using this
        have HF2 := Lib.hid hf2
        clear hf2 HF
        go_wp2
        go_ret
        rw [← HF2.out]
        exact ⟨A5, c5, rfl, own_base hown5 (by omega), hB5⟩
      | false =>
        have hf2 : nx ++ [r] = insG cntLt r out := by have := HF.out; simpa using this
        have HF2 := Lib.hid hf2
        clear hf2 HF
        go_wp2_with (at_builtin; refine wpList_append_one wr rfl _ _ _ rfl z0 53 (.agg #[.string ByteArray.empty, .int .i64 0]) 2 24 Try.underlying47 cnt_info rfl (by decide) A5 nx.length c5 _ rfl hown5 [.string r.key, .int .i64 r.n] rfl rfl (by intro u hu; simp at hu; rcases hu with rfl | rfl <;> rfl) (by omega) (by unfold maxLen; omega) (by omega) ?_; intro A6 c6 w6 hown6 hg6 hb6)
        have hb7 : Below w.heap.size w w6 := hB5.trans (hb6.mono (by omega))
        have hl6 : (nx ++ [r]).length = nx.length + 1 := by simp
        have HO6 : Hid (w6.ownsRow z0 53 2 (.slice A6 (nx ++ [r]).length c6) (nx ++ [r]).length ((nx ++ [r]).flatMap cntEnc)) := Lib.hid (by
          rw [hl6, List.flatMap_append]
          exact hown6)
        clear hown6 hg6 hb6 hown5
        go_wp2
        go_ret
        rw [← HF2.out]
        exact ⟨A6, c6, by rw [hl6]; rfl, own_base HO6.out (by omega), hb7⟩

set_option maxHeartbeats 1000000 in
theorem cfirst_any (A : Option Addr) (c k : Nat) (n : Int) (w : World) (hc : k ≤ c) (hk : (k : Int) ≤ 1048576) :
    Calls Try.prog 30 #[.slice A k c, .int .i64 n] w fun e w' => e = .returned (.slice A (topM n k) c) ∧ w = w' := by
  by_cases h1 : n < 0
  · have HE : Hid (topM n k = 0) := Lib.hid (by unfold topM; omega)
    go_enter Try.func30, Try.ntmps30
    go_wp2
    go_ret
    exact ⟨by rw [HE.out]; rfl, rfl⟩
  · by_cases h2 : (k : Int) < n
    · have HE : Hid (topM n k = k) := Lib.hid (by unfold topM; omega)
      go_enter Try.func30, Try.ntmps30
      go_wp2
      go_ret
      exact ⟨by rw [HE.out]; rfl, rfl⟩
    · obtain ⟨j, rfl⟩ : ∃ j : Nat, n = (j : Int) := ⟨n.toNat, by omega⟩
      have HE : Hid (topM (j : Int) k = j) := Lib.hid (by unfold topM; omega)
      go_enter Try.func30, Try.ntmps30
      go_wp2
      go_ret
      exact ⟨by rw [HE.out]; rfl, rfl⟩

theorem neq_cnt (k l : ByteArray) (a c : Int) (w : World) : (binOp .neq 53 (.agg #[.string k, .int .i64 a]) (.agg #[.string l, .int .i64 c])).run Try.prog w = .ok (.bool (!(k.toList == l.toList && a == c))) w := by
  have hS : Try.prog.underlying 53 = some (.struct (Try.prog.fieldsOf 53)) := by kernel_rfl
  have hp : Try.prog.stoodInHeld 53 = false := by kernel_rfl
  have p0 := fun (v : Value) (xs : Array Value) (h : xs[0]? = some v) => run_part_plain (P := Try.prog) (w := w) (e := 9) (by kernel_rfl) h
  have p1 := fun (v : Value) (xs : Array Value) (h : xs[1]? = some v) => run_part_plain (P := Try.prog) (w := w) (e := 2) (by kernel_rfl) h
  have i := fun (d : Nat) (a b : Int) => run_equalIn_int (P := Try.prog) w d 2 .i64 .i64 a b Try.underlying2
  have j := fun (d : Nat) (a b : ByteArray) => run_equalIn_string (P := Try.prog) w d 9 a b Try.underlying9
  rw [run_neq_struct, run_equalIn_agg w 9999 _ _ _ hS hp]
  simp only [Program.fieldsOf, Try.underlying53, Op.eqFields]
  cases h1 : k.toList == l.toList <;> cases h2 : a == c <;> simp [Op.eqFields, p0, p1, i, j, h1, h2, Result.andThen]

set_option maxRecDepth 20000 in
set_option maxHeartbeats 2000000 in
theorem csame_any (A A' : Option Addr) (c c' : Nat) (rs : List CntV) (w : World) (h : CntsAt w w.heap.size A rs) (h' : CntsAt w w.heap.size A' rs) (hl : (rs.length : Int) ≤ 1048576) :
    Calls Try.prog 27 #[.slice A rs.length c, .slice A' rs.length c'] w fun e w' => e = .returned (.bool true) ∧ Below w.heap.size w w' := by
  have hne : ((rs.length : Int) != (rs.length : Int)) = false := by simp
  go_enter Try.func27, Try.ntmps27
  go_wp2_with fail
  go_loopg [5] rs.length (fun rest i wr => ∃ k : Nat, i = .int .i64 k ∧ Hid (k + rest = rs.length) ∧ Below w.heap.size w wr)
  case atStart => exact ⟨0, rfl, Lib.hid (by simp), Below.refl _ _⟩
  case round =>
    obtain ⟨k, rfl, HK, hb⟩ := hrel
    by_cases hk : (k : Int) < (rs.length : Int)
    · have hkl : k < rs.length := by omega
      obtain ⟨b, o, rfl, hbl, c1, c2⟩ := (h.below hb).one hkl
      obtain ⟨b', o', rfl, hbl', d1, d2⟩ := (h'.below hb).one hkl
      generalize rs[k] = y at *
      have q := neq_cnt y.key y.key y.n y.n
      have e : (!(y.key.toList == y.key.toList && y.n == y.n)) = false := by simp
      rw [e] at q
      clear e
      go_wp2_with fail
      go_quiet (fail)
      go_wp2
      go_roundg (gk - 1)
      case measure => have := HK.out; omega
      case rel => exact ⟨k + 1, by go_num, Lib.hid (by have := HK.out; omega), below_drewN hb _⟩
    · go_wp2
      go_ret
      exact ⟨rfl, hb⟩
end Go.Proofs.Ytcaglkefhbbnbaa
