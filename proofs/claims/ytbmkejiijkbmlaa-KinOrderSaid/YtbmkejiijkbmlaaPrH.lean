/- Contracts of kin.near, kin.first, kin.Top. -/
import Derived.Test.YtbmkejiijkbmlaaPrG
namespace Go.Proofs.Ytbmkejiijkbmlaa
open Go.ChangeShapes Go.WideShapes Go.ChangeAt Go.RowKit Go.Shelf Go.Lib Go.Sort Go.Proofs
set_option linter.unusedVariables false
set_option linter.unusedSimpArgs false

def nearOf (L : List (List ByteArray)) (a k : ByteArray) : NearV := ⟨k, likeNum L a k, likeDen L a k⟩
def nearL (L : List (List ByteArray)) (a : ByteArray) (floor : Int) (ks : List ByteArray) : List NearV := (ks.filter (fun k => decide (floor ≤ cnt2 L a k))).map (nearOf L a)
theorem nearL_snoc (L : List (List ByteArray)) (a : ByteArray) (floor : Int) (ks : List ByteArray) (k : ByteArray) : nearL L a floor (ks ++ [k]) = nearL L a floor ks ++ (if floor ≤ cnt2 L a k then [nearOf L a k] else []) := by
  unfold nearL
  rw [List.filter_append, List.map_append]
  congr 1
  by_cases h : floor ≤ cnt2 L a k <;> simp [h]
theorem nearL_len (L : List (List ByteArray)) (a : ByteArray) (floor : Int) (ks : List ByteArray) : (nearL L a floor ks).length ≤ ks.length := by
  unfold nearL
  rw [List.length_map]
  exact List.length_filter_le _ _
theorem nearOf_ok (L : List (List ByteArray)) (a k : ByteArray) (hL : (L.length : Int) ≤ 100000) : NearOk (nearOf L a k) := by
  have h1 := likeNum_bd L a k hL
  have h2 := likeDen_bd L a k hL
  exact ⟨h1.1, h1.2, h2.1, h2.2⟩
theorem nearL_ok {L : List (List ByteArray)} {a : ByteArray} {floor : Int} {ks : List ByteArray} (hL : (L.length : Int) ≤ 100000) : ∀ r ∈ nearL L a floor ks, NearOk r := by
  intro r hr
  unfold nearL at hr
  obtain ⟨k, _, rfl⟩ := List.mem_map.1 hr
  exact nearOf_ok L a k hL
theorem nearL_items {L : List (List ByteArray)} {a : ByteArray} {floor : Int} {ks : List ByteArray} (h : ks.Nodup) : ((nearL L a floor ks).map (·.item)).Nodup := by
  unfold nearL
  rw [List.map_map]
  have : ((fun r : NearV => r.item) ∘ nearOf L a) = id := rfl
  rw [this, List.map_id]
  exact h.sublist List.filter_sublist
theorem near_infoK : (Try.prog.info? 45).map (fun i => (i.zero, i.size, i.bytes)) = some (some (.agg #[.string ByteArray.empty, .int .i64 0, .int .i64 0]), 3, 32) := by kernel_rfl

set_option maxRecDepth 20000 in
set_option maxHeartbeats 2000000 in
theorem near_any (pb : Nat) (F : Nat → Prop) (L : List (List ByteArray)) (a : ByteArray) (floor : Int) (w : World) (h : PRd w pb F L) (hok : a.size ≤ maxLen) (hL : (L.length : Int) ≤ 100000) (hLf : (L.flatten.length : Int) ≤ 100000) :
    Calls Try.prog 32 #[.pointer (some ⟨pb, 0, none⟩), .string a, .int .i64 floor] w fun e w' => ∃ A c ks rs, e = .returned (.slice A (List.length rs) c) ∧ KeysK L a ks ∧ rs = nearL L a floor ks ∧ (∀ k ∈ ks, k.size ≤ maxLen) ∧ w'.ownsRow w.heap.size 45 3 (.slice A rs.length c) rs.length (rs.flatMap nearEnc) ∧ Below w.heap.size w w' := by
  have HP := Lib.hid h
  have H1 := Lib.hid (pnear_any pb F L a w h hok hLf)
  clear h
  go_enter Try.func32, Try.ntmps32
  go_wp2_with fail
  refine Calls.mono H1.out ?_
  rintro e w1 ⟨A1, c1, ks, rfl, hks, hst, hsz, hb1⟩
  have hkl : (ks.length : Int) ≤ 100000 := by have := hks.len; omega
  have HKS := Lib.hid hks
  have HST := Lib.hid hst
  have HSZ := Lib.hid hsz
  have HP1 := Lib.hid ((PRd.own pb L).below HP.out hb1)
  clear hks hst hsz H1
  go_wp2_with fail
  go_loopg [7, 14] ks.length (fun rest s i wr => ∃ (k : Nat) (A : Option Addr) (c : Nat) (rs : List NearV), i = .int .i64 k ∧ Hid (k + rest = ks.length) ∧ s = .slice A rs.length c ∧ Hid (rs = nearL L a floor (ks.take k)) ∧ wr.ownsRow w1.heap.size 45 3 (.slice A rs.length c) rs.length (rs.flatMap nearEnc) ∧ Below w1.heap.size w1 wr)
  case atStart => exact ⟨0, none, 0, [], rfl, Lib.hid (by simp), rfl, Lib.hid (by simp [nearL]), World.ownsRow_nil _ _ _ _, Below.refl _ _⟩
  case round =>
    obtain ⟨k, A, c, rs, rfl, HK, rfl, HR, hown, hb⟩ := hrel
    have hz := hb.size
    have hrl : (rs.length : Int) ≤ (k : Int) := by
      have h1 := nearL_len L a floor (ks.take k)
      have h2 := List.length_take_le k ks
      rw [HR.out]
      omega
    by_cases hk : (k : Int) < (ks.length : Int)
    · have hkl' : k < ks.length := by omega
      obtain ⟨b0, o0, rfl, hbl, hcell, hs0⟩ := (HST.out.below hb).one hkl'
      have hsn := nearL_snoc L a floor (ks.take k) ks[k]
      rw [← List.take_succ_eq_append_getElem hkl', ← HR.out] at hsn
      have hxs := HSZ.out _ (List.getElem_mem hkl')
      generalize ks[k] = x at *
      have q1 := count_get pb F L a x wr ((PRd.own pb L).below HP1.out hb) hok hxs
      have q2 := like_any pb F L a x wr ((PRd.own pb L).below HP1.out hb) hok hxs hL
      unfold nearOf at hsn
      generalize likeNum L a x = n at *
      generalize likeDen L a x = d at *
      generalize cnt2 L a x = t at *
      have Q1 := Lib.hid q1
      have Q2 := Lib.hid q2
      clear q1 q2
      by_cases hfl : floor ≤ t
      · rw [if_pos hfl] at hsn
        have HSN := Lib.hid hsn
        clear hsn
        go_wp2_with fail
        refine Q1.out.mono ?_
        rintro e w2 ⟨rfl, rfl⟩
        go_wp2_with fail
        refine Q2.out.mono ?_
        rintro e w3 ⟨rfl, hb3⟩
        have hb13 : Below w1.heap.size w1 w3 := hb.trans (hb3.mono hz)
        have hown3 : w3.ownsRow w1.heap.size 45 3 (.slice A rs.length c) rs.length (rs.flatMap nearEnc) := (Keeps.ofBelow hb3 (fun _ => False)).own hown (fun _ _ h => h)
        have hz3 := hb13.size
        clear hown hcell
        go_wp2_with (at_builtin; refine wpList_append_one w3 rfl _ _ _ rfl w1.heap.size 45 (.agg #[.string ByteArray.empty, .int .i64 0, .int .i64 0]) 3 32 Try.underlying41 near_infoK rfl (by decide) A rs.length c _ rfl hown3 [.string x, .int .i64 n, .int .i64 d] rfl rfl (by intro u hu; simp at hu; rcases hu with rfl | rfl | rfl <;> rfl) (by omega) (by unfold maxLen; omega) hz3 ?_; intro A5 c5 w5 hown5 hg5 hb5)
        have hb6 : Below w1.heap.size w1 w5 := hb13.trans hb5
        have hl5 : (rs ++ [(⟨x, n, d⟩ : NearV)]).length = rs.length + 1 := by simp
        have HO5 : Hid (w5.ownsRow w1.heap.size 45 3 (.slice A5 (rs ++ [(⟨x, n, d⟩ : NearV)]).length c5) (rs ++ [(⟨x, n, d⟩ : NearV)]).length ((rs ++ [(⟨x, n, d⟩ : NearV)]).flatMap nearEnc)) := Lib.hid (by
          rw [hl5, List.flatMap_append]
          exact hown5)
        clear hown5 hg5 hb5 hown3
        go_wp2
        go_roundg (gk - 1)
        case measure => have := HK.out; omega
        case rel => exact ⟨k + 1, A5, c5, rs ++ [⟨x, n, d⟩], by go_num, Lib.hid (by have := HK.out; omega), by rw [hl5], Lib.hid HSN.out.symm, HO5.out, hb6⟩
      · rw [if_neg hfl, List.append_nil] at hsn
        have HSN := Lib.hid hsn
        clear hsn
        go_wp2_with fail
        refine Q1.out.mono ?_
        rintro e w2 ⟨rfl, rfl⟩
        go_wp2
        go_roundg (gk - 1)
        case measure => have := HK.out; omega
        case rel => exact ⟨k + 1, A, c, rs, by go_num, Lib.hid (by have := HK.out; omega), rfl, Lib.hid HSN.out.symm, hown, hb⟩
    · have hk' : k = ks.length := by have := HK.out; omega
      have hr := HR.out
      rw [hk', List.take_length] at hr
      have HRR := Lib.hid hr
      clear hr
      go_wp2
      go_ret
      exact ⟨A, c, ks, rs, rfl, HKS.out, HRR.out, HSZ.out, own_base hown hb1.size, hb1.trans (hb.mono hb1.size)⟩

theorem flat_take3K {α : Type} (f : α → List Value) (hf : ∀ a, (f a).length = 3) (l : List α) (m : Nat) : (l.flatMap f).take (m * 3) = (l.take m).flatMap f := by
  induction l generalizing m with
  | nil => simp
  | cons a l ih =>
    cases m with
    | zero => simp
    | succ m =>
      rw [List.flatMap_cons, List.take_succ_cons, List.flatMap_cons, List.take_append, hf a, show (m + 1) * 3 - 3 = m * 3 by omega, ih]
      rw [List.take_of_length_le (by rw [hf a]; omega)]
theorem own_capK {w : World} {base size : Nat} {e : TypeId} {A : Option Addr} {n c : Nat} {xs : List Value} (h : w.ownsRow base e size (.slice A n c) n xs) : n ≤ c := by
  rcases h.2 with ⟨h0, h1⟩ | ⟨g, cap, cur, hv, _, _, hle, _⟩
  · injection h0 with e1 e2 e3
    omega
  · injection hv with e1 e2 e3
    subst e1 e3
    exact hle
theorem clone_near (A : Option Addr) (B n c : Nat) (l : List NearV) (w : World) (hr : Reads w B 3 A n (l.flatMap nearEnc)) (hl : (n : Int) ≤ 1048576) :
    Calls Try.prog 47 #[.slice A n c] w fun e w' => ∃ A' c', e = .returned (.slice A' n c') ∧ w'.ownsRow w.heap.size 45 3 (.slice A' n c') n (l.flatMap nearEnc) ∧ Below w.heap.size w w' := by
  have := clone_all (P := Try.prog) Try.cloneN (z := .agg #[.string ByteArray.empty, .int .i64 0, .int .i64 0]) (size := 3) (bytes := 32) (by kernel_rfl) rfl (by omega) (fun w => by kernel_rfl) A B n c (l.flatMap nearEnc) w hr (by unfold maxLen; omega) (by omega) (by
    intro u hu
    obtain ⟨r, _, hr⟩ := List.mem_flatMap.1 hu
    simp [nearEnc] at hr
    rcases hr with rfl | rfl | rfl <;> rfl)
  exact this
def topN (n : Int) (k : Nat) : Nat := (min (max n 0) (k : Int)).toNat
theorem topN_le (n : Int) (k : Nat) : topN n k ≤ k := by unfold topN; omega

def FirstNew (base : Nat) (rs : List NearV) (n : Int) (w : World) (e : Ending) (w' : World) : Prop :=
  ∃ A' c' ms, e = .returned (.slice A' (topN n rs.length) c') ∧ rs.Perm ms ∧ ms.Pairwise (fun x y => nearLt x y = true) ∧ w'.ownsRow base 45 3 (.slice A' (topN n rs.length) c') (topN n rs.length) ((ms.take (topN n rs.length)).flatMap nearEnc) ∧ Keeps (fun j => base ≤ j) w w'

set_option maxRecDepth 20000 in
set_option maxHeartbeats 1000000 in
theorem first_any (base : Nat) (A : Option Addr) (c : Nat) (rs : List NearV) (n : Int) (w : World) (hok : ∀ r ∈ rs, NearOk r) (hnd : (rs.map (·.item)).Nodup) (hown : w.ownsRow base 45 3 (.slice A rs.length c) rs.length (rs.flatMap nearEnc)) (hbase : base ≤ w.heap.size) (hsz : (rs.length : Int) ≤ 1000000) (hn : n ≤ 9223372036854775807) :
    Calls Try.prog 34 #[.slice A rs.length c, .int .i64 n] w (FirstNew base rs n w) := by
  have q1 := nsort_any base A c rs w hok hnd hown (by omega)
  have hcap := own_capK hown
  have hbl := fun j (hj : (Value.slice A rs.length c).ownBlock = some j) => (hown.lt j hj).1
  have Q1 := Lib.hid q1
  have HB := Lib.hid hbl
  clear q1 hown hok hnd hbl
  go_enter Try.func34, Try.ntmps34
  go_wp2_with fail
  refine Calls.mono Q1.out ?_
  rintro e w1 ⟨rfl, ms, hp, hs, ho, hk⟩
  have hat : Reads w1 w1.heap.size 3 A rs.length (ms.flatMap nearEnc) := Reads.of_own ho
  have hrd : Reads w1 w1.heap.size 3 A (topN n rs.length) ((ms.take (topN n rs.length)).flatMap nearEnc) := by
    have := Reads.take hat (topN_le n rs.length)
    rw [flat_take3K nearEnc (fun _ => rfl)] at this
    exact this
  have hq := clone_near A w1.heap.size (topN n rs.length) c (ms.take (topN n rs.length)) w1 hrd (by have := topN_le n rs.length; omega)
  have hz := hk.size
  have hkk : Keeps (fun j => base ≤ j) w w1 := hk.mono (fun j _ hj => HB.out j hj)
  have fin : ∀ A' c' w', w'.ownsRow w1.heap.size 45 3 (.slice A' (topN n rs.length) c') (topN n rs.length) ((ms.take (topN n rs.length)).flatMap nearEnc) → Below w1.heap.size w1 w' →
      FirstNew base rs n w (.returned (.slice A' (topN n rs.length) c')) w' :=
    fun A' c' w' h1 h2 => ⟨A', c', ms, rfl, hp, hs, own_base h1 (by omega), hkk.trans (Keeps.ofBelow h2 (fun j => base ≤ j)) (fun _ _ h => h)⟩
  have HQ := Lib.hid hq
  have FIN := Lib.hid fin
  clear hq hrd hat hp hs ho hk hkk fin
  unfold topN at HQ FIN
  generalize rs.length = m at *
  go_wp2_with fail
  refine Calls.mono HQ.out ?_
  rintro e w2 ⟨A2, c2, rfl, ho2, hb2⟩
  go_wp2
  refine bodyPost_ret (results_tmp rfl _ _ _) rfl ?_
  exact FIN.out A2 c2 _ ho2 hb2

/-- What is near, in order: the first of it. -/
def NearTop (L : List (List ByteArray)) (a : ByteArray) (floor : Int) (ms : List NearV) : Prop := ∃ ks, KeysK L a ks ∧ (nearL L a floor ks).Perm ms ∧ ms.Pairwise (fun x y => nearLt x y = true)

set_option maxHeartbeats 1000000 in
theorem ktop_any (pb : Nat) (F : Nat → Prop) (L : List (List ByteArray)) (a : ByteArray) (n floor : Int) (w : World) (h : PRd w pb F L) (hok : a.size ≤ maxLen) (hL : (L.length : Int) ≤ 100000) (hLf : (L.flatten.length : Int) ≤ 100000) (hn : n ≤ 9223372036854775807) :
    Calls Try.prog 20 #[.pointer (some ⟨pb, 0, none⟩), .string a, .int .i64 n, .int .i64 floor] w fun e w' => ∃ A c ms, e = .returned (.slice A (topN n (List.length ms)) c) ∧ NearTop L a floor ms ∧ w'.ownsRow w.heap.size 45 3 (.slice A (topN n ms.length) c) (topN n ms.length) ((ms.take (topN n ms.length)).flatMap nearEnc) ∧ Below w.heap.size w w' := by
  have H1 := Lib.hid (near_any pb F L a floor w h hok hL hLf)
  clear h
  go_enter Try.func20, Try.ntmps20
  go_wp2_with fail
  refine Calls.mono H1.out ?_
  rintro e w1 ⟨A, c, ks, rs, rfl, hk, hr, hsz, ho, hb⟩
  have hnd : ks.Nodup := hk.1.imp (fun {x y} h e => by subst e; rw [sLt_irrefl] at h; cases h)
  have hlen : (rs.length : Int) ≤ 1000000 := by
    have h1 := nearL_len L a floor ks
    have h2 := hk.len
    rw [hr]; omega
  have H2 := Lib.hid (first_any w.heap.size A c rs n w1 (by rw [hr]; exact nearL_ok hL) (by rw [hr]; exact nearL_items hnd) ho hb.size hlen hn)
  have HK := Lib.hid hk
  have HR := Lib.hid hr
  clear hk hr hsz ho hnd
  go_wp2_with fail
  refine Calls.mono H2.out ?_
  rintro e w2 ⟨A2, c2, ms, rfl, hp, hs, ho2, hk2⟩
  have hle := hp.length_eq
  have hNT : NearTop L a floor ms := ⟨ks, HK.out, by rw [← HR.out]; exact hp, hs⟩
  have HNT := Lib.hid hNT
  have HO := Lib.hid ho2
  have HLE := Lib.hid hle
  have hb2 : Below w.heap.size w w2 := hb.trans (hk2.toBelow hb.size (fun _ h => h))
  clear hNT ho2 hp hs hle hk2
  go_wp2
  go_ret
  exact ⟨A2, c2, ms, by rw [← HLE.out]; rfl, HNT.out, by rw [← HLE.out]; exact HO.out, hb2⟩
end Go.Proofs.Ytbmkejiijkbmlaa
