/- Contract of Encode. -/
import Derived.Test.YtcladmcbhnmhiaaDdG
namespace Go.Proofs.Ytcladmcbhnmhiaa
open Go.ChangeShapes Go.WideShapes Go.ChangeAt Go.RowKit Go.Shelf Go.Lib Go.Sort Go.Proofs
set_option linter.unusedVariables false
set_option linter.unusedSimpArgs false

def encR : Int → List Rg → List UInt8
  | _, [] => []
  | e, r :: R => numB (r.1 - e).toNat ++ numB (r.2 - r.1).toNat ++ encR r.2 R
def encS (F : RowsF) (k : ByteArray) : List UInt8 := UInt8.ofNat k.size :: k.data.toList ++ numB (F k).length ++ encR 1 (F k)
def encF (F : RowsF) (ks : List ByteArray) : List UInt8 := numB ks.length ++ ks.flatMap (encS F)
theorem KeysF.unique {F : RowsF} {ks ks' : List ByteArray} (h : KeysF F ks) (h' : KeysF F ks') : ks = ks' := by
  refine List.Perm.eq_of_pairwise (le := fun a b => sLt a b = true) ?_ h.1 h'.1 ?_
  · intro a b _ _ h1 h2
    rw [sLt_asymm h1] at h2
    cases h2
  · refine (List.perm_ext_iff_of_nodup ?_ ?_).2 (fun k => by rw [h.2, h'.2])
    · exact h.1.imp (fun {x y} h e => by subst e; rw [sLt_irrefl] at h; cases h)
    · exact h'.1.imp (fun {x y} h e => by subst e; rw [sLt_irrefl] at h; cases h)
/-- What may be put to bytes. -/
structure EncOk (F : RowsF) (ks : List ByteArray) : Prop where
  keys : KeysF F ks
  n : (ks.length : Int) ≤ 100000
  key : ∀ k ∈ ks, k.size ≤ 24
  top : ∀ k, ∀ r ∈ F k, r.2 ≤ 1099511627777
  len : ∀ k, (F k).length < 900000
  all : (encF F ks).length < 1000000000
def EncNew (w : World) (bs : List UInt8) (e : Ending) (w' : World) : Prop := ∃ A c, e = .returned (.slice A (List.length bs) c) ∧ ByRow w' w.heap.size A c bs ∧ Below w.heap.size w w'
theorem ByRow.own_ge {w : World} {base : Nat} {A : Option Addr} {c : Nat} {l : List UInt8} (h : ByRow w base A c l) : ∀ k, (Value.slice A l.length c).ownBlock = some k → base ≤ k ∧ k < w.heap.size := h.lt

set_option maxHeartbeats 16000000 in
set_option maxRecDepth 100000 in
theorem encode_any (sb : Nat) (G : Nat → Prop) (F : RowsF) (ks : List ByteArray) (w : World) (h : SetObj w sb G F) (hE : EncOk F ks) :
    Calls Try.prog 25 #[.pointer (some ⟨sb, 0, none⟩)] w (EncNew w (encF F ks)) := by
  have HOB := Lib.hid h
  have HE := Lib.hid hE
  obtain ⟨mb, D, hD, hG⟩ := h
  have c1 := hD.cells
  have hperm : (D.map (·.1)).Perm ks := by
    refine (List.perm_ext_iff_of_nodup hD.mp.nodup (hE.keys.1.imp (fun {x y} h e => by subst e; rw [sLt_irrefl] at h; cases h))).2 (fun k => ?_)
    rw [hE.keys.2 k, List.mem_map]
    constructor
    · rintro ⟨p, hp, rfl⟩
      exact (hD.rows p hp).2
    · intro hk
      cases hm : mget D k with
      | none => exact absurd (hD.no k hm) hk
      | some s => exact ⟨(k, s), mget_some_mem hm, rfl⟩
  have hDl : D.length = ks.length := by have := hperm.length_eq; simpa using this
  have hn := hE.n
  have hlen := hD.mp.len (P := Try.prog) Try.underlying64 (ty := 3)
  rw [hDl] at hlen
  have hp0 := putNumber_any w.heap.size none 0 [] ks.length w (World.ownsRow_nil w _ _ _) (by simp) (by omega) (Nat.le_refl _)
  have HP0 := Lib.hid hp0
  have HD := Lib.hid hD
  clear hp0 hD hG hperm hDl hE
  go_enter Try.func25, Try.ntmps25
  go_wp2_with fail
  refine Calls.mono HP0.out ?_
  rintro e w1 ⟨A1, k1, rfl, hr1, hg1⟩
  rw [List.nil_append] at hr1 hg1 ⊢
  obtain ⟨l1, hl1⟩ : ∃ l1, l1 = numB ks.length := ⟨_, rfl⟩
  rw [← hl1] at hr1 hg1 ⊢
  have hL1 := Lib.hid hl1
  clear hl1
  have hb1 : Below w.heap.size w w1 := hg1.below (Nat.le_refl _) (fun k e => by cases e)
  have hob1 := (SetObj.own sb F).below HOB.out hb1
  have q2 := sources_any sb G F w1 hob1 (fun ks' hk => by rw [hk.unique HE.out.keys]; omega)
  have Q2 := Lib.hid q2
  have HR1 := Lib.hid hr1
  have HB1 := Lib.hid hb1
  clear q2 hob1 hr1 hg1 hb1 hlen
  go_wp2_with fail
  refine Calls.mono Q2.out ?_
  rintro e w2 ⟨A2, k2, ks2, rfl, hk2, ⟨hst2, hso2⟩, hb2⟩
  obtain rfl := hk2.unique HE.out.keys
  clear hk2 hst2 Q2
  have hB2 : Below w.heap.size w w2 := HB1.out.trans (hb2.mono HB1.out.size)
  have hr2 : ByRow w2 w.heap.size A1 k1 l1 := (Keeps.ofBelow hb2 (fun _ => False)).own HR1.out (fun _ _ e => e)
  obtain ⟨O1, hO1⟩ : ∃ O1, O1 = (Value.slice A1 l1.length k1).ownBlock := ⟨_, rfl⟩
  have hO1r : ∀ k, O1 = some k → w.heap.size ≤ k ∧ k < w1.heap.size := fun k e => HR1.out.own_ge k (hO1 ▸ e)
  have HO1 := Lib.hid hO1r
  have HSO := Lib.hid hso2
  have HB2 := Lib.hid hB2
  have HO1E := Lib.hid hO1
  have HR2 := Lib.hid hr2
  clear hO1r hso2 hB2 hO1 hr2 hb2 HR1
  go_wp2_with fail
  (try go_frame)
  go_loopg [3, 19] ks2.length (fun rest s3 s19 wr => ∃ (i : Nat) (A3 : Option Addr) (k3 : Nat) (l3 : List UInt8), s19 = .int .i64 i ∧ s3 = .slice A3 l3.length k3 ∧ Hid (i + rest = ks2.length) ∧ (i : Int) ≤ 100000 ∧ Hid (l3 ++ (ks2.drop i).flatMap (encS F) = encF F ks2) ∧ Hid (ByRow wr w.heap.size A3 k3 l3) ∧ Hid (Grows w2 O1 wr (Value.slice A3 l3.length k3).ownBlock))
  case atStart => exact ⟨0, A1, k1, l1, rfl, rfl, Lib.hid (by simp), by omega, Lib.hid (by rw [hL1.out]; rfl), HR2, Lib.hid (by rw [HO1E.out]; exact Grows.refl _ _)⟩
  case round =>
    obtain ⟨i, A3, k3, l3, rfl, rfl, HI, hi0, HEQ, HR3, HG3⟩ := hrel
    have hlen3 : l3.length < 1000000000 := by
      have h1 := HE.out.all
      rw [← HEQ.out, List.length_append] at h1
      omega
    have hW3 : w.heap.size ≤ wr.heap.size := Nat.le_trans HB2.out.size HG3.out.1.size
    by_cases hi : (i : Int) < (ks2.length : Int)
    · have hil : i < ks2.length := by omega
      have hso3 : wr.ownsRow w1.heap.size 9 1 (.slice A2 ks2.length k2) ks2.length (ks2.map Value.string) := HG3.out.keeps.own HSO.out (fun k e1 e2 => by
        have h1 := (HO1.out k e2.symm).2
        have h2 := (HSO.out.lt k e1).1
        omega)
      have hst3 : StrsAt wr wr.heap.size A2 ks2 := StrsAt.of_own hso3 (fun k hk => by have := HE.out.key k hk; unfold maxLen; omega)
      obtain ⟨b, o, rfl, hbl, e1, s1⟩ := hst3.one hil
      have hkm := List.getElem_mem hil
      have hk24 := HE.out.key _ hkm
      have hdrop : (ks2.drop i).flatMap (encS F) = encS F ks2[i] ++ (ks2.drop (i + 1)).flatMap (encS F) := by rw [List.drop_eq_getElem_cons hil, List.flatMap_cons]
      have hne := (HE.out.keys.2 _).1 hkm
      have HDR := Lib.hid hdrop
      have HST3 := Lib.hid hso3
      clear hdrop hkm hst3 hso3
      generalize ks2[i] = key at *
      have hEq : l3 ++ (encS F key ++ (ks2.drop (i + 1)).flatMap (encS F)) = encF F ks2 := by rw [← HDR.out]; exact HEQ.out
      have hTot : l3.length + (1 + key.size + (numB (F key).length).length + (encR 1 (F key)).length) < 1000000000 := by
        have h1 := HE.out.all
        rw [← hEq] at h1
        simp only [encS, List.length_append, List.length_cons] at h1
        have h2 : key.data.toList.length = key.size := by rw [Array.length_toList]; rfl
        omega
      have HEQ2 := Lib.hid hEq
      clear hEq
      have hk256 : (key.size : Int) % 256 = (key.size : Int) := by omega
      generalize gk = g1 at *
      generalize wr = w3 at *
      go_upto_region 6 with (at_builtin; refine wpList_append_cellG w3 rfl _ _ _ rfl w.heap.size 5 (.int .u8 0) 1 Try.underlying52 u8_info rfl A3 l3.length k3 _ rfl HR3.out _ rfl rfl (by omega) (by unfold maxLen; omega) hW3 ?_; intro A5 c5 w5 hown5 hg5)
      have hu8 : ((UInt8.ofNat key.size).toNat : Int) = (key.size : Int) := by
        have : (UInt8.ofNat key.size).toNat = key.size := by simp; omega
        rw [this]
      obtain ⟨g5, cap5, hv5, -, -⟩ := hown5.form (by omega)
      injection hv5 with e5 e5n e5c
      subst e5
      clear e5n e5c
      have hW5 : w.heap.size ≤ w5.heap.size := Nat.le_trans hW3 hg5.1.size
      have HG5 := Lib.hid (HG3.out.trans hg5)
      clear hg5
      go_upto_region 7 with (at_builtin; refine wpList_append_strG w5 rfl _ _ rfl w.heap.size g5 (l3.length + 1) c5 _ rfl hown5 key rfl (by omega) hW5 ?_; intro A6 c6 w6 hown6 hg6)
      obtain ⟨l6, hl6⟩ : ∃ l6, l6 = l3 ++ (UInt8.ofNat key.size :: key.data.toList) := ⟨_, rfl⟩
      have hds : key.data.toList.length = key.size := by rw [Array.length_toList]; rfl
      have hl6n : l6.length = l3.length + 1 + key.size := by rw [hl6, List.length_append, List.length_cons, hds]; omega
      have hr6 : ByRow w6 w.heap.size A6 c6 l6 := by
        unfold ByRow
        rw [hl6n]
        have e : byC l6 = byC l3 ++ [.int .u8 (key.size : Int)] ++ byC key.data.toList := by
          rw [hl6, byC_append, List.append_assoc]
          congr 1
          show Value.int .u8 ((UInt8.ofNat key.size).toNat : Int) :: byC key.data.toList = _
          rw [hu8]
          rfl
        rw [e]
        exact hown6
      rw [← hl6n] at hg6 ⊢
      have HG6 := Lib.hid (HG5.out.trans hg6)
      have hW6 : w.heap.size ≤ w6.heap.size := Nat.le_trans hW5 hg6.1.size
      have HL6 := Lib.hid hl6
      clear hown6 hown5 hg6 HG5 hl6 HST3 HR3 HG3 hu8 hds
      have hBB := fun W v (hg : Grows w2 O1 W v) => HB2.out.trans (hg.below HB2.out.size (fun k e => (HO1.out k e).1))
      have HBB := Lib.hid hBB
      clear hBB
      have hB6 := HBB.out _ _ HG6.out
      have hD6 : SetAt w6 sb mb D F := HD.out.keep (Keeps.ofBelow hB6 (fun _ => False)) (fun _ _ e => e)
      have hc6 := hD6.cells
      have hlo := look_rows hD6.mp (key := key) (by unfold maxLen; omega)
      obtain ⟨A7, c7, hv7, hown7, -⟩ := HD.out.row key
      rw [hv7] at hlo
      have hrd7 := own_reads hown7
      have hok7 := hD6.ok key
      have htop := HE.out.top key
      have hRl := HE.out.len key
      have HTOP := Lib.hid htop
      have HOK := Lib.hid hok7
      have HRD := Lib.hid hrd7
      clear hv7 hown7 hD6 hB6 hok7 htop hrd7
      have hEq6 : l6 ++ (numB (F key).length ++ (encR 1 (F key) ++ (ks2.drop (i + 1)).flatMap (encS F))) = encF F ks2 := by
        rw [← HEQ2.out, HL6.out]
        simp [encS, List.append_assoc]
      have HEQ6 := Lib.hid hEq6
      clear hEq6
      obtain ⟨REST, hREST⟩ : ∃ X, X = (ks2.drop (i + 1)).flatMap (encS F) := ⟨_, rfl⟩
      rw [← hREST] at HEQ6
      have HREST := Lib.hid hREST
      clear hREST
      have hp8 := putNumber_any w.heap.size A6 c6 l6 (F key).length w6 hr6 (by omega) (by omega) hW6
      have HP8 := Lib.hid hp8
      clear hp8
      generalize F key = R at *
      have HTOT := Lib.hid (And.intro hTot hl6n)
      clear hTot hl6n hk256 hk24
      go_wp2_with fail
      refine Calls.mono HP8.out ?_
      rintro e w8 ⟨A8, k8, rfl, hr8, hg8⟩
      obtain ⟨l8, hl8⟩ : ∃ l8, l8 = l6 ++ numB R.length := ⟨_, rfl⟩
      rw [← hl8] at hr8 hg8 ⊢
      have HG8 := Lib.hid (HG6.out.trans hg8)
      have hEq8 : l8 ++ (encR 1 R ++ REST) = encF F ks2 := by rw [← HEQ6.out, hl8, List.append_assoc]
      have hl8n : l8.length = l6.length + (numB R.length).length := by rw [hl8, List.length_append]
      have hw68 : Below w.heap.size w w6 := HBB.out _ _ HG6.out
      have hkeep : ∀ W v, Grows w2 O1 W v → Reads W w.heap.size 2 A7 R.length (rgsCells R) := fun W v hg => HRD.out.below (HBB.out W v hg)
      have HEQ8 := Lib.hid hEq8
      have HR8 := Lib.hid hr8
      have HKP := Lib.hid hkeep
      have HTOT2 := Lib.hid (show l8.length + (encR 1 R).length < 1000000000 by
        have h1 := HTOT.out.1
        have h2 := HTOT.out.2
        omega)
      clear hEq8 hr8 hg8 hl8 hl8n hw68 hkeep HP8 HEQ6 HTOT HL6 HRD hlo hc6
      go_wp2_with fail
      (try go_frame)
      go_loopg [3, 7, 44] R.length (fun rest s3 s7 s44 wx => ∃ (j : Nat) (A9 : Option Addr) (k9 : Nat) (l9 : List UInt8) (e9 : Int), s44 = .int .i64 j ∧ s3 = .slice A9 l9.length k9 ∧ s7 = .int .i64 e9 ∧ Hid (j + rest = R.length) ∧ (j : Int) ≤ 900000 ∧ Hid (l9 ++ (encR e9 (R.drop j) ++ REST) = encF F ks2) ∧ Hid (ByRow wx w.heap.size A9 k9 l9) ∧ Hid (Grows w2 O1 wx (Value.slice A9 l9.length k9).ownBlock) ∧ Hid (RowOk (e9 - 1) (R.drop j)) ∧ 0 ≤ e9 ∧ e9 ≤ 1099511627777)
      case atStart => exact ⟨0, A8, k8, l8, 1, rfl, rfl, rfl, Lib.hid (by simp), by omega, HEQ8, HR8, HG8, HOK, by omega, by omega⟩
      case round =>
        obtain ⟨j, A9, k9, l9, e9, rfl, rfl, rfl, HJ, hj0, HEQ9, HR9, HG9, HOK9, he0, he1⟩ := hrel
        have hW9 : w.heap.size ≤ wr.heap.size := Nat.le_trans HB2.out.size HG9.out.1.size
        by_cases hj : (j : Int) < (R.length : Int)
        · have hjl : j < R.length := by omega
          have hll := HEQ9.out
          obtain ⟨b9, o9, rfl, hb9, hc9⟩ := (HKP.out _ _ HG9.out).2 (by omega)
          obtain ⟨x1, x2⟩ := rgsCells_at hjl
          have y1 := hc9 _ _ x1
          have y2 := hc9 _ _ x2
          rw [← Nat.add_assoc] at y2
          have hdj := List.drop_eq_getElem_cons hjl
          have hok9 := HOK9.out
          rw [hdj] at hok9 hll
          have ht9 := HTOP.out R[j] (List.getElem_mem hjl)
          have HDJ := Lib.hid hdj
          clear hc9 x1 x2 hdj
          generalize hRj : R[j] = rj at *
          clear hRj
          obtain ⟨f, t⟩ := rj
          obtain ⟨k1', k2', k3'⟩ := hok9
          simp only at y1 y2 k1' k2' k3' ht9
          have hEq9 : l9 ++ numB (f - e9).toNat ++ (numB (t - f).toNat ++ (encR t (R.drop (j + 1)) ++ REST)) = encF F ks2 := by
            rw [← hll]
            simp [encR, List.append_assoc]
          have hl9 : l9.length + (numB (f - e9).toNat).length < 1000000000 := by
            have h1 := HE.out.all
            rw [← hEq9] at h1
            simp only [List.length_append] at h1
            omega
          have HEQ10 := Lib.hid hEq9
          clear hEq9 hll
          have hcast1 : ((f - e9).toNat : Int) = f - e9 := by omega
          have hcast2 : ((t - f).toNat : Int) = t - f := by omega
          obtain ⟨W9, hW9e⟩ : ∃ W9, W9 = wr.alloc (.cells #[.int .i64 f, .int .i64 t] 42) := ⟨_, rfl⟩
          have hr10 : ByRow W9 w.heap.size A9 k9 l9 := by rw [hW9e]; exact HR9.out.alloc _
          have hp10 := putNumber_any w.heap.size A9 k9 l9 (f - e9).toNat W9 hr10 (by omega) (by omega) (by rw [hW9e]; simp; omega)
          rw [hcast1] at hp10
          have hG10 : Grows w2 O1 W9 (Value.slice A9 l9.length k9).ownBlock := by rw [hW9e]; exact HG9.out.alloc _
          have hbox0 : W9.cell? ⟨wr.heap.size, 0, none⟩ = some (.int .i64 f) := by rw [hW9e]; simp
          have hbox1 : W9.cell? ⟨wr.heap.size, 1, none⟩ = some (.int .i64 t) := by rw [hW9e]; simp
          have hown9 := HR9.out.own_ge
          have hsz9 : wr.heap.size < W9.heap.size := by rw [hW9e]; simp
          have HP10 := Lib.hid hp10
          have HG10 := Lib.hid hG10
          have HBX := Lib.hid (And.intro hbox0 hbox1)
          have HOW := Lib.hid hown9
          have HSZ := Lib.hid hsz9
          clear hp10 hG10 hbox0 hbox1 hown9 hsz9 hr10
          have hws : wrap64 (f - e9) = f - e9 := by unfold wrap64; omega
          have hws2 : wrap64 (t - f) = t - f := by unfold wrap64; omega
          have HL9 := Lib.hid hl9
          have HCS := Lib.hid (And.intro hcast1 hcast2)
          clear hl9 hcast1 hcast2
          generalize gk = g2 at *
          go_wp2_with fail
          rw [← hW9e]
          clear hW9e
          refine Calls.mono HP10.out ?_
          rintro e w11 ⟨A11, k11, rfl, hr11, hg11⟩
          obtain ⟨l11, hl11⟩ : ∃ l11, l11 = l9 ++ numB (f - e9).toNat := ⟨_, rfl⟩
          rw [← hl11] at hr11 hg11 HEQ10 ⊢
          have hl11n : l11.length < 1000000000 := by rw [hl11, List.length_append]; exact HL9.out
          have hbk : ∀ q, w.heap.size ≤ q → ¬ (some wr.heap.size = (Value.slice A9 l9.length k9).ownBlock) := fun _ _ e => by
            have := (HOW.out _ e.symm).2
            omega
          have hbx0 : w11.cell? ⟨wr.heap.size, 0, none⟩ = some (.int .i64 f) := (hg11.keeps.cell (p := ⟨wr.heap.size, 0, none⟩) HSZ.out (hbk _ (Nat.le_refl _))).trans HBX.out.1
          have hbx1 : w11.cell? ⟨wr.heap.size, 1, none⟩ = some (.int .i64 t) := (hg11.keeps.cell (p := ⟨wr.heap.size, 1, none⟩) HSZ.out (hbk _ (Nat.le_refl _))).trans HBX.out.2
          have hG11 := HG10.out.trans hg11
          have hW11 : w.heap.size ≤ w11.heap.size := Nat.le_trans HB2.out.size hG11.1.size
          have hp12 := putNumber_any w.heap.size A11 k11 l11 (t - f).toNat w11 hr11 hl11n (by have := HCS.out.2; omega) hW11
          rw [HCS.out.2] at hp12
          have hsz11 : wr.heap.size < w11.heap.size := Nat.lt_of_lt_of_le HSZ.out hg11.1.size
          have hown11 : ¬ (some wr.heap.size = (Value.slice A11 l11.length k11).ownBlock) := fun e => by
            rcases hg11.2 with h | ⟨q, h, hq⟩
            · exact hbk _ (Nat.le_refl _) (e.trans h)
            · rw [h] at e
              injection e with e
              have := HSZ.out
              omega
          have HP12 := Lib.hid hp12
          have HG11 := Lib.hid hG11
          have HOW11 := Lib.hid hown11
          have HSZ11 := Lib.hid hsz11
          clear hp12 hG11 hbk hr11 hg11 hl11 hl11n hown11 hsz11
          go_wp2_with fail
          refine Calls.mono HP12.out ?_
          rintro e w13 ⟨A13, k13, rfl, hr13, hg13⟩
          obtain ⟨l13, hl13⟩ : ∃ l13, l13 = l11 ++ numB (t - f).toNat := ⟨_, rfl⟩
          rw [← hl13] at hr13 hg13 ⊢
          have hbz1 : w13.cell? ⟨wr.heap.size, 1, none⟩ = some (.int .i64 t) := (hg13.keeps.cell (p := ⟨wr.heap.size, 1, none⟩) HSZ11.out HOW11.out).trans hbx1
          have HG13 := Lib.hid (HG11.out.trans hg13)
          have HR13 := Lib.hid hr13
          have HEQ13 : Hid (l13 ++ (encR t (R.drop (j + 1)) ++ REST) = encF F ks2) := Lib.hid (by rw [hl13, List.append_assoc]; exact HEQ10.out)
          clear hr13 hg13 hl13 hbx0 hbx1 HP12 HP10
          go_wp2_with fail
          go_roundg (g2 - 1)
          case measure => have := HJ.out; omega
          case rel => exact ⟨j + 1, A13, k13, l13, t, by go_num, rfl, rfl, Lib.hid (by have := HJ.out; omega), by have := HJ.out; omega, HEQ13, HR13, HG13, Lib.hid (k3'.mono (by omega)), by omega, ht9⟩
        · have hje : j = R.length := by have := HJ.out; omega
          have hfin : l9 ++ REST = encF F ks2 := by
            have := HEQ9.out
            rw [hje, List.drop_length] at this
            exact this
          have HFI := Lib.hid hfin
          clear hfin
          go_wp2_with fail
          go_roundg (g1 - 1)
          case measure => have := HI.out; omega
          case rel => exact ⟨i + 1, A9, k9, l9, by go_num, rfl, Lib.hid (by have := HI.out; omega), by omega, Lib.hid (by rw [← HREST.out]; exact HFI.out), HR9, HG9⟩
    · have hie : i = ks2.length := by have := HI.out; omega
      have hfin : l3 = encF F ks2 := by
        have := HEQ.out
        rw [hie, List.drop_length] at this
        simpa using this
      have HFI := Lib.hid hfin
      clear hfin
      go_wp2_with fail
      go_ret
      refine ⟨A3, k3, (by rw [← HFI.out]; rfl), ?_, HB2.out.trans (HG3.out.below HB2.out.size (fun k e => (HO1.out k e).1))⟩
      rw [← HFI.out]
      exact HR3.out
end Go.Proofs.Ytcladmcbhnmhiaa
