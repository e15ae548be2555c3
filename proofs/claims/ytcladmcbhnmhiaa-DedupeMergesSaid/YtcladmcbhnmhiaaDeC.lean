/- Contract of the reference's Text. -/
import Derived.Test.YtcladmcbhnmhiaaDeB
namespace Go.Proofs.Ytcladmcbhnmhiaa
open Go.ChangeShapes Go.WideShapes Go.ChangeAt Go.RowKit Go.Shelf Go.Lib Go.Sort Go.Proofs
set_option linter.unusedVariables false
set_option linter.unusedSimpArgs false

def bstr (l : List UInt8) : ByteArray := ⟨l.toArray⟩
theorem bstr_app (a b : List UInt8) : bstr a ++ bstr b = bstr (a ++ b) := by unfold bstr; rw [ByteArray.mk_append_mk]
theorem bstr_size (l : List UInt8) : (bstr l).size = l.length := by unfold bstr; show l.toArray.size = _; simp
theorem bstr_data (k : ByteArray) : bstr k.data.toList = k := by unfold bstr; simp
theorem add_fits {a b : ByteArray} (h : a.size + b.size ≤ 1000000000000) : ¬ 9223372036854775807 < a.size + b.size := by omega
theorem num_str (n : Nat) (hn : (n : Int) ≤ 4398046511103) (w : World) : Calls Try.prog 44 #[.int .i64 n] w (ByNew w (bstr (numB n))) := rnum_any 5 n w (by simp; omega) hn

set_option maxHeartbeats 16000000 in
set_option maxRecDepth 100000 in
theorem text_any (A : Option Addr) (c : Nat) (xs : List SrcD) (F : RowsF) (w : World) (h : SrcsAt w w.heap.size A xs) (hX : RefOk (xs.map plS) F) (hF : ∀ k, RowOk 0 (F k)) (ht : ∀ k, ∀ r ∈ F k, r.2 ≤ 1099511627777)
    (hl : xs.length ≤ 1000) (hll : ∀ s ∈ xs, s.l.length ≤ 1000) (hn : ∀ s ∈ xs, s.name.size ≤ 24) (hall : (encF F (xs.map (·.name))).length < 1000000000) :
    Calls Try.prog 29 #[.slice A xs.length c] w (ByNew w (bstr (encF F (xs.map (·.name))))) := by
  obtain ⟨T, hT⟩ : ∃ T, T = encF F (xs.map (·.name)) := ⟨_, rfl⟩
  have hT0 : numB xs.length ++ ((xs.drop 0).map (·.name)).flatMap (encS F) = T := by rw [hT]; unfold encF; simp
  rw [← hT] at hall ⊢
  clear hT
  have HL := Lib.hid h
  have HX := Lib.hid hX
  have HF := Lib.hid (And.intro hF ht)
  have HLL := Lib.hid (And.intro hll hn)
  have HT0 := Lib.hid hT0
  clear h hX hF ht hll hn hT0
  have hl2 : (xs.length : Int) ≤ 1000 := by omega
  go_enter Try.func29, Try.ntmps29
  go_wp2_with fail
  refine Calls.mono (num_str xs.length (by omega) w) ?_
  rintro e w1 ⟨rfl, hb1⟩
  have HB1 := Lib.hid hb1
  clear hb1
  go_wp2_with fail
  go_loopg [3, 4] xs.length (fun rest s3 s4 wr => ∃ (i : Nat) (pre : List UInt8), s4 = .int .i64 i ∧ s3 = .string (bstr pre) ∧ Hid (i + rest = xs.length) ∧ (i : Int) ≤ 1000 ∧ Hid (pre ++ ((xs.drop i).map (·.name)).flatMap (encS F) = T) ∧ Hid (Below w.heap.size w wr))
  case atStart => exact ⟨0, _, rfl, rfl, Lib.hid (by simp), by omega, HT0, HB1⟩
  case round =>
    obtain ⟨i, pre, rfl, rfl, HI, hi0, HT, HB⟩ := hrel
    by_cases hi : (i : Int) < (xs.length : Int)
    · have hil : i < xs.length := by omega
      have hL := HL.out.below HB.out
      obtain ⟨b, o, rfl, hbl, y1, y2, hso⟩ := hL.one hil
      have hmx := List.getElem_mem hil
      obtain ⟨r1, r2, r3⟩ := HX.out.ranges HF.out.1 (List.mem_map.2 ⟨_, hmx, rfl⟩)
      have hdr : xs.drop i = xs[i] :: xs.drop (i + 1) := List.drop_eq_getElem_cons hil
      have ht2 := HT.out
      rw [hdr, List.map_cons, List.flatMap_cons] at ht2
      have hll := HLL.out.1 _ hmx
      have hnm := HLL.out.2 _ hmx
      have hname : ∀ W, Below w.heap.size w W → W.cell? ⟨b, o + i * 2, none⟩ = some (.string xs[i].name) := fun W hW => by
        obtain ⟨b', o', e, -, z1, -⟩ := (HL.out.below hW).one hil
        injection e with e
        injection e with e1 e2
        subst e1 e2
        exact z1
      have HNM := Lib.hid hname
      have HT2 := Lib.hid ht2
      clear hdr ht2 hmx hname hL
      generalize hsx : xs[i] = s at *
      obtain ⟨name, adr, cp, ls⟩ := s
      simp only [plS] at y1 y2 r1 r2 r3 hll hnm HNM HT2 hso
      have hlb : ∀ n ∈ ls, 1 ≤ n ∧ n ≤ 1099511627776 := fun n hn => by
        have h1 := r3 n hn
        have hm : memR (F name) n := by
          rw [← (HX.out).mem]
          exact ⟨plS ⟨name, adr, cp, ls⟩, List.mem_map.2 ⟨_, by rw [← hsx]; exact List.getElem_mem hil, rfl⟩, rfl, hn⟩
        obtain ⟨r, hr, h2, h3⟩ := hm
        have := HF.out.2 name r hr
        exact ⟨h1, by omega⟩
      have hrg := rranges_any adr cp ls wr (hso.more HB.out.size) (by omega) hlb
      rw [r1] at hrg
      have HRG := Lib.hid hrg
      have hrl : (F name).length ≤ 1000 := by rw [← r1]; exact Nat.le_trans (rangesL_len ls) hll
      have hok := HF.out.1 name
      have htp := HF.out.2 name
      have HOK := Lib.hid (And.intro hok htp)
      clear hrg hlb hso r1 r2 r3 hok htp hsx
      have hesz : encS F name = UInt8.ofNat name.size :: name.data.toList ++ numB (F name).length ++ encR 1 (F name) := rfl
      rw [hesz] at HT2
      clear hesz
      generalize F name = R at *
      go_wp2_with fail
      refine Calls.mono HRG.out ?_
      rintro e w2 ⟨A2, c2, rfl, hown2, hb2⟩
      have hrd := Reads.of_own hown2
      have HRD := Lib.hid hrd
      have hB2 : Below w.heap.size w w2 := HB.out.trans (hb2.mono HB.out.size)
      have HB2 := Lib.hid hB2
      clear hown2 hb2 hrd HRG
      have y3 := HNM.out w2 hB2
      have hKe : Below w2.heap.size w2 w2.drew := (Below.refl _ _).drew
      have hnum := fun W => num_str R.length (by omega) W
      have hnl : (numB R.length).length ≤ 6 := numB_le6 (by omega)
      have htl := congrArg List.length HT2.out
      simp only [List.length_append, List.length_cons] at htl
      obtain ⟨sp, hsp⟩ : ∃ sp, sp = bstr pre := ⟨_, rfl⟩
      obtain ⟨sa, hsa⟩ : ∃ sa, sa = bstr [UInt8.ofNat name.size] := ⟨_, rfl⟩
      obtain ⟨sn, hsn⟩ : ∃ sn, sn = bstr (numB R.length) := ⟨_, rfl⟩
      have z1 : sp.size ≤ 1000000000 := by rw [hsp, bstr_size]; omega
      have z2 : sa.size = 1 := by rw [hsa, bstr_size]; rfl
      have z3 : sn.size ≤ 6 := by rw [hsn, bstr_size]; exact hnl
      obtain ⟨s1, hs1⟩ : ∃ s1, sa ++ name = s1 := ⟨_, rfl⟩
      obtain ⟨s2, hs2⟩ : ∃ s2, s1 ++ sn = s2 := ⟨_, rfl⟩
      obtain ⟨s3, hs3⟩ : ∃ s3, sp ++ s2 = s3 := ⟨_, rfl⟩
      have z4 : s1.size ≤ 25 := by rw [← hs1, ByteArray.size_append]; omega
      have z5 : s2.size ≤ 31 := by rw [← hs2, ByteArray.size_append]; omega
      have f1 := add_fits (a := sa) (b := name) (by omega)
      have f2 := add_fits (a := s1) (b := sn) (by omega)
      have f3 := add_fits (a := sp) (b := s2) (by omega)
      have hs3e : s3 = bstr (pre ++ (UInt8.ofNat name.size :: name.data.toList ++ numB R.length)) := by
        have e1 : bstr [UInt8.ofNat name.size] ++ name = bstr (UInt8.ofNat name.size :: name.data.toList) := by
          conv => lhs; rhs; rw [← bstr_data name]
          rw [bstr_app]
          rfl
        rw [← hs3, ← hs2, ← hs1, hsp, hsa, hsn, e1, bstr_app, bstr_app]
      have HS3 := Lib.hid hs3e
      have HSA := Lib.hid hsa
      rw [← hsn] at hnum
      have HNUM := Lib.hid hnum
      have hv4 : Value.int .u8 (IntKind.u8.wrap (name.size : Int)) = .int .u8 ((UInt8.ofNat name.size).toNat : Int) := by
        have e1 : (UInt8.ofNat name.size).toNat = name.size := by simp; omega
        rw [e1]
        congr 1
        simp [IntKind.wrap, IntKind.bits, IntKind.signed]
        omega
      have HV4 := Lib.hid hv4
      rw [← hsp]
      clear hv4 hs3e hsa hsn hnum hnl htl z1 z2 z3 z4 z5 hsp
      go_wp2_with fail
      refine heldStart 21 (S := fun W => W.cell? ⟨b, o + i * 2, none⟩ = some (.string name)) (by kernel_rfl) ?_ (fun hHeld => ?_)
      · first | exact HNM.out _ (HB2.out.trans (hKe.mono HB2.out.size)) | exact y3
      refine heldTake 0 (v := ?_) (by simp only [List.getElem?_toArray, List.getElem?_cons_succ, List.getElem?_cons_zero]; rfl) (by kernel_rfl) (by intro _ _ _ h; exact h) (by rfl) (by assumption) ?_ ?_
      rotate_left
      · intro W hSw; (try dsimp only at hSw); go_simp; try with_reducible rfl
      simp only [Act.put, List.setIfInBounds_toArray, List.set_cons_zero, List.set_cons_succ]
      refine heldTake 1 (v := ?_) (by simp only [List.getElem?_toArray, List.getElem?_cons_succ, List.getElem?_cons_zero]; rfl) (by kernel_rfl) (by intro _ _ _ h; exact h) (by rfl) (by assumption) ?_ ?_
      rotate_left
      · intro W hSw; (try dsimp only at hSw); go_simp; try with_reducible rfl
      simp only [Act.put, List.setIfInBounds_toArray, List.set_cons_zero, List.set_cons_succ]
      refine heldTake 2 (v := ?_) (by simp only [List.getElem?_toArray, List.getElem?_cons_succ, List.getElem?_cons_zero]; rfl) (by kernel_rfl) (by intro _ _ _ h; exact h) (by rfl) (by assumption) ?_ ?_
      rotate_left
      · intro W hSw; (try dsimp only at hSw); go_simp; try with_reducible rfl
      simp only [Act.put, List.setIfInBounds_toArray, List.set_cons_zero, List.set_cons_succ]
      refine heldTake 3 (v := ?_) (by simp only [List.getElem?_toArray, List.getElem?_cons_succ, List.getElem?_cons_zero]; rfl) (by kernel_rfl) (by intro _ _ _ h; exact h) (by rfl) (by assumption) ?_ ?_
      rotate_left
      · intro W hSw; (try dsimp only at hSw); go_simp; try with_reducible rfl
      simp only [Act.put, List.setIfInBounds_toArray, List.set_cons_zero, List.set_cons_succ]
      refine heldTake 4 (v := ?_) (by simp only [List.getElem?_toArray, List.getElem?_cons_succ, List.getElem?_cons_zero]; rfl) (by kernel_rfl) (by intro _ _ _ h; exact h) (by rfl) (by assumption) ?_ ?_
      rotate_left
      · intro W hSw; (try dsimp only at hSw); go_simp; try with_reducible rfl
      simp only [Act.put, List.setIfInBounds_toArray, List.set_cons_zero, List.set_cons_succ]
      refine heldTake 5 (v := ?_) (by simp only [List.getElem?_toArray, List.getElem?_cons_succ, List.getElem?_cons_zero]; rfl) (by kernel_rfl) (by intro _ _ _ h; exact h) (by rfl) (by assumption) ?_ ?_
      rotate_left
      · intro W hSw; (try dsimp only at hSw); go_simp; try with_reducible rfl
      simp only [Act.put, List.setIfInBounds_toArray, List.set_cons_zero, List.set_cons_succ]
      refine heldTake 6 (v := ?_) (by simp only [List.getElem?_toArray, List.getElem?_cons_succ, List.getElem?_cons_zero]; rfl) (by kernel_rfl) (by intro _ _ _ h; exact h) (by rfl) (by assumption) ?_ ?_
      rotate_left
      · intro W hSw; (try dsimp only at hSw); go_simp; try with_reducible rfl
      simp only [Act.put, List.setIfInBounds_toArray, List.set_cons_zero, List.set_cons_succ]
      refine heldTake 7 (v := ?_) (by simp only [List.getElem?_toArray, List.getElem?_cons_succ, List.getElem?_cons_zero]; rfl) (by kernel_rfl) (by intro _ _ _ h; exact h) (by rfl) (by assumption) ?_ ?_
      rotate_left
      · intro W hSw; (try dsimp only at hSw); go_simp; try with_reducible rfl
      simp only [Act.put, List.setIfInBounds_toArray, List.set_cons_zero, List.set_cons_succ]
      refine heldTake 10 (v := ?_) (by simp only [List.getElem?_toArray, List.getElem?_cons_succ, List.getElem?_cons_zero]; rfl) (by kernel_rfl) (by intro _ _ _ h; exact h) (by rfl) (by assumption) ?_ ?_
      rotate_left
      · intro W hSw; (try dsimp only at hSw); go_simp; try with_reducible rfl
      simp only [Act.put, List.setIfInBounds_toArray, List.set_cons_zero, List.set_cons_succ]
      refine heldTake 11 (v := ?_) (by simp only [List.getElem?_toArray, List.getElem?_cons_succ, List.getElem?_cons_zero]; rfl) (by kernel_rfl) (by intro _ _ _ h; exact h) (by rfl) (by assumption) ?_ ?_
      rotate_left
      · intro W hSw; (try dsimp only at hSw); go_simp; try with_reducible rfl
      simp only [Act.put, List.setIfInBounds_toArray, List.set_cons_zero, List.set_cons_succ]
      refine heldTake 12 (v := ?_) (by simp only [List.getElem?_toArray, List.getElem?_cons_succ, List.getElem?_cons_zero]; rfl) (by kernel_rfl) (by intro _ _ _ h; exact h) (by rfl) (by assumption) ?_ ?_
      rotate_left
      · intro W hSw; (try dsimp only at hSw); go_simp; try with_reducible rfl
      simp only [Act.put, List.setIfInBounds_toArray, List.set_cons_zero, List.set_cons_succ]
      refine heldTake 13 (v := ?_) (by simp only [List.getElem?_toArray, List.getElem?_cons_succ, List.getElem?_cons_zero]; rfl) (by kernel_rfl) (by intro _ _ _ h; exact h) (by rfl) (by assumption) ?_ ?_
      rotate_left
      · intro W hSw; (try dsimp only at hSw); go_simp; try with_reducible rfl
      simp only [Act.put, List.setIfInBounds_toArray, List.set_cons_zero, List.set_cons_succ]
      refine heldTake 14 (v := ?_) (by simp only [List.getElem?_toArray, List.getElem?_cons_succ, List.getElem?_cons_zero]; rfl) (by kernel_rfl) (by intro _ _ _ h; exact h) (by rfl) (by assumption) ?_ ?_
      rotate_left
      · intro W hSw; (try dsimp only at hSw); go_simp; try with_reducible rfl
      simp only [Act.put, List.setIfInBounds_toArray, List.set_cons_zero, List.set_cons_succ]
      refine heldTake 16 (v := ?_) (by simp only [List.getElem?_toArray, List.getElem?_cons_succ, List.getElem?_cons_zero]; rfl) (by kernel_rfl) (by intro _ _ _ h; exact h) (by rfl) (by assumption) ?_ ?_
      rotate_left
      · intro W hSw; (try dsimp only at hSw); go_simp; try with_reducible rfl
      simp only [Act.put, List.setIfInBounds_toArray, List.set_cons_zero, List.set_cons_succ]
      refine heldTake 17 (v := ?_) (by simp only [List.getElem?_toArray, List.getElem?_cons_succ, List.getElem?_cons_zero]; rfl) (by kernel_rfl) (by intro _ _ _ h; exact h) (by rfl) (by assumption) ?_ ?_
      rotate_left
      · intro W hSw; (try dsimp only at hSw); go_simp; try with_reducible rfl
      simp only [Act.put, List.setIfInBounds_toArray, List.set_cons_zero, List.set_cons_succ]
      refine heldFork 8 18 (by kernel_rfl) ?_ ?_
      · refine heldOp 8 (by simp only [List.getElem?_toArray, List.getElem?_cons_succ, List.getElem?_cons_zero]; rfl) (fun K hK => ?_)
        go_simp
        clear hKe
        have hblk : (w2.alloc (.cells #[.int .u8 (IntKind.u8.wrap (name.size : Int))] 5)).drew.heap[w2.heap.size]? = some (.cells #[.int .u8 (IntKind.u8.wrap (name.size : Int))] 5 (0, 0)) := heap_alloc_new w2 _
        have hKe : Below w2.heap.size w2 (w2.alloc (.cells #[.int .u8 (IntKind.u8.wrap (name.size : Int))] 5)).drew := ((Below.refl _ w2).alloc (Nat.le_refl _) _).drew
        have hbl4 : w2.heap.size < (w2.alloc (.cells #[.int .u8 (IntKind.u8.wrap (name.size : Int))] 5)).drew.heap.size := by show w2.heap.size < (w2.alloc _).heap.size; simp
        generalize (w2.alloc (.cells #[.int .u8 (IntKind.u8.wrap (name.size : Int))] 5)).drew = W4 at *
        refine hK.out _ _ ?_ (fun hHeld => ?_)
        · first | exact HNM.out _ (HB2.out.trans (hKe.mono HB2.out.size)) | exact y3
        clear hK K
        (try simp only [Act.put, List.setIfInBounds_toArray, List.set_cons_zero, List.set_cons_succ])
        refine heldFork 9 18 (by kernel_rfl) ?_ ?_
        · refine heldOp 9 (by simp only [List.getElem?_toArray, List.getElem?_cons_succ, List.getElem?_cons_zero]; rfl) (fun K hK => ?_)
          have hcv := conv_one _ (UInt8.ofNat name.size) _ HV4.out hblk
          have hcv2 := HSA.out
          unfold bstr at hcv2
          rw [show [UInt8.ofNat name.size].toArray = #[UInt8.ofNat name.size] from rfl] at hcv2
          rw [← hcv2] at hcv
          clear hcv2
          go_simp
          clear hcv
          refine hK.out _ _ ?_ (fun hHeld => ?_)
          · first | exact HNM.out _ (HB2.out.trans (hKe.mono HB2.out.size)) | exact y3
          clear hK K
          (try simp only [Act.put, List.setIfInBounds_toArray, List.set_cons_zero, List.set_cons_succ])
          refine heldTake 15 (v := ?_) (by simp only [List.getElem?_toArray, List.getElem?_cons_succ, List.getElem?_cons_zero]; rfl) (by kernel_rfl) (by intro _ _ _ h; exact h) (by rfl) (by assumption) ?_ ?_
          rotate_left
          · intro W hSw; (try dsimp only at hSw); go_simp; try with_reducible rfl
          simp only [Act.put, List.setIfInBounds_toArray, List.set_cons_zero, List.set_cons_succ]
          refine heldCall 18 (by simp only [List.getElem?_toArray, List.getElem?_cons_succ, List.getElem?_cons_zero]; rfl) (by kernel_rfl) (fun K hK => ?_)
          go_simp
          refine Calls.mono (HNUM.out _) ?_
          rintro e w5 ⟨rfl, hb5⟩
          try replace hblk := (hb5.block _ hbl4).trans hblk
          replace hKe : Below w2.heap.size w2 w5 := hKe.trans (hb5.mono hKe.size)
          clear hb5
          refine hK.out _ _ ?_ (fun hHeld => ?_)
          · first | exact HNM.out _ (HB2.out.trans (hKe.mono HB2.out.size)) | exact y3
          clear hK K
          (try simp only [Act.put, List.setIfInBounds_toArray, List.set_cons_zero, List.set_cons_succ])
          refine heldTake 19 (v := ?_) (by simp only [List.getElem?_toArray, List.getElem?_cons_succ, List.getElem?_cons_zero]; rfl) (by kernel_rfl) (by intro _ _ _ h; exact h) (by rfl) (by assumption) ?_ ?_
          rotate_left
          · intro W hSw; (try dsimp only at hSw); go_simp; try with_reducible rfl
          simp only [Act.put, List.setIfInBounds_toArray, List.set_cons_zero, List.set_cons_succ]
          refine heldTake 20 (v := ?_) (by simp only [List.getElem?_toArray, List.getElem?_cons_succ, List.getElem?_cons_zero]; rfl) (by kernel_rfl) (by intro _ _ _ h; exact h) (by rfl) (by assumption) ?_ ?_
          rotate_left
          · intro W hSw; (try dsimp only at hSw); go_simp; try with_reducible rfl
          simp only [Act.put, List.setIfInBounds_toArray, List.set_cons_zero, List.set_cons_succ]
          refine heldTake 21 (v := ?_) (by simp only [List.getElem?_toArray, List.getElem?_cons_succ, List.getElem?_cons_zero]; rfl) (by kernel_rfl) (by intro _ _ _ h; exact h) (by rfl) (by assumption) ?_ ?_
          rotate_left
          · intro W hSw; (try dsimp only at hSw); go_simp; try with_reducible rfl
          simp only [Act.put, List.setIfInBounds_toArray, List.set_cons_zero, List.set_cons_succ]
          refine heldDone (by kernel_rfl) ?_ _
          have hs3f := HS3.out
          subst hs3f
          clear HS3 hs3 f1 f2 f3 HSA HV4 HNUM HNM y3
          have HTR : Hid (pre ++ (UInt8.ofNat name.size :: name.data.toList ++ numB R.length) ++ encR 1 R ++ ((xs.drop (i + 1)).map (·.name)).flatMap (encS F) = T) := Lib.hid (by
            have h9 := HT2.out
            simp only [List.append_assoc, List.cons_append] at h9 ⊢
            exact h9)
          clear HT2 HT
          obtain ⟨tl, htl⟩ : ∃ tl, tl = ((xs.drop (i + 1)).map (·.name)).flatMap (encS F) := ⟨_, rfl⟩
          rw [← htl] at HTR
          have HTLE := Lib.hid htl.symm
          clear htl
          generalize pre ++ (UInt8.ofNat name.size :: name.data.toList ++ numB R.length) = q0 at *
          (try generalize gk = g1 at *)
          go_wp2_with fail
          (try go_frame)
          go_loopg [3, 6, 7] R.length (fun rest s3 s6 s7 wx => ∃ (j : Nat) (e9 : Int) (q : List UInt8), s7 = .int .i64 j ∧ s6 = .int .i64 e9 ∧ s3 = .string (bstr q) ∧ Hid (j + rest = R.length) ∧ (j : Int) ≤ 1000 ∧ Hid (RowOk (e9 - 1) (R.drop j)) ∧ 1 ≤ e9 ∧ e9 ≤ 1099511627777 ∧ Hid (q ++ encR e9 (R.drop j) ++ tl = T) ∧ Hid (Below w2.heap.size w2 wx))
          case atStart => exact ⟨0, 1, _, rfl, rfl, rfl, Lib.hid (by simp), by omega, HOK.out.1 |> Lib.hid, by omega, by omega, HTR, Lib.hid hKe⟩
          case round =>
            obtain ⟨j, e9, q, rfl, rfl, rfl, HJ, hj0, HRO, he1, he2, HQ, HBX⟩ := hrel
            by_cases hj : (j : Int) < (R.length : Int)
            · have hjl : j < R.length := by omega
              have hok9 := HRO.out
              rw [List.drop_eq_getElem_cons hjl] at hok9
              have hq9 := HQ.out
              rw [List.drop_eq_getElem_cons hjl] at hq9
              have ht9 := HOK.out.2 R[j] (List.getElem_mem hjl)
              obtain ⟨b9, o9, e0, hb9, hc9⟩ := HRD.out.2 (by omega)
              subst e0
              have hcell : ∀ W, Below w2.heap.size w2 W → W.cell? ⟨b9, o9 + j * 2, none⟩ = some (.int .i64 R[j].1) ∧ W.cell? ⟨b9, o9 + j * 2 + 1, none⟩ = some (.int .i64 R[j].2) := fun W hW => by
                obtain ⟨x1, x2⟩ := rgsCells_at hjl
                have y1 := (hW.cell (p := ⟨b9, o9 + j * 2, none⟩) hb9).trans (hc9 _ _ x1)
                have y2 := (hW.cell (p := ⟨b9, o9 + (j * 2 + 1), none⟩) hb9).trans (hc9 _ _ x2)
                rw [← Nat.add_assoc] at y2
                exact ⟨y1, y2⟩
              generalize R[j] = rj at *
              obtain ⟨f, t⟩ := rj
              simp only at hok9 hq9 ht9 hcell
              obtain ⟨k1, k2, k3⟩ := hok9
              simp only at k1 k2 k3
              have hen : encR e9 ((f, t) :: R.drop (j + 1)) = numB (f - e9).toNat ++ numB (t - f).toNat ++ encR t (R.drop (j + 1)) := rfl
              rw [hen] at hq9
              have HCELL := Lib.hid hcell
              have HQ9 := Lib.hid hq9
              have HK3 := Lib.hid (k3.mono (show t - 1 ≤ t by omega))
              clear hen hq9 k3 hcell hc9
              have hx1 : (((f - e9).toNat : Nat) : Int) = f - e9 := by omega
              have hx2 : (((t - f).toNat : Nat) : Int) = t - f := by omega
              have w1' : IntKind.i64.wrap (f - e9) = (((f - e9).toNat : Nat) : Int) := by rw [IntWalk.i64_in _ (by omega), hx1]
              have w2' : IntKind.i64.wrap (t - f) = (((t - f).toNat : Nat) : Int) := by rw [IntWalk.i64_in _ (by omega), hx2]
              have hn1 := fun W => num_str (f - e9).toNat (by omega) W
              have hn2 := fun W => num_str (t - f).toNat (by omega) W
              have hl1 : (numB (f - e9).toNat).length ≤ 6 := numB_le6 (by omega)
              have hl2' : (numB (t - f).toNat).length ≤ 6 := numB_le6 (by omega)
              have hlq : q.length ≤ 1000000000 := by
                have := congrArg List.length HQ.out
                simp only [List.length_append] at this
                omega
              generalize (f - e9).toNat = m1 at *
              generalize (t - f).toNat = m2 at *
              clear hx1 hx2
              obtain ⟨sq, hsq⟩ : ∃ sq, sq = bstr q := ⟨_, rfl⟩
              obtain ⟨n1, hsn1⟩ : ∃ n1, n1 = bstr (numB m1) := ⟨_, rfl⟩
              obtain ⟨n2, hsn2⟩ : ∃ n2, n2 = bstr (numB m2) := ⟨_, rfl⟩
              have z1 : sq.size ≤ 1000000000 := by rw [hsq, bstr_size]; exact hlq
              have z2 : n1.size ≤ 6 := by rw [hsn1, bstr_size]; exact hl1
              have z3 : n2.size ≤ 6 := by rw [hsn2, bstr_size]; exact hl2'
              obtain ⟨n3, hn3⟩ : ∃ n3, n1 ++ n2 = n3 := ⟨_, rfl⟩
              obtain ⟨n4, hn4⟩ : ∃ n4, sq ++ n3 = n4 := ⟨_, rfl⟩
              have z4 : n3.size ≤ 12 := by rw [← hn3, ByteArray.size_append]; omega
              have g1' := add_fits (a := n1) (b := n2) (by omega)
              have g2' := add_fits (a := sq) (b := n3) (by omega)
              have hn4e : n4 = bstr (q ++ (numB m1 ++ numB m2)) := by rw [← hn4, ← hn3, hsq, hsn1, hsn2, bstr_app, bstr_app]
              rw [← hsn1] at hn1
              rw [← hsn2] at hn2
              rw [← hsq]
              have HN1 := Lib.hid hn1
              have HN2 := Lib.hid hn2
              have HN4 := Lib.hid hn4e
              obtain ⟨c7, c8⟩ := HCELL.out wr HBX.out
              have hKx : Below wr.heap.size wr wr.drew := (Below.refl _ _).drew
              have hBW := HBX.out.size
              clear hn1 hn2 hn4e hsq hsn1 hsn2 z1 z2 z3 z4 hl1 hl2' hlq
              go_wp2_with fail
              refine heldStart 23 (S := fun W => W.cell? ⟨b9, o9 + j * 2, none⟩ = some (.int .i64 f) ∧ W.cell? ⟨b9, o9 + j * 2 + 1, none⟩ = some (.int .i64 t)) (by kernel_rfl) ?_ (fun hHeld => ?_)
              · first | exact ⟨c7, c8⟩ | exact HCELL.out _ (HBX.out.trans (hKx.mono hBW))
              refine heldTake 0 (v := ?_) (by simp only [List.getElem?_toArray, List.getElem?_cons_succ, List.getElem?_cons_zero]; rfl) (by kernel_rfl) (by intro _ _ _ h; exact h) (by rfl) (by assumption) ?_ ?_
              rotate_left
              · intro W hSw; (try dsimp only at hSw); go_simp; try with_reducible rfl
              simp only [Act.put, List.setIfInBounds_toArray, List.set_cons_zero, List.set_cons_succ]
              refine heldTake 1 (v := ?_) (by simp only [List.getElem?_toArray, List.getElem?_cons_succ, List.getElem?_cons_zero]; rfl) (by kernel_rfl) (by intro _ _ _ h; exact h) (by rfl) (by assumption) ?_ ?_
              rotate_left
              · intro W hSw; (try dsimp only at hSw); go_simp; try with_reducible rfl
              simp only [Act.put, List.setIfInBounds_toArray, List.set_cons_zero, List.set_cons_succ]
              refine heldTake 2 (v := ?_) (by simp only [List.getElem?_toArray, List.getElem?_cons_succ, List.getElem?_cons_zero]; rfl) (by kernel_rfl) (by intro _ _ _ h; exact h) (by rfl) (by assumption) ?_ ?_
              rotate_left
              · intro W hSw; (try dsimp only at hSw); go_simp; try with_reducible rfl
              simp only [Act.put, List.setIfInBounds_toArray, List.set_cons_zero, List.set_cons_succ]
              refine heldTake 3 (v := ?_) (by simp only [List.getElem?_toArray, List.getElem?_cons_succ, List.getElem?_cons_zero]; rfl) (by kernel_rfl) (by intro _ _ _ h; exact h) (by rfl) (by assumption) ?_ ?_
              rotate_left
              · intro W hSw; (try dsimp only at hSw); go_simp; try with_reducible rfl
              simp only [Act.put, List.setIfInBounds_toArray, List.set_cons_zero, List.set_cons_succ]
              refine heldTake 4 (v := ?_) (by simp only [List.getElem?_toArray, List.getElem?_cons_succ, List.getElem?_cons_zero]; rfl) (by kernel_rfl) (by intro _ _ _ h; exact h) (by rfl) (by assumption) ?_ ?_
              rotate_left
              · intro W hSw; (try dsimp only at hSw); go_simp; try with_reducible rfl
              simp only [Act.put, List.setIfInBounds_toArray, List.set_cons_zero, List.set_cons_succ]
              refine heldTake 5 (v := ?_) (by simp only [List.getElem?_toArray, List.getElem?_cons_succ, List.getElem?_cons_zero]; rfl) (by kernel_rfl) (by intro _ _ _ h; exact h) (by rfl) (by assumption) ?_ ?_
              rotate_left
              · intro W hSw; (try dsimp only at hSw); go_simp; try with_reducible rfl
              simp only [Act.put, List.setIfInBounds_toArray, List.set_cons_zero, List.set_cons_succ]
              refine heldTake 6 (v := ?_) (by simp only [List.getElem?_toArray, List.getElem?_cons_succ, List.getElem?_cons_zero]; rfl) (by kernel_rfl) (by intro _ _ _ h; exact h) (by rfl) (by assumption) ?_ ?_
              rotate_left
              · intro W hSw; (try dsimp only at hSw); go_simp; try with_reducible rfl
              simp only [Act.put, List.setIfInBounds_toArray, List.set_cons_zero, List.set_cons_succ]
              refine heldTake 7 (v := ?_) (by simp only [List.getElem?_toArray, List.getElem?_cons_succ, List.getElem?_cons_zero]; rfl) (by kernel_rfl) (by intro _ _ _ h; exact h) (by rfl) (by assumption) ?_ ?_
              rotate_left
              · intro W hSw; (try dsimp only at hSw); go_simp; try with_reducible rfl
              simp only [Act.put, List.setIfInBounds_toArray, List.set_cons_zero, List.set_cons_succ]
              refine heldTake 9 (v := ?_) (by simp only [List.getElem?_toArray, List.getElem?_cons_succ, List.getElem?_cons_zero]; rfl) (by kernel_rfl) (by intro _ _ _ h; exact h) (by rfl) (by assumption) ?_ ?_
              rotate_left
              · intro W hSw; (try dsimp only at hSw); go_simp; try with_reducible rfl
              simp only [Act.put, List.setIfInBounds_toArray, List.set_cons_zero, List.set_cons_succ]
              refine heldTake 10 (v := ?_) (by simp only [List.getElem?_toArray, List.getElem?_cons_succ, List.getElem?_cons_zero]; rfl) (by kernel_rfl) (by intro _ _ _ h; exact h) (by rfl) (by assumption) ?_ ?_
              rotate_left
              · intro W hSw; (try dsimp only at hSw); go_simp; try with_reducible rfl
              simp only [Act.put, List.setIfInBounds_toArray, List.set_cons_zero, List.set_cons_succ]
              refine heldTake 11 (v := ?_) (by simp only [List.getElem?_toArray, List.getElem?_cons_succ, List.getElem?_cons_zero]; rfl) (by kernel_rfl) (by intro _ _ _ h; exact h) (by rfl) (by assumption) ?_ ?_
              rotate_left
              · intro W hSw; (try dsimp only at hSw); go_simp; try with_reducible rfl
              simp only [Act.put, List.setIfInBounds_toArray, List.set_cons_zero, List.set_cons_succ]
              refine heldTake 12 (v := ?_) (by simp only [List.getElem?_toArray, List.getElem?_cons_succ, List.getElem?_cons_zero]; rfl) (by kernel_rfl) (by intro _ _ _ h; exact h) (by rfl) (by assumption) ?_ ?_
              rotate_left
              · intro W hSw; (try dsimp only at hSw); go_simp; try with_reducible rfl
              simp only [Act.put, List.setIfInBounds_toArray, List.set_cons_zero, List.set_cons_succ]
              refine heldTake 13 (v := ?_) (by simp only [List.getElem?_toArray, List.getElem?_cons_succ, List.getElem?_cons_zero]; rfl) (by kernel_rfl) (by intro _ _ _ h; exact h) (by rfl) (by assumption) ?_ ?_
              rotate_left
              · intro W hSw; (try dsimp only at hSw); go_simp; try with_reducible rfl
              simp only [Act.put, List.setIfInBounds_toArray, List.set_cons_zero, List.set_cons_succ]
              refine heldTake 14 (v := ?_) (by simp only [List.getElem?_toArray, List.getElem?_cons_succ, List.getElem?_cons_zero]; rfl) (by kernel_rfl) (by intro _ _ _ h; exact h) (by rfl) (by assumption) ?_ ?_
              rotate_left
              · intro W hSw; (try dsimp only at hSw); go_simp; try with_reducible rfl
              simp only [Act.put, List.setIfInBounds_toArray, List.set_cons_zero, List.set_cons_succ]
              refine heldTake 15 (v := ?_) (by simp only [List.getElem?_toArray, List.getElem?_cons_succ, List.getElem?_cons_zero]; rfl) (by kernel_rfl) (by intro _ _ _ h; exact h) (by rfl) (by assumption) ?_ ?_
              rotate_left
              · intro W hSw; (try dsimp only at hSw); go_simp; try with_reducible rfl
              simp only [Act.put, List.setIfInBounds_toArray, List.set_cons_zero, List.set_cons_succ]
              refine heldTake 16 (v := ?_) (by simp only [List.getElem?_toArray, List.getElem?_cons_succ, List.getElem?_cons_zero]; rfl) (by kernel_rfl) (by intro _ _ _ h; exact h) (by rfl) (by assumption) ?_ ?_
              rotate_left
              · intro W hSw; (try dsimp only at hSw); go_simp; try with_reducible rfl
              simp only [Act.put, List.setIfInBounds_toArray, List.set_cons_zero, List.set_cons_succ]
              refine heldTake 17 (v := ?_) (by simp only [List.getElem?_toArray, List.getElem?_cons_succ, List.getElem?_cons_zero]; rfl) (by kernel_rfl) (by intro _ _ _ h; exact h) (by rfl) (by assumption) ?_ ?_
              rotate_left
              · intro W hSw; (try dsimp only at hSw); go_simp; try with_reducible rfl
              simp only [Act.put, List.setIfInBounds_toArray, List.set_cons_zero, List.set_cons_succ]
              refine heldTake 18 (v := ?_) (by simp only [List.getElem?_toArray, List.getElem?_cons_succ, List.getElem?_cons_zero]; rfl) (by kernel_rfl) (by intro _ _ _ h; exact h) (by rfl) (by assumption) ?_ ?_
              rotate_left
              · intro W hSw; (try dsimp only at hSw); go_simp; try with_reducible rfl
              simp only [Act.put, List.setIfInBounds_toArray, List.set_cons_zero, List.set_cons_succ]
              refine heldTake 19 (v := ?_) (by simp only [List.getElem?_toArray, List.getElem?_cons_succ, List.getElem?_cons_zero]; rfl) (by kernel_rfl) (by intro _ _ _ h; exact h) (by rfl) (by assumption) ?_ ?_
              rotate_left
              · intro W hSw; (try dsimp only at hSw); go_simp; try with_reducible rfl
              simp only [Act.put, List.setIfInBounds_toArray, List.set_cons_zero, List.set_cons_succ]
              refine heldCall 8 (by simp only [List.getElem?_toArray, List.getElem?_cons_succ, List.getElem?_cons_zero]; rfl) (by kernel_rfl) (fun K hK => ?_)
              go_simp
              refine Calls.mono (HN1.out _) ?_
              rintro e v5 ⟨rfl, hb5⟩
              replace hKx : Below wr.heap.size wr v5 := hKx.trans (hb5.mono hKx.size)
              clear hb5
              refine hK.out _ _ ?_ (fun hHeld => ?_)
              · first | exact ⟨c7, c8⟩ | exact HCELL.out _ (HBX.out.trans (hKx.mono hBW))
              clear hK K
              (try simp only [Act.put, List.setIfInBounds_toArray, List.set_cons_zero, List.set_cons_succ])
              refine heldCall 20 (by simp only [List.getElem?_toArray, List.getElem?_cons_succ, List.getElem?_cons_zero]; rfl) (by kernel_rfl) (fun K hK => ?_)
              go_simp
              refine Calls.mono (HN2.out _) ?_
              rintro e v6 ⟨rfl, hb6⟩
              replace hKx : Below wr.heap.size wr v6 := hKx.trans (hb6.mono hKx.size)
              clear hb6
              refine hK.out _ _ ?_ (fun hHeld => ?_)
              · first | exact ⟨c7, c8⟩ | exact HCELL.out _ (HBX.out.trans (hKx.mono hBW))
              clear hK K
              (try simp only [Act.put, List.setIfInBounds_toArray, List.set_cons_zero, List.set_cons_succ])
              refine heldTake 21 (v := ?_) (by simp only [List.getElem?_toArray, List.getElem?_cons_succ, List.getElem?_cons_zero]; rfl) (by kernel_rfl) (by intro _ _ _ h; exact h) (by rfl) (by assumption) ?_ ?_
              rotate_left
              · intro W hSw; (try dsimp only at hSw); go_simp; try with_reducible rfl
              simp only [Act.put, List.setIfInBounds_toArray, List.set_cons_zero, List.set_cons_succ]
              refine heldTake 22 (v := ?_) (by simp only [List.getElem?_toArray, List.getElem?_cons_succ, List.getElem?_cons_zero]; rfl) (by kernel_rfl) (by intro _ _ _ h; exact h) (by rfl) (by assumption) ?_ ?_
              rotate_left
              · intro W hSw; (try dsimp only at hSw); go_simp; try with_reducible rfl
              simp only [Act.put, List.setIfInBounds_toArray, List.set_cons_zero, List.set_cons_succ]
              refine heldTake 23 (v := ?_) (by simp only [List.getElem?_toArray, List.getElem?_cons_succ, List.getElem?_cons_zero]; rfl) (by kernel_rfl) (by intro _ _ _ h; exact h) (by rfl) (by assumption) ?_ ?_
              rotate_left
              · intro W hSw; (try dsimp only at hSw); go_simp; try with_reducible rfl
              simp only [Act.put, List.setIfInBounds_toArray, List.set_cons_zero, List.set_cons_succ]
              refine heldDone (by kernel_rfl) ?_ _
              have hn4f := HN4.out
              subst hn4f
              clear HN4 hn4 hn3 g1' g2' HN1 HN2 hHeld c7 c8
              have hBf : Below w2.heap.size w2 v6 := HBX.out.trans (hKx.mono hBW)
              obtain ⟨c7, c8⟩ := HCELL.out v6 hBf
              have HBf := Lib.hid hBf
              have HQf : Hid (q ++ (numB m1 ++ numB m2) ++ encR t (R.drop (j + 1)) ++ tl = T) := Lib.hid (by
                have := HQ9.out
                simp only [List.append_assoc] at this ⊢
                exact this)
              clear hBf hBW hKx
              go_wp2_with fail
              go_roundg (gk - 1)
              case measure => have := HJ.out; omega
              case rel => exact ⟨j + 1, t, _, by go_num, rfl, rfl, Lib.hid (by have := HJ.out; omega), by omega, HK3, by omega, ht9, HQf, HBf⟩
            · have hje : j = R.length := by have := HJ.out; omega
              have hqe : q ++ tl = T := by
                have := HQ.out
                rw [hje, List.drop_length] at this
                simpa [encR] using this
              have HQE := Lib.hid hqe
              have HBe := Lib.hid (HB2.out.trans (HBX.out.mono HB2.out.size))
              clear hqe hje
              go_wp2_with fail
              go_roundg (g1 - 1)
              case measure => have := HI.out; omega
              case rel => exact ⟨i + 1, q, by go_num, rfl, Lib.hid (by have := HI.out; omega), by omega, Lib.hid (by rw [HTLE.out]; exact HQE.out), HBe⟩
        · refine heldOp 18 (by simp only [List.getElem?_toArray, List.getElem?_cons_succ, List.getElem?_cons_zero]; rfl) (fun K hK => ?_)
          go_simp
          refine Calls.mono (HNUM.out _) ?_
          rintro e w5 ⟨rfl, hb5⟩
          try replace hblk := (hb5.block _ hbl4).trans hblk
          replace hKe : Below w2.heap.size w2 w5 := hKe.trans (hb5.mono hKe.size)
          clear hb5
          refine hK.out _ _ ?_ (fun hHeld => ?_)
          · first | exact HNM.out _ (HB2.out.trans (hKe.mono HB2.out.size)) | exact y3
          clear hK K
          (try simp only [Act.put, List.setIfInBounds_toArray, List.set_cons_zero, List.set_cons_succ])
          refine heldCall 9 (by simp only [List.getElem?_toArray, List.getElem?_cons_succ, List.getElem?_cons_zero]; rfl) (by kernel_rfl) (fun K hK => ?_)
          have hcv := conv_one _ (UInt8.ofNat name.size) _ HV4.out hblk
          have hcv2 := HSA.out
          unfold bstr at hcv2
          rw [show [UInt8.ofNat name.size].toArray = #[UInt8.ofNat name.size] from rfl] at hcv2
          rw [← hcv2] at hcv
          clear hcv2
          go_simp
          clear hcv
          refine hK.out _ _ ?_ (fun hHeld => ?_)
          · first | exact HNM.out _ (HB2.out.trans (hKe.mono HB2.out.size)) | exact y3
          clear hK K
          (try simp only [Act.put, List.setIfInBounds_toArray, List.set_cons_zero, List.set_cons_succ])
          refine heldTake 15 (v := ?_) (by simp only [List.getElem?_toArray, List.getElem?_cons_succ, List.getElem?_cons_zero]; rfl) (by kernel_rfl) (by intro _ _ _ h; exact h) (by rfl) (by assumption) ?_ ?_
          rotate_left
          · intro W hSw; (try dsimp only at hSw); go_simp; try with_reducible rfl
          simp only [Act.put, List.setIfInBounds_toArray, List.set_cons_zero, List.set_cons_succ]
          refine heldTake 19 (v := ?_) (by simp only [List.getElem?_toArray, List.getElem?_cons_succ, List.getElem?_cons_zero]; rfl) (by kernel_rfl) (by intro _ _ _ h; exact h) (by rfl) (by assumption) ?_ ?_
          rotate_left
          · intro W hSw; (try dsimp only at hSw); go_simp; try with_reducible rfl
          simp only [Act.put, List.setIfInBounds_toArray, List.set_cons_zero, List.set_cons_succ]
          refine heldTake 20 (v := ?_) (by simp only [List.getElem?_toArray, List.getElem?_cons_succ, List.getElem?_cons_zero]; rfl) (by kernel_rfl) (by intro _ _ _ h; exact h) (by rfl) (by assumption) ?_ ?_
          rotate_left
          · intro W hSw; (try dsimp only at hSw); go_simp; try with_reducible rfl
          simp only [Act.put, List.setIfInBounds_toArray, List.set_cons_zero, List.set_cons_succ]
          refine heldTake 21 (v := ?_) (by simp only [List.getElem?_toArray, List.getElem?_cons_succ, List.getElem?_cons_zero]; rfl) (by kernel_rfl) (by intro _ _ _ h; exact h) (by rfl) (by assumption) ?_ ?_
          rotate_left
          · intro W hSw; (try dsimp only at hSw); go_simp; try with_reducible rfl
          simp only [Act.put, List.setIfInBounds_toArray, List.set_cons_zero, List.set_cons_succ]
          refine heldDone (by kernel_rfl) ?_ _
          have hs3f := HS3.out
          subst hs3f
          clear HS3 hs3 f1 f2 f3 HSA HV4 HNUM HNM y3
          have HTR : Hid (pre ++ (UInt8.ofNat name.size :: name.data.toList ++ numB R.length) ++ encR 1 R ++ ((xs.drop (i + 1)).map (·.name)).flatMap (encS F) = T) := Lib.hid (by
            have h9 := HT2.out
            simp only [List.append_assoc, List.cons_append] at h9 ⊢
            exact h9)
          clear HT2 HT
          obtain ⟨tl, htl⟩ : ∃ tl, tl = ((xs.drop (i + 1)).map (·.name)).flatMap (encS F) := ⟨_, rfl⟩
          rw [← htl] at HTR
          have HTLE := Lib.hid htl.symm
          clear htl
          generalize pre ++ (UInt8.ofNat name.size :: name.data.toList ++ numB R.length) = q0 at *
          (try generalize gk = g1 at *)
          go_wp2_with fail
          (try go_frame)
          go_loopg [3, 6, 7] R.length (fun rest s3 s6 s7 wx => ∃ (j : Nat) (e9 : Int) (q : List UInt8), s7 = .int .i64 j ∧ s6 = .int .i64 e9 ∧ s3 = .string (bstr q) ∧ Hid (j + rest = R.length) ∧ (j : Int) ≤ 1000 ∧ Hid (RowOk (e9 - 1) (R.drop j)) ∧ 1 ≤ e9 ∧ e9 ≤ 1099511627777 ∧ Hid (q ++ encR e9 (R.drop j) ++ tl = T) ∧ Hid (Below w2.heap.size w2 wx))
          case atStart => exact ⟨0, 1, _, rfl, rfl, rfl, Lib.hid (by simp), by omega, HOK.out.1 |> Lib.hid, by omega, by omega, HTR, Lib.hid hKe⟩
          case round =>
            obtain ⟨j, e9, q, rfl, rfl, rfl, HJ, hj0, HRO, he1, he2, HQ, HBX⟩ := hrel
            by_cases hj : (j : Int) < (R.length : Int)
            · have hjl : j < R.length := by omega
              have hok9 := HRO.out
              rw [List.drop_eq_getElem_cons hjl] at hok9
              have hq9 := HQ.out
              rw [List.drop_eq_getElem_cons hjl] at hq9
              have ht9 := HOK.out.2 R[j] (List.getElem_mem hjl)
              obtain ⟨b9, o9, e0, hb9, hc9⟩ := HRD.out.2 (by omega)
              subst e0
              have hcell : ∀ W, Below w2.heap.size w2 W → W.cell? ⟨b9, o9 + j * 2, none⟩ = some (.int .i64 R[j].1) ∧ W.cell? ⟨b9, o9 + j * 2 + 1, none⟩ = some (.int .i64 R[j].2) := fun W hW => by
                obtain ⟨x1, x2⟩ := rgsCells_at hjl
                have y1 := (hW.cell (p := ⟨b9, o9 + j * 2, none⟩) hb9).trans (hc9 _ _ x1)
                have y2 := (hW.cell (p := ⟨b9, o9 + (j * 2 + 1), none⟩) hb9).trans (hc9 _ _ x2)
                rw [← Nat.add_assoc] at y2
                exact ⟨y1, y2⟩
              generalize R[j] = rj at *
              obtain ⟨f, t⟩ := rj
              simp only at hok9 hq9 ht9 hcell
              obtain ⟨k1, k2, k3⟩ := hok9
              simp only at k1 k2 k3
              have hen : encR e9 ((f, t) :: R.drop (j + 1)) = numB (f - e9).toNat ++ numB (t - f).toNat ++ encR t (R.drop (j + 1)) := rfl
              rw [hen] at hq9
              have HCELL := Lib.hid hcell
              have HQ9 := Lib.hid hq9
              have HK3 := Lib.hid (k3.mono (show t - 1 ≤ t by omega))
              clear hen hq9 k3 hcell hc9
              have hx1 : (((f - e9).toNat : Nat) : Int) = f - e9 := by omega
              have hx2 : (((t - f).toNat : Nat) : Int) = t - f := by omega
              have w1' : IntKind.i64.wrap (f - e9) = (((f - e9).toNat : Nat) : Int) := by rw [IntWalk.i64_in _ (by omega), hx1]
              have w2' : IntKind.i64.wrap (t - f) = (((t - f).toNat : Nat) : Int) := by rw [IntWalk.i64_in _ (by omega), hx2]
              have hn1 := fun W => num_str (f - e9).toNat (by omega) W
              have hn2 := fun W => num_str (t - f).toNat (by omega) W
              have hl1 : (numB (f - e9).toNat).length ≤ 6 := numB_le6 (by omega)
              have hl2' : (numB (t - f).toNat).length ≤ 6 := numB_le6 (by omega)
              have hlq : q.length ≤ 1000000000 := by
                have := congrArg List.length HQ.out
                simp only [List.length_append] at this
                omega
              generalize (f - e9).toNat = m1 at *
              generalize (t - f).toNat = m2 at *
              clear hx1 hx2
              obtain ⟨sq, hsq⟩ : ∃ sq, sq = bstr q := ⟨_, rfl⟩
              obtain ⟨n1, hsn1⟩ : ∃ n1, n1 = bstr (numB m1) := ⟨_, rfl⟩
              obtain ⟨n2, hsn2⟩ : ∃ n2, n2 = bstr (numB m2) := ⟨_, rfl⟩
              have z1 : sq.size ≤ 1000000000 := by rw [hsq, bstr_size]; exact hlq
              have z2 : n1.size ≤ 6 := by rw [hsn1, bstr_size]; exact hl1
              have z3 : n2.size ≤ 6 := by rw [hsn2, bstr_size]; exact hl2'
              obtain ⟨n3, hn3⟩ : ∃ n3, n1 ++ n2 = n3 := ⟨_, rfl⟩
              obtain ⟨n4, hn4⟩ : ∃ n4, sq ++ n3 = n4 := ⟨_, rfl⟩
              have z4 : n3.size ≤ 12 := by rw [← hn3, ByteArray.size_append]; omega
              have g1' := add_fits (a := n1) (b := n2) (by omega)
              have g2' := add_fits (a := sq) (b := n3) (by omega)
              have hn4e : n4 = bstr (q ++ (numB m1 ++ numB m2)) := by rw [← hn4, ← hn3, hsq, hsn1, hsn2, bstr_app, bstr_app]
              rw [← hsn1] at hn1
              rw [← hsn2] at hn2
              rw [← hsq]
              have HN1 := Lib.hid hn1
              have HN2 := Lib.hid hn2
              have HN4 := Lib.hid hn4e
              obtain ⟨c7, c8⟩ := HCELL.out wr HBX.out
              have hKx : Below wr.heap.size wr wr.drew := (Below.refl _ _).drew
              have hBW := HBX.out.size
              clear hn1 hn2 hn4e hsq hsn1 hsn2 z1 z2 z3 z4 hl1 hl2' hlq
              go_wp2_with fail
              refine heldStart 23 (S := fun W => W.cell? ⟨b9, o9 + j * 2, none⟩ = some (.int .i64 f) ∧ W.cell? ⟨b9, o9 + j * 2 + 1, none⟩ = some (.int .i64 t)) (by kernel_rfl) ?_ (fun hHeld => ?_)
              · first | exact ⟨c7, c8⟩ | exact HCELL.out _ (HBX.out.trans (hKx.mono hBW))
              refine heldTake 0 (v := ?_) (by simp only [List.getElem?_toArray, List.getElem?_cons_succ, List.getElem?_cons_zero]; rfl) (by kernel_rfl) (by intro _ _ _ h; exact h) (by rfl) (by assumption) ?_ ?_
              rotate_left
              · intro W hSw; (try dsimp only at hSw); go_simp; try with_reducible rfl
              simp only [Act.put, List.setIfInBounds_toArray, List.set_cons_zero, List.set_cons_succ]
              refine heldTake 1 (v := ?_) (by simp only [List.getElem?_toArray, List.getElem?_cons_succ, List.getElem?_cons_zero]; rfl) (by kernel_rfl) (by intro _ _ _ h; exact h) (by rfl) (by assumption) ?_ ?_
              rotate_left
              · intro W hSw; (try dsimp only at hSw); go_simp; try with_reducible rfl
              simp only [Act.put, List.setIfInBounds_toArray, List.set_cons_zero, List.set_cons_succ]
              refine heldTake 2 (v := ?_) (by simp only [List.getElem?_toArray, List.getElem?_cons_succ, List.getElem?_cons_zero]; rfl) (by kernel_rfl) (by intro _ _ _ h; exact h) (by rfl) (by assumption) ?_ ?_
              rotate_left
              · intro W hSw; (try dsimp only at hSw); go_simp; try with_reducible rfl
              simp only [Act.put, List.setIfInBounds_toArray, List.set_cons_zero, List.set_cons_succ]
              refine heldTake 3 (v := ?_) (by simp only [List.getElem?_toArray, List.getElem?_cons_succ, List.getElem?_cons_zero]; rfl) (by kernel_rfl) (by intro _ _ _ h; exact h) (by rfl) (by assumption) ?_ ?_
              rotate_left
              · intro W hSw; (try dsimp only at hSw); go_simp; try with_reducible rfl
              simp only [Act.put, List.setIfInBounds_toArray, List.set_cons_zero, List.set_cons_succ]
              refine heldTake 4 (v := ?_) (by simp only [List.getElem?_toArray, List.getElem?_cons_succ, List.getElem?_cons_zero]; rfl) (by kernel_rfl) (by intro _ _ _ h; exact h) (by rfl) (by assumption) ?_ ?_
              rotate_left
              · intro W hSw; (try dsimp only at hSw); go_simp; try with_reducible rfl
              simp only [Act.put, List.setIfInBounds_toArray, List.set_cons_zero, List.set_cons_succ]
              refine heldTake 5 (v := ?_) (by simp only [List.getElem?_toArray, List.getElem?_cons_succ, List.getElem?_cons_zero]; rfl) (by kernel_rfl) (by intro _ _ _ h; exact h) (by rfl) (by assumption) ?_ ?_
              rotate_left
              · intro W hSw; (try dsimp only at hSw); go_simp; try with_reducible rfl
              simp only [Act.put, List.setIfInBounds_toArray, List.set_cons_zero, List.set_cons_succ]
              refine heldTake 6 (v := ?_) (by simp only [List.getElem?_toArray, List.getElem?_cons_succ, List.getElem?_cons_zero]; rfl) (by kernel_rfl) (by intro _ _ _ h; exact h) (by rfl) (by assumption) ?_ ?_
              rotate_left
              · intro W hSw; (try dsimp only at hSw); go_simp; try with_reducible rfl
              simp only [Act.put, List.setIfInBounds_toArray, List.set_cons_zero, List.set_cons_succ]
              refine heldTake 7 (v := ?_) (by simp only [List.getElem?_toArray, List.getElem?_cons_succ, List.getElem?_cons_zero]; rfl) (by kernel_rfl) (by intro _ _ _ h; exact h) (by rfl) (by assumption) ?_ ?_
              rotate_left
              · intro W hSw; (try dsimp only at hSw); go_simp; try with_reducible rfl
              simp only [Act.put, List.setIfInBounds_toArray, List.set_cons_zero, List.set_cons_succ]
              refine heldTake 9 (v := ?_) (by simp only [List.getElem?_toArray, List.getElem?_cons_succ, List.getElem?_cons_zero]; rfl) (by kernel_rfl) (by intro _ _ _ h; exact h) (by rfl) (by assumption) ?_ ?_
              rotate_left
              · intro W hSw; (try dsimp only at hSw); go_simp; try with_reducible rfl
              simp only [Act.put, List.setIfInBounds_toArray, List.set_cons_zero, List.set_cons_succ]
              refine heldTake 10 (v := ?_) (by simp only [List.getElem?_toArray, List.getElem?_cons_succ, List.getElem?_cons_zero]; rfl) (by kernel_rfl) (by intro _ _ _ h; exact h) (by rfl) (by assumption) ?_ ?_
              rotate_left
              · intro W hSw; (try dsimp only at hSw); go_simp; try with_reducible rfl
              simp only [Act.put, List.setIfInBounds_toArray, List.set_cons_zero, List.set_cons_succ]
              refine heldTake 11 (v := ?_) (by simp only [List.getElem?_toArray, List.getElem?_cons_succ, List.getElem?_cons_zero]; rfl) (by kernel_rfl) (by intro _ _ _ h; exact h) (by rfl) (by assumption) ?_ ?_
              rotate_left
              · intro W hSw; (try dsimp only at hSw); go_simp; try with_reducible rfl
              simp only [Act.put, List.setIfInBounds_toArray, List.set_cons_zero, List.set_cons_succ]
              refine heldTake 12 (v := ?_) (by simp only [List.getElem?_toArray, List.getElem?_cons_succ, List.getElem?_cons_zero]; rfl) (by kernel_rfl) (by intro _ _ _ h; exact h) (by rfl) (by assumption) ?_ ?_
              rotate_left
              · intro W hSw; (try dsimp only at hSw); go_simp; try with_reducible rfl
              simp only [Act.put, List.setIfInBounds_toArray, List.set_cons_zero, List.set_cons_succ]
              refine heldTake 13 (v := ?_) (by simp only [List.getElem?_toArray, List.getElem?_cons_succ, List.getElem?_cons_zero]; rfl) (by kernel_rfl) (by intro _ _ _ h; exact h) (by rfl) (by assumption) ?_ ?_
              rotate_left
              · intro W hSw; (try dsimp only at hSw); go_simp; try with_reducible rfl
              simp only [Act.put, List.setIfInBounds_toArray, List.set_cons_zero, List.set_cons_succ]
              refine heldTake 14 (v := ?_) (by simp only [List.getElem?_toArray, List.getElem?_cons_succ, List.getElem?_cons_zero]; rfl) (by kernel_rfl) (by intro _ _ _ h; exact h) (by rfl) (by assumption) ?_ ?_
              rotate_left
              · intro W hSw; (try dsimp only at hSw); go_simp; try with_reducible rfl
              simp only [Act.put, List.setIfInBounds_toArray, List.set_cons_zero, List.set_cons_succ]
              refine heldTake 15 (v := ?_) (by simp only [List.getElem?_toArray, List.getElem?_cons_succ, List.getElem?_cons_zero]; rfl) (by kernel_rfl) (by intro _ _ _ h; exact h) (by rfl) (by assumption) ?_ ?_
              rotate_left
              · intro W hSw; (try dsimp only at hSw); go_simp; try with_reducible rfl
              simp only [Act.put, List.setIfInBounds_toArray, List.set_cons_zero, List.set_cons_succ]
              refine heldTake 16 (v := ?_) (by simp only [List.getElem?_toArray, List.getElem?_cons_succ, List.getElem?_cons_zero]; rfl) (by kernel_rfl) (by intro _ _ _ h; exact h) (by rfl) (by assumption) ?_ ?_
              rotate_left
              · intro W hSw; (try dsimp only at hSw); go_simp; try with_reducible rfl
              simp only [Act.put, List.setIfInBounds_toArray, List.set_cons_zero, List.set_cons_succ]
              refine heldTake 17 (v := ?_) (by simp only [List.getElem?_toArray, List.getElem?_cons_succ, List.getElem?_cons_zero]; rfl) (by kernel_rfl) (by intro _ _ _ h; exact h) (by rfl) (by assumption) ?_ ?_
              rotate_left
              · intro W hSw; (try dsimp only at hSw); go_simp; try with_reducible rfl
              simp only [Act.put, List.setIfInBounds_toArray, List.set_cons_zero, List.set_cons_succ]
              refine heldTake 18 (v := ?_) (by simp only [List.getElem?_toArray, List.getElem?_cons_succ, List.getElem?_cons_zero]; rfl) (by kernel_rfl) (by intro _ _ _ h; exact h) (by rfl) (by assumption) ?_ ?_
              rotate_left
              · intro W hSw; (try dsimp only at hSw); go_simp; try with_reducible rfl
              simp only [Act.put, List.setIfInBounds_toArray, List.set_cons_zero, List.set_cons_succ]
              refine heldTake 19 (v := ?_) (by simp only [List.getElem?_toArray, List.getElem?_cons_succ, List.getElem?_cons_zero]; rfl) (by kernel_rfl) (by intro _ _ _ h; exact h) (by rfl) (by assumption) ?_ ?_
              rotate_left
              · intro W hSw; (try dsimp only at hSw); go_simp; try with_reducible rfl
              simp only [Act.put, List.setIfInBounds_toArray, List.set_cons_zero, List.set_cons_succ]
              refine heldCall 8 (by simp only [List.getElem?_toArray, List.getElem?_cons_succ, List.getElem?_cons_zero]; rfl) (by kernel_rfl) (fun K hK => ?_)
              go_simp
              refine Calls.mono (HN1.out _) ?_
              rintro e v5 ⟨rfl, hb5⟩
              replace hKx : Below wr.heap.size wr v5 := hKx.trans (hb5.mono hKx.size)
              clear hb5
              refine hK.out _ _ ?_ (fun hHeld => ?_)
              · first | exact ⟨c7, c8⟩ | exact HCELL.out _ (HBX.out.trans (hKx.mono hBW))
              clear hK K
              (try simp only [Act.put, List.setIfInBounds_toArray, List.set_cons_zero, List.set_cons_succ])
              refine heldCall 20 (by simp only [List.getElem?_toArray, List.getElem?_cons_succ, List.getElem?_cons_zero]; rfl) (by kernel_rfl) (fun K hK => ?_)
              go_simp
              refine Calls.mono (HN2.out _) ?_
              rintro e v6 ⟨rfl, hb6⟩
              replace hKx : Below wr.heap.size wr v6 := hKx.trans (hb6.mono hKx.size)
              clear hb6
              refine hK.out _ _ ?_ (fun hHeld => ?_)
              · first | exact ⟨c7, c8⟩ | exact HCELL.out _ (HBX.out.trans (hKx.mono hBW))
              clear hK K
              (try simp only [Act.put, List.setIfInBounds_toArray, List.set_cons_zero, List.set_cons_succ])
              refine heldTake 21 (v := ?_) (by simp only [List.getElem?_toArray, List.getElem?_cons_succ, List.getElem?_cons_zero]; rfl) (by kernel_rfl) (by intro _ _ _ h; exact h) (by rfl) (by assumption) ?_ ?_
              rotate_left
              · intro W hSw; (try dsimp only at hSw); go_simp; try with_reducible rfl
              simp only [Act.put, List.setIfInBounds_toArray, List.set_cons_zero, List.set_cons_succ]
              refine heldTake 22 (v := ?_) (by simp only [List.getElem?_toArray, List.getElem?_cons_succ, List.getElem?_cons_zero]; rfl) (by kernel_rfl) (by intro _ _ _ h; exact h) (by rfl) (by assumption) ?_ ?_
              rotate_left
              · intro W hSw; (try dsimp only at hSw); go_simp; try with_reducible rfl
              simp only [Act.put, List.setIfInBounds_toArray, List.set_cons_zero, List.set_cons_succ]
              refine heldTake 23 (v := ?_) (by simp only [List.getElem?_toArray, List.getElem?_cons_succ, List.getElem?_cons_zero]; rfl) (by kernel_rfl) (by intro _ _ _ h; exact h) (by rfl) (by assumption) ?_ ?_
              rotate_left
              · intro W hSw; (try dsimp only at hSw); go_simp; try with_reducible rfl
              simp only [Act.put, List.setIfInBounds_toArray, List.set_cons_zero, List.set_cons_succ]
              refine heldDone (by kernel_rfl) ?_ _
              have hn4f := HN4.out
              subst hn4f
              clear HN4 hn4 hn3 g1' g2' HN1 HN2 hHeld c7 c8
              have hBf : Below w2.heap.size w2 v6 := HBX.out.trans (hKx.mono hBW)
              obtain ⟨c7, c8⟩ := HCELL.out v6 hBf
              have HBf := Lib.hid hBf
              have HQf : Hid (q ++ (numB m1 ++ numB m2) ++ encR t (R.drop (j + 1)) ++ tl = T) := Lib.hid (by
                have := HQ9.out
                simp only [List.append_assoc] at this ⊢
                exact this)
              clear hBf hBW hKx
              go_wp2_with fail
              go_roundg (gk - 1)
              case measure => have := HJ.out; omega
              case rel => exact ⟨j + 1, t, _, by go_num, rfl, rfl, Lib.hid (by have := HJ.out; omega), by omega, HK3, by omega, ht9, HQf, HBf⟩
            · have hje : j = R.length := by have := HJ.out; omega
              have hqe : q ++ tl = T := by
                have := HQ.out
                rw [hje, List.drop_length] at this
                simpa [encR] using this
              have HQE := Lib.hid hqe
              have HBe := Lib.hid (HB2.out.trans (HBX.out.mono HB2.out.size))
              clear hqe hje
              go_wp2_with fail
              go_roundg (g1 - 1)
              case measure => have := HI.out; omega
              case rel => exact ⟨i + 1, q, by go_num, rfl, Lib.hid (by have := HI.out; omega), by omega, Lib.hid (by rw [HTLE.out]; exact HQE.out), HBe⟩
      · refine heldOp 18 (by simp only [List.getElem?_toArray, List.getElem?_cons_succ, List.getElem?_cons_zero]; rfl) (fun K hK => ?_)
        go_simp
        refine Calls.mono (HNUM.out _) ?_
        rintro e w5 ⟨rfl, hb5⟩
        try replace hblk := (hb5.block _ hbl4).trans hblk
        replace hKe : Below w2.heap.size w2 w5 := hKe.trans (hb5.mono hKe.size)
        clear hb5
        refine hK.out _ _ ?_ (fun hHeld => ?_)
        · first | exact HNM.out _ (HB2.out.trans (hKe.mono HB2.out.size)) | exact y3
        clear hK K
        (try simp only [Act.put, List.setIfInBounds_toArray, List.set_cons_zero, List.set_cons_succ])
        refine heldCall 8 (by simp only [List.getElem?_toArray, List.getElem?_cons_succ, List.getElem?_cons_zero]; rfl) (by kernel_rfl) (fun K hK => ?_)
        go_simp
        have hblk : (w5.alloc (.cells #[.int .u8 (IntKind.u8.wrap (name.size : Int))] 5)).heap[w5.heap.size]? = some (.cells #[.int .u8 (IntKind.u8.wrap (name.size : Int))] 5 (0, 0)) := heap_alloc_new w5 _
        replace hKe : Below w2.heap.size w2 (w5.alloc (.cells #[.int .u8 (IntKind.u8.wrap (name.size : Int))] 5)) := hKe.alloc hKe.size _
        generalize (w5.alloc (.cells #[.int .u8 (IntKind.u8.wrap (name.size : Int))] 5)) = W4 at *
        refine hK.out _ _ ?_ (fun hHeld => ?_)
        · first | exact HNM.out _ (HB2.out.trans (hKe.mono HB2.out.size)) | exact y3
        clear hK K
        (try simp only [Act.put, List.setIfInBounds_toArray, List.set_cons_zero, List.set_cons_succ])
        refine heldCall 9 (by simp only [List.getElem?_toArray, List.getElem?_cons_succ, List.getElem?_cons_zero]; rfl) (by kernel_rfl) (fun K hK => ?_)
        have hcv := conv_one _ (UInt8.ofNat name.size) _ HV4.out hblk
        have hcv2 := HSA.out
        unfold bstr at hcv2
        rw [show [UInt8.ofNat name.size].toArray = #[UInt8.ofNat name.size] from rfl] at hcv2
        rw [← hcv2] at hcv
        clear hcv2
        go_simp
        clear hcv
        refine hK.out _ _ ?_ (fun hHeld => ?_)
        · first | exact HNM.out _ (HB2.out.trans (hKe.mono HB2.out.size)) | exact y3
        clear hK K
        (try simp only [Act.put, List.setIfInBounds_toArray, List.set_cons_zero, List.set_cons_succ])
        refine heldTake 15 (v := ?_) (by simp only [List.getElem?_toArray, List.getElem?_cons_succ, List.getElem?_cons_zero]; rfl) (by kernel_rfl) (by intro _ _ _ h; exact h) (by rfl) (by assumption) ?_ ?_
        rotate_left
        · intro W hSw; (try dsimp only at hSw); go_simp; try with_reducible rfl
        simp only [Act.put, List.setIfInBounds_toArray, List.set_cons_zero, List.set_cons_succ]
        refine heldTake 19 (v := ?_) (by simp only [List.getElem?_toArray, List.getElem?_cons_succ, List.getElem?_cons_zero]; rfl) (by kernel_rfl) (by intro _ _ _ h; exact h) (by rfl) (by assumption) ?_ ?_
        rotate_left
        · intro W hSw; (try dsimp only at hSw); go_simp; try with_reducible rfl
        simp only [Act.put, List.setIfInBounds_toArray, List.set_cons_zero, List.set_cons_succ]
        refine heldTake 20 (v := ?_) (by simp only [List.getElem?_toArray, List.getElem?_cons_succ, List.getElem?_cons_zero]; rfl) (by kernel_rfl) (by intro _ _ _ h; exact h) (by rfl) (by assumption) ?_ ?_
        rotate_left
        · intro W hSw; (try dsimp only at hSw); go_simp; try with_reducible rfl
        simp only [Act.put, List.setIfInBounds_toArray, List.set_cons_zero, List.set_cons_succ]
        refine heldTake 21 (v := ?_) (by simp only [List.getElem?_toArray, List.getElem?_cons_succ, List.getElem?_cons_zero]; rfl) (by kernel_rfl) (by intro _ _ _ h; exact h) (by rfl) (by assumption) ?_ ?_
        rotate_left
        · intro W hSw; (try dsimp only at hSw); go_simp; try with_reducible rfl
        simp only [Act.put, List.setIfInBounds_toArray, List.set_cons_zero, List.set_cons_succ]
        refine heldDone (by kernel_rfl) ?_ _
        have hs3f := HS3.out
        subst hs3f
        clear HS3 hs3 f1 f2 f3 HSA HV4 HNUM HNM y3
        have HTR : Hid (pre ++ (UInt8.ofNat name.size :: name.data.toList ++ numB R.length) ++ encR 1 R ++ ((xs.drop (i + 1)).map (·.name)).flatMap (encS F) = T) := Lib.hid (by
          have h9 := HT2.out
          simp only [List.append_assoc, List.cons_append] at h9 ⊢
          exact h9)
        clear HT2 HT
        obtain ⟨tl, htl⟩ : ∃ tl, tl = ((xs.drop (i + 1)).map (·.name)).flatMap (encS F) := ⟨_, rfl⟩
        rw [← htl] at HTR
        have HTLE := Lib.hid htl.symm
        clear htl
        generalize pre ++ (UInt8.ofNat name.size :: name.data.toList ++ numB R.length) = q0 at *
        (try generalize gk = g1 at *)
        go_wp2_with fail
        (try go_frame)
        go_loopg [3, 6, 7] R.length (fun rest s3 s6 s7 wx => ∃ (j : Nat) (e9 : Int) (q : List UInt8), s7 = .int .i64 j ∧ s6 = .int .i64 e9 ∧ s3 = .string (bstr q) ∧ Hid (j + rest = R.length) ∧ (j : Int) ≤ 1000 ∧ Hid (RowOk (e9 - 1) (R.drop j)) ∧ 1 ≤ e9 ∧ e9 ≤ 1099511627777 ∧ Hid (q ++ encR e9 (R.drop j) ++ tl = T) ∧ Hid (Below w2.heap.size w2 wx))
        case atStart => exact ⟨0, 1, _, rfl, rfl, rfl, Lib.hid (by simp), by omega, HOK.out.1 |> Lib.hid, by omega, by omega, HTR, Lib.hid hKe⟩
        case round =>
          obtain ⟨j, e9, q, rfl, rfl, rfl, HJ, hj0, HRO, he1, he2, HQ, HBX⟩ := hrel
          by_cases hj : (j : Int) < (R.length : Int)
          · have hjl : j < R.length := by omega
            have hok9 := HRO.out
            rw [List.drop_eq_getElem_cons hjl] at hok9
            have hq9 := HQ.out
            rw [List.drop_eq_getElem_cons hjl] at hq9
            have ht9 := HOK.out.2 R[j] (List.getElem_mem hjl)
            obtain ⟨b9, o9, e0, hb9, hc9⟩ := HRD.out.2 (by omega)
            subst e0
            have hcell : ∀ W, Below w2.heap.size w2 W → W.cell? ⟨b9, o9 + j * 2, none⟩ = some (.int .i64 R[j].1) ∧ W.cell? ⟨b9, o9 + j * 2 + 1, none⟩ = some (.int .i64 R[j].2) := fun W hW => by
              obtain ⟨x1, x2⟩ := rgsCells_at hjl
              have y1 := (hW.cell (p := ⟨b9, o9 + j * 2, none⟩) hb9).trans (hc9 _ _ x1)
              have y2 := (hW.cell (p := ⟨b9, o9 + (j * 2 + 1), none⟩) hb9).trans (hc9 _ _ x2)
              rw [← Nat.add_assoc] at y2
              exact ⟨y1, y2⟩
            generalize R[j] = rj at *
            obtain ⟨f, t⟩ := rj
            simp only at hok9 hq9 ht9 hcell
            obtain ⟨k1, k2, k3⟩ := hok9
            simp only at k1 k2 k3
            have hen : encR e9 ((f, t) :: R.drop (j + 1)) = numB (f - e9).toNat ++ numB (t - f).toNat ++ encR t (R.drop (j + 1)) := rfl
            rw [hen] at hq9
            have HCELL := Lib.hid hcell
            have HQ9 := Lib.hid hq9
            have HK3 := Lib.hid (k3.mono (show t - 1 ≤ t by omega))
            clear hen hq9 k3 hcell hc9
            have hx1 : (((f - e9).toNat : Nat) : Int) = f - e9 := by omega
            have hx2 : (((t - f).toNat : Nat) : Int) = t - f := by omega
            have w1' : IntKind.i64.wrap (f - e9) = (((f - e9).toNat : Nat) : Int) := by rw [IntWalk.i64_in _ (by omega), hx1]
            have w2' : IntKind.i64.wrap (t - f) = (((t - f).toNat : Nat) : Int) := by rw [IntWalk.i64_in _ (by omega), hx2]
            have hn1 := fun W => num_str (f - e9).toNat (by omega) W
            have hn2 := fun W => num_str (t - f).toNat (by omega) W
            have hl1 : (numB (f - e9).toNat).length ≤ 6 := numB_le6 (by omega)
            have hl2' : (numB (t - f).toNat).length ≤ 6 := numB_le6 (by omega)
            have hlq : q.length ≤ 1000000000 := by
              have := congrArg List.length HQ.out
              simp only [List.length_append] at this
              omega
            generalize (f - e9).toNat = m1 at *
            generalize (t - f).toNat = m2 at *
            clear hx1 hx2
            obtain ⟨sq, hsq⟩ : ∃ sq, sq = bstr q := ⟨_, rfl⟩
            obtain ⟨n1, hsn1⟩ : ∃ n1, n1 = bstr (numB m1) := ⟨_, rfl⟩
            obtain ⟨n2, hsn2⟩ : ∃ n2, n2 = bstr (numB m2) := ⟨_, rfl⟩
            have z1 : sq.size ≤ 1000000000 := by rw [hsq, bstr_size]; exact hlq
            have z2 : n1.size ≤ 6 := by rw [hsn1, bstr_size]; exact hl1
            have z3 : n2.size ≤ 6 := by rw [hsn2, bstr_size]; exact hl2'
            obtain ⟨n3, hn3⟩ : ∃ n3, n1 ++ n2 = n3 := ⟨_, rfl⟩
            obtain ⟨n4, hn4⟩ : ∃ n4, sq ++ n3 = n4 := ⟨_, rfl⟩
            have z4 : n3.size ≤ 12 := by rw [← hn3, ByteArray.size_append]; omega
            have g1' := add_fits (a := n1) (b := n2) (by omega)
            have g2' := add_fits (a := sq) (b := n3) (by omega)
            have hn4e : n4 = bstr (q ++ (numB m1 ++ numB m2)) := by rw [← hn4, ← hn3, hsq, hsn1, hsn2, bstr_app, bstr_app]
            rw [← hsn1] at hn1
            rw [← hsn2] at hn2
            rw [← hsq]
            have HN1 := Lib.hid hn1
            have HN2 := Lib.hid hn2
            have HN4 := Lib.hid hn4e
            obtain ⟨c7, c8⟩ := HCELL.out wr HBX.out
            have hKx : Below wr.heap.size wr wr.drew := (Below.refl _ _).drew
            have hBW := HBX.out.size
            clear hn1 hn2 hn4e hsq hsn1 hsn2 z1 z2 z3 z4 hl1 hl2' hlq
            go_wp2_with fail
            refine heldStart 23 (S := fun W => W.cell? ⟨b9, o9 + j * 2, none⟩ = some (.int .i64 f) ∧ W.cell? ⟨b9, o9 + j * 2 + 1, none⟩ = some (.int .i64 t)) (by kernel_rfl) ?_ (fun hHeld => ?_)
            · first | exact ⟨c7, c8⟩ | exact HCELL.out _ (HBX.out.trans (hKx.mono hBW))
            refine heldTake 0 (v := ?_) (by simp only [List.getElem?_toArray, List.getElem?_cons_succ, List.getElem?_cons_zero]; rfl) (by kernel_rfl) (by intro _ _ _ h; exact h) (by rfl) (by assumption) ?_ ?_
            rotate_left
            · intro W hSw; (try dsimp only at hSw); go_simp; try with_reducible rfl
            simp only [Act.put, List.setIfInBounds_toArray, List.set_cons_zero, List.set_cons_succ]
            refine heldTake 1 (v := ?_) (by simp only [List.getElem?_toArray, List.getElem?_cons_succ, List.getElem?_cons_zero]; rfl) (by kernel_rfl) (by intro _ _ _ h; exact h) (by rfl) (by assumption) ?_ ?_
            rotate_left
            · intro W hSw; (try dsimp only at hSw); go_simp; try with_reducible rfl
            simp only [Act.put, List.setIfInBounds_toArray, List.set_cons_zero, List.set_cons_succ]
            refine heldTake 2 (v := ?_) (by simp only [List.getElem?_toArray, List.getElem?_cons_succ, List.getElem?_cons_zero]; rfl) (by kernel_rfl) (by intro _ _ _ h; exact h) (by rfl) (by assumption) ?_ ?_
            rotate_left
            · intro W hSw; (try dsimp only at hSw); go_simp; try with_reducible rfl
            simp only [Act.put, List.setIfInBounds_toArray, List.set_cons_zero, List.set_cons_succ]
            refine heldTake 3 (v := ?_) (by simp only [List.getElem?_toArray, List.getElem?_cons_succ, List.getElem?_cons_zero]; rfl) (by kernel_rfl) (by intro _ _ _ h; exact h) (by rfl) (by assumption) ?_ ?_
            rotate_left
            · intro W hSw; (try dsimp only at hSw); go_simp; try with_reducible rfl
            simp only [Act.put, List.setIfInBounds_toArray, List.set_cons_zero, List.set_cons_succ]
            refine heldTake 4 (v := ?_) (by simp only [List.getElem?_toArray, List.getElem?_cons_succ, List.getElem?_cons_zero]; rfl) (by kernel_rfl) (by intro _ _ _ h; exact h) (by rfl) (by assumption) ?_ ?_
            rotate_left
            · intro W hSw; (try dsimp only at hSw); go_simp; try with_reducible rfl
            simp only [Act.put, List.setIfInBounds_toArray, List.set_cons_zero, List.set_cons_succ]
            refine heldTake 5 (v := ?_) (by simp only [List.getElem?_toArray, List.getElem?_cons_succ, List.getElem?_cons_zero]; rfl) (by kernel_rfl) (by intro _ _ _ h; exact h) (by rfl) (by assumption) ?_ ?_
            rotate_left
            · intro W hSw; (try dsimp only at hSw); go_simp; try with_reducible rfl
            simp only [Act.put, List.setIfInBounds_toArray, List.set_cons_zero, List.set_cons_succ]
            refine heldTake 6 (v := ?_) (by simp only [List.getElem?_toArray, List.getElem?_cons_succ, List.getElem?_cons_zero]; rfl) (by kernel_rfl) (by intro _ _ _ h; exact h) (by rfl) (by assumption) ?_ ?_
            rotate_left
            · intro W hSw; (try dsimp only at hSw); go_simp; try with_reducible rfl
            simp only [Act.put, List.setIfInBounds_toArray, List.set_cons_zero, List.set_cons_succ]
            refine heldTake 7 (v := ?_) (by simp only [List.getElem?_toArray, List.getElem?_cons_succ, List.getElem?_cons_zero]; rfl) (by kernel_rfl) (by intro _ _ _ h; exact h) (by rfl) (by assumption) ?_ ?_
            rotate_left
            · intro W hSw; (try dsimp only at hSw); go_simp; try with_reducible rfl
            simp only [Act.put, List.setIfInBounds_toArray, List.set_cons_zero, List.set_cons_succ]
            refine heldTake 9 (v := ?_) (by simp only [List.getElem?_toArray, List.getElem?_cons_succ, List.getElem?_cons_zero]; rfl) (by kernel_rfl) (by intro _ _ _ h; exact h) (by rfl) (by assumption) ?_ ?_
            rotate_left
            · intro W hSw; (try dsimp only at hSw); go_simp; try with_reducible rfl
            simp only [Act.put, List.setIfInBounds_toArray, List.set_cons_zero, List.set_cons_succ]
            refine heldTake 10 (v := ?_) (by simp only [List.getElem?_toArray, List.getElem?_cons_succ, List.getElem?_cons_zero]; rfl) (by kernel_rfl) (by intro _ _ _ h; exact h) (by rfl) (by assumption) ?_ ?_
            rotate_left
            · intro W hSw; (try dsimp only at hSw); go_simp; try with_reducible rfl
            simp only [Act.put, List.setIfInBounds_toArray, List.set_cons_zero, List.set_cons_succ]
            refine heldTake 11 (v := ?_) (by simp only [List.getElem?_toArray, List.getElem?_cons_succ, List.getElem?_cons_zero]; rfl) (by kernel_rfl) (by intro _ _ _ h; exact h) (by rfl) (by assumption) ?_ ?_
            rotate_left
            · intro W hSw; (try dsimp only at hSw); go_simp; try with_reducible rfl
            simp only [Act.put, List.setIfInBounds_toArray, List.set_cons_zero, List.set_cons_succ]
            refine heldTake 12 (v := ?_) (by simp only [List.getElem?_toArray, List.getElem?_cons_succ, List.getElem?_cons_zero]; rfl) (by kernel_rfl) (by intro _ _ _ h; exact h) (by rfl) (by assumption) ?_ ?_
            rotate_left
            · intro W hSw; (try dsimp only at hSw); go_simp; try with_reducible rfl
            simp only [Act.put, List.setIfInBounds_toArray, List.set_cons_zero, List.set_cons_succ]
            refine heldTake 13 (v := ?_) (by simp only [List.getElem?_toArray, List.getElem?_cons_succ, List.getElem?_cons_zero]; rfl) (by kernel_rfl) (by intro _ _ _ h; exact h) (by rfl) (by assumption) ?_ ?_
            rotate_left
            · intro W hSw; (try dsimp only at hSw); go_simp; try with_reducible rfl
            simp only [Act.put, List.setIfInBounds_toArray, List.set_cons_zero, List.set_cons_succ]
            refine heldTake 14 (v := ?_) (by simp only [List.getElem?_toArray, List.getElem?_cons_succ, List.getElem?_cons_zero]; rfl) (by kernel_rfl) (by intro _ _ _ h; exact h) (by rfl) (by assumption) ?_ ?_
            rotate_left
            · intro W hSw; (try dsimp only at hSw); go_simp; try with_reducible rfl
            simp only [Act.put, List.setIfInBounds_toArray, List.set_cons_zero, List.set_cons_succ]
            refine heldTake 15 (v := ?_) (by simp only [List.getElem?_toArray, List.getElem?_cons_succ, List.getElem?_cons_zero]; rfl) (by kernel_rfl) (by intro _ _ _ h; exact h) (by rfl) (by assumption) ?_ ?_
            rotate_left
            · intro W hSw; (try dsimp only at hSw); go_simp; try with_reducible rfl
            simp only [Act.put, List.setIfInBounds_toArray, List.set_cons_zero, List.set_cons_succ]
            refine heldTake 16 (v := ?_) (by simp only [List.getElem?_toArray, List.getElem?_cons_succ, List.getElem?_cons_zero]; rfl) (by kernel_rfl) (by intro _ _ _ h; exact h) (by rfl) (by assumption) ?_ ?_
            rotate_left
            · intro W hSw; (try dsimp only at hSw); go_simp; try with_reducible rfl
            simp only [Act.put, List.setIfInBounds_toArray, List.set_cons_zero, List.set_cons_succ]
            refine heldTake 17 (v := ?_) (by simp only [List.getElem?_toArray, List.getElem?_cons_succ, List.getElem?_cons_zero]; rfl) (by kernel_rfl) (by intro _ _ _ h; exact h) (by rfl) (by assumption) ?_ ?_
            rotate_left
            · intro W hSw; (try dsimp only at hSw); go_simp; try with_reducible rfl
            simp only [Act.put, List.setIfInBounds_toArray, List.set_cons_zero, List.set_cons_succ]
            refine heldTake 18 (v := ?_) (by simp only [List.getElem?_toArray, List.getElem?_cons_succ, List.getElem?_cons_zero]; rfl) (by kernel_rfl) (by intro _ _ _ h; exact h) (by rfl) (by assumption) ?_ ?_
            rotate_left
            · intro W hSw; (try dsimp only at hSw); go_simp; try with_reducible rfl
            simp only [Act.put, List.setIfInBounds_toArray, List.set_cons_zero, List.set_cons_succ]
            refine heldTake 19 (v := ?_) (by simp only [List.getElem?_toArray, List.getElem?_cons_succ, List.getElem?_cons_zero]; rfl) (by kernel_rfl) (by intro _ _ _ h; exact h) (by rfl) (by assumption) ?_ ?_
            rotate_left
            · intro W hSw; (try dsimp only at hSw); go_simp; try with_reducible rfl
            simp only [Act.put, List.setIfInBounds_toArray, List.set_cons_zero, List.set_cons_succ]
            refine heldCall 8 (by simp only [List.getElem?_toArray, List.getElem?_cons_succ, List.getElem?_cons_zero]; rfl) (by kernel_rfl) (fun K hK => ?_)
            go_simp
            refine Calls.mono (HN1.out _) ?_
            rintro e v5 ⟨rfl, hb5⟩
            replace hKx : Below wr.heap.size wr v5 := hKx.trans (hb5.mono hKx.size)
            clear hb5
            refine hK.out _ _ ?_ (fun hHeld => ?_)
            · first | exact ⟨c7, c8⟩ | exact HCELL.out _ (HBX.out.trans (hKx.mono hBW))
            clear hK K
            (try simp only [Act.put, List.setIfInBounds_toArray, List.set_cons_zero, List.set_cons_succ])
            refine heldCall 20 (by simp only [List.getElem?_toArray, List.getElem?_cons_succ, List.getElem?_cons_zero]; rfl) (by kernel_rfl) (fun K hK => ?_)
            go_simp
            refine Calls.mono (HN2.out _) ?_
            rintro e v6 ⟨rfl, hb6⟩
            replace hKx : Below wr.heap.size wr v6 := hKx.trans (hb6.mono hKx.size)
            clear hb6
            refine hK.out _ _ ?_ (fun hHeld => ?_)
            · first | exact ⟨c7, c8⟩ | exact HCELL.out _ (HBX.out.trans (hKx.mono hBW))
            clear hK K
            (try simp only [Act.put, List.setIfInBounds_toArray, List.set_cons_zero, List.set_cons_succ])
            refine heldTake 21 (v := ?_) (by simp only [List.getElem?_toArray, List.getElem?_cons_succ, List.getElem?_cons_zero]; rfl) (by kernel_rfl) (by intro _ _ _ h; exact h) (by rfl) (by assumption) ?_ ?_
            rotate_left
            · intro W hSw; (try dsimp only at hSw); go_simp; try with_reducible rfl
            simp only [Act.put, List.setIfInBounds_toArray, List.set_cons_zero, List.set_cons_succ]
            refine heldTake 22 (v := ?_) (by simp only [List.getElem?_toArray, List.getElem?_cons_succ, List.getElem?_cons_zero]; rfl) (by kernel_rfl) (by intro _ _ _ h; exact h) (by rfl) (by assumption) ?_ ?_
            rotate_left
            · intro W hSw; (try dsimp only at hSw); go_simp; try with_reducible rfl
            simp only [Act.put, List.setIfInBounds_toArray, List.set_cons_zero, List.set_cons_succ]
            refine heldTake 23 (v := ?_) (by simp only [List.getElem?_toArray, List.getElem?_cons_succ, List.getElem?_cons_zero]; rfl) (by kernel_rfl) (by intro _ _ _ h; exact h) (by rfl) (by assumption) ?_ ?_
            rotate_left
            · intro W hSw; (try dsimp only at hSw); go_simp; try with_reducible rfl
            simp only [Act.put, List.setIfInBounds_toArray, List.set_cons_zero, List.set_cons_succ]
            refine heldDone (by kernel_rfl) ?_ _
            have hn4f := HN4.out
            subst hn4f
            clear HN4 hn4 hn3 g1' g2' HN1 HN2 hHeld c7 c8
            have hBf : Below w2.heap.size w2 v6 := HBX.out.trans (hKx.mono hBW)
            obtain ⟨c7, c8⟩ := HCELL.out v6 hBf
            have HBf := Lib.hid hBf
            have HQf : Hid (q ++ (numB m1 ++ numB m2) ++ encR t (R.drop (j + 1)) ++ tl = T) := Lib.hid (by
              have := HQ9.out
              simp only [List.append_assoc] at this ⊢
              exact this)
            clear hBf hBW hKx
            go_wp2_with fail
            go_roundg (gk - 1)
            case measure => have := HJ.out; omega
            case rel => exact ⟨j + 1, t, _, by go_num, rfl, rfl, Lib.hid (by have := HJ.out; omega), by omega, HK3, by omega, ht9, HQf, HBf⟩
          · have hje : j = R.length := by have := HJ.out; omega
            have hqe : q ++ tl = T := by
              have := HQ.out
              rw [hje, List.drop_length] at this
              simpa [encR] using this
            have HQE := Lib.hid hqe
            have HBe := Lib.hid (HB2.out.trans (HBX.out.mono HB2.out.size))
            clear hqe hje
            go_wp2_with fail
            go_roundg (g1 - 1)
            case measure => have := HI.out; omega
            case rel => exact ⟨i + 1, q, by go_num, rfl, Lib.hid (by have := HI.out; omega), by omega, Lib.hid (by rw [HTLE.out]; exact HQE.out), HBe⟩
    · have hie : i = xs.length := by have := HI.out; omega
      have hpre : pre = T := by
        have h9 := HT.out
        rw [hie, List.drop_length] at h9
        simpa using h9
      subst hpre
      have HFN : Hid (ByNew w (bstr pre) (.returned (.string (bstr pre))) wr) := Lib.hid ⟨rfl, HB.out⟩
      go_wp2_with fail
      go_ret
      exact HFN.out
end Go.Proofs.Ytcladmcbhnmhiaa
