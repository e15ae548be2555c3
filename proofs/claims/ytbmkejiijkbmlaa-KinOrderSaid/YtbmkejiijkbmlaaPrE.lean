/- Pairs as objects; contracts of pairs.New, own, Add, Of, Single, Count. -/
import Derived.Test.YtbmkejiijkbmlaaPrD
import Derived.Test.YtbmkejiijkbmlaaPrEq
import Derived.Test.YtbmkejiijkbmlaaKitC
namespace Go.Proofs.Ytbmkejiijkbmlaa
open Go.ChangeShapes Go.WideShapes Go.ChangeAt Go.RowKit Go.Shelf Go.Lib Go.Sort Go.Proofs
set_option linter.unusedVariables false
set_option linter.unusedSimpArgs false

set_option maxHeartbeats 1000000 in
theorem padd_any (pb : Nat) (F : Nat → Prop) (L : List (List ByteArray)) (s : SessD) (B : Nat) (w : World) (h : PairO w pb F L) (hs : SessOk w B s) (hB : B ≤ w.heap.size) (hl : (s.l.length : Int) ≤ 1000) (hL : (L.length : Int) ≤ 100000) :
    Calls Try.prog 14 #[.pointer (some ⟨pb, 0, none⟩), .agg (sessCells s).toArray] w fun e w' => e = .returned (.tuple #[]) ∧ ∃ F', PairO w' pb F' (L ++ [s.l]) ∧ Upd F w F' w' := by
  obtain ⟨tb, G, hp, ht, hpG, rfl⟩ := h
  obtain ⟨who, fr, to, A, c, l⟩ := s
  simp only at hl
  obtain ⟨W1, hW1⟩ : ∃ W1, W1 = w.alloc (.cells #[.string who, .int .i64 fr, .int .i64 to, .slice A l.length c] 34) := ⟨_, rfl⟩
  have hb1 : Below w.heap.size w W1 := by rw [hW1]; exact (Below.refl _ w).alloc (Nat.le_refl _) _
  have hz1 : W1.heap.size = w.heap.size + 1 := by rw [hW1]; simp
  have d0 : W1.cell? ⟨w.heap.size, 0, none⟩ = some (.string who) := by rw [hW1]; simp
  have d1 : W1.cell? ⟨w.heap.size, 1, none⟩ = some (.int .i64 fr) := by rw [hW1]; simp
  have d2 : W1.cell? ⟨w.heap.size, 2, none⟩ = some (.int .i64 to) := by rw [hW1]; simp
  have d3 : W1.cell? ⟨w.heap.size, 3, none⟩ = some (.slice A l.length c) := by rw [hW1]; simp
  have hKe : Below w.heap.size w W1.drew := ⟨hb1.os, hb1.tape, hb1.output, hb1.size, hb1.block⟩
  have hlt := (TabObj.own tb _ _).lt ht
  have hp1 : PAt W1.drew pb tb false := hp.keep (Keeps.ofBelow hKe (fun _ => False)) (fun h => h)
  have ht1 : TabObj W1.drew tb G (cnt1 L) (pairF L) := (TabObj.own tb _ _).below ht hKe
  have q1 := own_any pb tb W1.drew hp1
  have q2 := things_any ⟨who, fr, to, A, c, l⟩ B W1.drew (hs.below (hKe.mono hB)) (by have := hKe.size; omega) (by simp only; omega)
  have hk4 : ∀ W, Below W1.drew.heap.size W1.drew W → W.cell? ⟨w.heap.size, 0, none⟩ = some (.string who) ∧ W.cell? ⟨w.heap.size, 1, none⟩ = some (.int .i64 fr) ∧ W.cell? ⟨w.heap.size, 2, none⟩ = some (.int .i64 to) ∧ W.cell? ⟨w.heap.size, 3, none⟩ = some (.slice A l.length c) := fun W hb => by
    have hz : w.heap.size < W1.drew.heap.size := by show w.heap.size < W1.heap.size; omega
    exact ⟨(hb.cell (p := ⟨w.heap.size, 0, none⟩) hz).trans d0, (hb.cell (p := ⟨w.heap.size, 1, none⟩) hz).trans d1, (hb.cell (p := ⟨w.heap.size, 2, none⟩) hz).trans d2, (hb.cell (p := ⟨w.heap.size, 3, none⟩) hz).trans d3⟩
  have HK4 := Lib.hid hk4
  clear hk4
  have Q1 := Lib.hid q1
  have Q2 := Lib.hid q2
  have HT1 := Lib.hid ht1
  have HLT := Lib.hid hlt
  have HP1 := Lib.hid hp1
  have HPG := Lib.hid hpG
  have hplt : pb < w.heap.size := hp.lt
  clear q1 q2 ht1 hlt hp1 hpG hs ht hp
  unfold sessCells at *
  go_enter Try.func14, Try.ntmps14
  go_wp2
  rw [← hW1]
  clear hW1
  refine heldStart 4 (S := fun W => W.cell? ⟨w.heap.size, 0, none⟩ = some (.string who) ∧ W.cell? ⟨w.heap.size, 1, none⟩ = some (.int .i64 fr) ∧ W.cell? ⟨w.heap.size, 2, none⟩ = some (.int .i64 to) ∧ W.cell? ⟨w.heap.size, 3, none⟩ = some (.slice A l.length c)) (by kernel_rfl) ?_ (fun hHeld => ?_)
  · first | exact ⟨d0, d1, d2, d3⟩ | exact HK4.out _ HBX.out
  refine heldTake 0 (v := ?_) (by simp only [List.getElem?_toArray, List.getElem?_cons_succ, List.getElem?_cons_zero]; rfl) (by kernel_rfl) (by intro _ _ _ h; exact h) (by rfl) (by assumption) ?_ ?_
  rotate_left
  · intro W hSw; (try dsimp only at hSw); go_simp; try with_reducible rfl
  simp only [Act.put, List.setIfInBounds_toArray, List.set_cons_zero, List.set_cons_succ]
  refine heldTake 2 (v := ?_) (by simp only [List.getElem?_toArray, List.getElem?_cons_succ, List.getElem?_cons_zero]; rfl) (by kernel_rfl) (by intro _ _ _ h; exact h) (by rfl) (by assumption) ?_ ?_
  rotate_left
  · intro W hSw; (try dsimp only at hSw); go_simp; try with_reducible rfl
  simp only [Act.put, List.setIfInBounds_toArray, List.set_cons_zero, List.set_cons_succ]
  refine heldCall 1 (by simp only [List.getElem?_toArray, List.getElem?_cons_succ, List.getElem?_cons_zero]; rfl) (by kernel_rfl) (fun K hK => ?_)
  go_simp
  refine Q1.out.mono ?_
  rintro e w2 ⟨rfl, rfl⟩
  go_wp2_with fail
  refine hK.out _ _ ?_ (fun hHeld => ?_)
  · first | exact ⟨d0, d1, d2, d3⟩ | exact HK4.out _ HBX.out
  clear hK K
  (try simp only [Act.put, List.setIfInBounds_toArray, List.set_cons_zero, List.set_cons_succ])
  refine heldCall 3 (by simp only [List.getElem?_toArray, List.getElem?_cons_succ, List.getElem?_cons_zero]; rfl) (by kernel_rfl) (fun K hK => ?_)
  go_simp
  refine Q2.out.mono ?_
  rintro e w3 ⟨A', c', T, rfl, hT, hsT, hbT, hb3⟩
  have hTl : (T.length : Int) ≤ 1000 := by
    have := nodup_len hT.nodup (fun x hx => (hT.2 x).1 hx)
    omega
  have hG3 : TabObj w3 tb G (cnt1 L) (pairF L) := (TabObj.own tb _ _).below HT1.out hb3
  have q3 := all_any tb G (cnt1 L) (pairF L) A' c' w3.heap.size T 1 w3 hG3 hsT (Nat.le_refl _) (fun b o sp e hG => by have h1 := hbT b o sp e; have h2 := HLT.out b hG; have h3 := hKe.size; have h4 : W1.drew.heap.size = w.heap.size + 1 := hz1; omega) (by omega) hT.nodup (by omega) (fun a => by have := cnt1_le L a; omega) (fun a b => by have := pairF_le L a b; omega)
  rw [cnt1_snoc L l T hT.2, pairF_snoc L l T hT.2] at q3
  have Q3 := Lib.hid q3
  have HBX := Lib.hid hb3
  have HB3 : Hid (Below w.heap.size w w3) := Lib.hid (hKe.trans (hb3.mono hKe.size))
  have HP3 : Hid (PAt w3 pb tb false) := Lib.hid (HP1.out.keep (Keeps.ofBelow hb3 (fun _ => False)) (fun h => h))
  clear q3 hG3 hTl hbT hsT hT hb3
  go_wp2_with fail
  refine hK.out _ _ ?_ (fun hHeld => ?_)
  · first | exact ⟨d0, d1, d2, d3⟩ | exact HK4.out _ HBX.out
  clear hK K
  (try simp only [Act.put, List.setIfInBounds_toArray, List.set_cons_zero, List.set_cons_succ])
  refine heldLast 4 (by simp only [List.getElem?_toArray, List.getElem?_cons_succ, List.getElem?_cons_zero]; rfl) (by kernel_rfl) rfl (fun K hK => ?_)
  go_simp
  refine Q3.out.mono ?_
  rintro e w4 ⟨rfl, G', hT4, hU4⟩
  have hT4' := Lib.hid hT4
  clear hT4
  go_wp2_with fail
  refine hK.out _ _ ?_
  clear hK K
  (try simp only [Act.put, List.setIfInBounds_toArray, List.set_cons_zero, List.set_cons_succ])
  refine heldDone (by kernel_rfl) ?_ _
  go_wp2
  go_end0
  refine ⟨rfl, _, ⟨tb, G', HP3.out.keep hU4.keeps HPG.out, hT4'.out, fun h => ?_, rfl⟩, ?_, ?_⟩
  · rcases hU4.foot _ h with h1 | h1
    · exact HPG.out h1
    · have := HB3.out.size; omega
  · exact (Keeps.ofBelow HB3.out _).trans hU4.keeps (fun k _ hk => .inr hk)
  · rintro k (rfl | hk)
    · exact .inl (.inl rfl)
    · rcases hU4.foot _ hk with h1 | h1
      · exact .inl (.inr h1)
      · exact .inr (by have := HB3.out.size; omega)

/-- Sessions in memory. -/
def SessAt (w : World) (B : Nat) (A : Option Addr) (l : List SessD) : Prop := Reads w B 4 A l.length (l.flatMap sessCells) ∧ ∀ s ∈ l, SessOk w B s
theorem SessAt.below {w w' : World} {B : Nat} {A : Option Addr} {l : List SessD} (h : SessAt w B A l) (hb : Below B w w') : SessAt w' B A l := ⟨h.1.below hb, fun s hs => (h.2 s hs).below hb⟩
theorem SessAt.one {w : World} {B : Nat} {A : Option Addr} {l : List SessD} (h : SessAt w B A l) {k : Nat} (hk : k < l.length) :
    ∃ b o, A = some ⟨b, o, none⟩ ∧ b < B ∧ w.cell? ⟨b, o + k * 4, none⟩ = some (.string l[k].who) ∧ w.cell? ⟨b, o + k * 4 + 1, none⟩ = some (.int .i64 l[k].from_) ∧ w.cell? ⟨b, o + k * 4 + 2, none⟩ = some (.int .i64 l[k].to_) ∧ w.cell? ⟨b, o + k * 4 + 3, none⟩ = some (.slice l[k].adr l[k].l.length l[k].cap) ∧ SessOk w B l[k] := by
  obtain ⟨b, o, e, hb, hc⟩ := h.1.2 (by omega)
  have f := fun j (hj : j < 4) => flat_getE (e := sessCells) (k := 4) (fun _ => rfl) l k j hk hj
  refine ⟨b, o, e, hb, ?_, ?_, ?_, ?_, h.2 _ (List.getElem_mem hk)⟩
  · have := hc (k * 4 + 0) _ (by rw [f 0 (by omega)]; rfl)
    simpa using this
  · have := hc (k * 4 + 1) _ (by rw [f 1 (by omega)]; rfl)
    simpa [Nat.add_assoc] using this
  · have := hc (k * 4 + 2) _ (by rw [f 2 (by omega)]; rfl)
    simpa [Nat.add_assoc] using this
  · have := hc (k * 4 + 3) _ (by rw [f 3 (by omega)]; rfl)
    simpa [Nat.add_assoc] using this

def itemsOf (l : List SessD) : List (List ByteArray) := l.map (·.l)

set_option maxRecDepth 20000 in
set_option maxHeartbeats 2000000 in
theorem pof_any (A : Option Addr) (c B : Nat) (l : List SessD) (w : World) (h : SessAt w B A l) (hB : B ≤ w.heap.size) (hl : (l.length : Int) ≤ 1000) (hi : ∀ s ∈ l, (s.l.length : Int) ≤ 1000) :
    Calls Try.prog 10 #[.slice A l.length c] w fun e w' => ∃ pb F, e = .returned (.pointer (some ⟨pb, 0, none⟩)) ∧ PairO w' pb F (itemsOf l) ∧ (∀ k, F k → w.heap.size ≤ k) ∧ Below w.heap.size w w' := by
  have HI := Lib.hid hi
  clear hi
  go_enter Try.func10, Try.ntmps10
  go_wp2_with fail
  refine (pairsNew_any w).mono ?_
  rintro e w1 ⟨pb, F, rfl, hO, hF, hb1⟩
  have HF := Lib.hid hF
  have HO := Lib.hid hO
  clear hF hO
  go_wp2_with fail
  go_loopg [9] l.length (fun rest i wr => ∃ (k : Nat) (F' : Nat → Prop), i = .int .i64 k ∧ Hid (k + rest = l.length) ∧ Hid (PairO wr pb F' (itemsOf (l.take k))) ∧ Hid (∀ j, F' j → w.heap.size ≤ j) ∧ Below w.heap.size w wr)
  case atStart => exact ⟨0, F, rfl, Lib.hid (by simp), Lib.hid (by simpa [itemsOf] using HO.out), HF, hb1⟩
  case round =>
    clear HO HF
    obtain ⟨k, F', rfl, HK, HO, HF, hb⟩ := hrel
    by_cases hk : (k : Int) < (l.length : Int)
    · have hkl : k < l.length := by omega
      obtain ⟨b, o, rfl, hbl, c1, c2, c3, c4, hok⟩ := (h.below (hb.mono hB)).one hkl
      have hz := hb.size
      have ht : itemsOf (l.take (k + 1)) = itemsOf (l.take k) ++ [l[k].l] := by
        unfold itemsOf
        rw [List.take_succ_eq_append_getElem hkl, List.map_append]
        rfl
      have hil := HI.out _ (List.getElem_mem hkl)
      have hcl : ((itemsOf (l.take k)).length : Int) ≤ 1000 := by unfold itemsOf; rw [List.length_map]; have := List.length_take_le k l; omega
      have HT := Lib.hid ht
      have HC := Lib.hid hcl
      have HIL := Lib.hid hil
      have HOK := Lib.hid hok
      clear ht hcl hil hok
      generalize l[k] = x at *
      obtain ⟨who, fr, to, xa, xc, xl⟩ := x
      simp only at c1 c2 c3 c4
      obtain ⟨W5, hW5⟩ : ∃ W5, W5 = wr.alloc (.cells #[.string who, .int .i64 fr, .int .i64 to, .slice xa xl.length xc] 34) := ⟨_, rfl⟩
      have hb5 : Below wr.heap.size wr W5 := by rw [hW5]; exact (Below.refl _ _).alloc (Nat.le_refl _) _
      have d0 : (wr.alloc (.cells #[.string who, .int .i64 fr, .int .i64 to, .slice xa xl.length xc] 34)).cell? ⟨wr.heap.size, 0, none⟩ = some (.string who) := by simp
      have d1 : (wr.alloc (.cells #[.string who, .int .i64 fr, .int .i64 to, .slice xa xl.length xc] 34)).cell? ⟨wr.heap.size, 1, none⟩ = some (.int .i64 fr) := by simp
      have d2 : (wr.alloc (.cells #[.string who, .int .i64 fr, .int .i64 to, .slice xa xl.length xc] 34)).cell? ⟨wr.heap.size, 2, none⟩ = some (.int .i64 to) := by simp
      have d3 : (wr.alloc (.cells #[.string who, .int .i64 fr, .int .i64 to, .slice xa xl.length xc] 34)).cell? ⟨wr.heap.size, 3, none⟩ = some (.slice xa xl.length xc) := by simp
      have hO5 : PairO W5 pb F' (itemsOf (l.take k)) := (PairO.own _ _).below HO.out hb5
      have q := padd_any pb F' (itemsOf (l.take k)) ⟨who, fr, to, xa, xc, xl⟩ B W5 hO5 (HOK.out.below (hb5.mono (by omega))) (by have := hb5.size; omega) HIL.out (by have := HC.out; omega)
      rw [← HT.out] at q
      have Q := Lib.hid q
      have HB5 := Lib.hid (hb.trans (hb5.mono hz))
      clear q hO5 hb5 HO HOK
      unfold sessCells at Q
      go_wp2_with fail
      rw [← hW5]
      refine Q.out.mono ?_
      rintro e w6 ⟨rfl, F2, hO6, hU6⟩
      have HO6 := Lib.hid hO6
      have HF6 : Hid (∀ j, F2 j → w.heap.size ≤ j) := Lib.hid (hU6.base HB5.out.size HF.out)
      have hb6 := hU6.belowB HB5.out (Nat.le_refl _) HF.out
      clear hO6 hU6 Q hW5 d0 d1 d2 d3
      go_wp2_with fail
      go_roundg (gk - 1)
      case measure => have := HK.out; omega
      case rel => exact ⟨k + 1, F2, by go_num, Lib.hid (by have := HK.out; omega), HO6, HF6, hb6⟩
    · have hkl : k = l.length := by have := HK.out; omega
      go_wp2
      go_ret
      refine ⟨pb, rfl, F', ?_, HF.out, hb⟩
      have := HO.out
      rw [hkl, List.take_length] at this
      exact this
end Go.Proofs.Ytbmkejiijkbmlaa
