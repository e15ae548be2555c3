/- The walk of DrawSamples. -/
import Derived.Test.YtpbaokhlhhpiiaaDrawL
namespace Go.Proofs.Ytpbaokhlhhpiiaa
open Go.ChangeShapes Go.WideShapes Go.ChangeAt Go.RowKit
set_option linter.unusedVariables false
set_option linter.unusedSimpArgs false

theorem sampleAll_congr (seed : Int) {l m : List ByteArray} (h : ∀ y, y ∈ m ↔ y ∈ l) : sampleAll seed m = sampleAll seed l :=
  sampleAll_unique (fun y => by rw [mem_sampleAll, h]) (sampleAll_nodup seed m) (sampleAll_sorted seed m)
theorem sampleV_turned (seed n : Int) (l : List ByteArray) : sampleV seed n (l ++ l.reverse) = sampleV seed n l := by
  unfold sampleV
  rw [sampleAll_congr seed (l := l) (fun y => by simp)]
theorem sampleV_more (seed n : Int) (l : List ByteArray) : (sampleV seed n l).length ≤ (sampleV seed (n + 1) l).length ∧ (sampleV seed (n + 1) l).take (sampleV seed n l).length = sampleV seed n l := by
  unfold sampleV
  refine ⟨by simp; omega, ?_⟩
  rw [List.take_take, List.length_take]
  rcases Nat.lt_or_ge n.toNat (sampleAll seed l).length with h | h
  · rw [show min (min n.toNat (sampleAll seed l).length) (n + 1).toNat = n.toNat by omega]
  · rw [List.take_of_length_le (by omega), List.take_of_length_le h]
theorem sampleV_len (seed n : Int) (l : List ByteArray) : (sampleV seed n l).length ≤ l.length := by
  unfold sampleV
  have := sampleAll_len seed l
  have := onceV_len l
  simp; omega
theorem mem_sampleV {seed n : Int} {l : List ByteArray} {s : ByteArray} (h : s ∈ sampleV seed n l) : s ∈ l := mem_sampleAll.1 (List.take_subset _ _ h)
theorem turned_step (l : List ByteArray) (k : Nat) (hk : k < l.length) : l ++ (l.drop k).reverse = (l ++ (l.drop (k + 1)).reverse) ++ [l[k]] := by
  rw [List.drop_eq_getElem_cons hk]
  simp

theorem dec_refl (l : List ByteArray) : decide (l = l) = true := by simp

/-- A slice of texts stands where it stood. -/
structure RowS (w : World) (A : Option Addr) (c : Nat) (v : List ByteArray) : Prop where
  at_ : StrsAt w w.heap.size A v
  cap : v.length ≤ c
theorem RowS.below {w w' : World} {A : Option Addr} {c : Nat} {v : List ByteArray} (h : RowS w A c v) (hb : Below w.heap.size w w') : RowS w' A c v := ⟨(h.at_.below hb).more hb.size, h.cap⟩

set_option maxRecDepth 20000 in
set_option maxHeartbeats 1000000 in
theorem drawSamples_walk (seed n : Int) (A : Option Addr) (c : Nat) (l : List ByteArray) (w : World) (hr : StrsAt w w.heap.size A l) (hc : A = none → c = 0) (hl : (l.length : Int) ≤ 9223372036854775807) (hn0 : -9223372036854775808 ≤ n) (hn : n ≤ 9223372036854775807) :
    Calls Try.prog 5 #[.int .u64 seed, .int .i64 n, .slice A l.length c] w fun e w' => e = .returned (.bool true) ∧ Below w.heap.size w w' := by
  by_cases hg : bigB l 30 = false ∧ n ≤ 1000
  · obtain ⟨g1, g2⟩ := hg
    have hno := bigB_no g1
    have hl30 : (l.length : Int) ≤ 30 := hno.1
    have hm := sampleV_more seed n l
    have hmle := hm.1
    have HM := Lib.hid hm.2
    have hvl := sampleV_len seed n l
    have hvl2 := sampleV_len seed (n + 1) l
    have HT := Lib.hid (sampleV_turned seed n l)
    have HS8 : Hid (∀ s ∈ l, (s.size : Int) ≤ 1000000) := Lib.hid (fun s hs => by have := hno.2 s hs; omega)
    have HSS : Hid (∀ s ∈ sampleV seed n l, s.size ≤ maxLen) := Lib.hid (fun s hs => hr.2 s (mem_sampleV hs))
    have HMS : Hid (∀ s ∈ sampleV seed (n + 1) l, s.size ≤ maxLen) := Lib.hid (fun s hs => hr.2 s (mem_sampleV hs))
    have G1 := Lib.hid g1
    have HC := Lib.hid hc
    have q1 := fun W c (h : StrsAt W w.heap.size A l) hB => sample_any seed n A w.heap.size c l W h hB (by omega) hn
    have q2 := fun W c (h : StrsAt W w.heap.size A l) hB => sample_any seed (n + 1) A w.heap.size c l W h hB (by omega) (by omega)
    have q3 := fun W c (h : StrsAt W w.heap.size A l) hB => rsample_any seed n A w.heap.size c l W h hB (by omega) hn HS8.out
    have q4 := fun W A B c (h : StrsAt W B A (l ++ l.reverse)) hB => sample_any seed n A B c (l ++ l.reverse) W h hB (by simp; omega) hn
    rw [HT.out] at q4
    generalize sampleV seed n l = S at *
    generalize sampleV seed (n + 1) l = M at *
    have Q1 := Lib.hid q1
    have Q2 := Lib.hid q2
    have Q3 := Lib.hid q3
    have Q4 := Lib.hid q4
    clear q1 q2 q3 q4 g1 hc hm hno HS8 HT
    go_enter Try.func5, Try.ntmps5
    go_wp2_with fail
    refine (lives_any _).mono ?_
    rintro e w1 ⟨rfl, hb1⟩
    have z1 := hb1.size
    go_wp2_with fail
    refine (big_any A w.heap.size c l 30 _ (hr.below hb1) hl).mono ?_
    rintro e w1' ⟨rfl, rfl⟩
    rw [G1.out]
    go_wp2_with fail
    refine (Q1.out _ c (hr.below hb1) z1).mono ?_
    rintro e w2 ⟨A2, c2, rfl, ho2, hb2⟩
    have z2 := hb2.size
    have hbw2 : Below w.heap.size w w2 := hb1.trans (hb2.mono z1)
    have rS2 : RowS w2 A2 c2 S := ⟨StrsAt.of_own ho2 HSS.out, (own_sp ho2).2⟩
    have hb2a : Below w2.heap.size w2 (w2.alloc (.cells #[] 9)) := (Below.refl _ _).alloc (Nat.le_refl _) _
    have hbwa : Below w.heap.size w (w2.alloc (.cells #[] 9)) := hbw2.trans (hb2a.mono (by omega))
    have hra := hr.below hbwa
    clear ho2 hb2 hb1
    go_wp2_with (at_builtin; refine wpList_append_to (w2.alloc (.cells #[] 9)) (by rfl) (.tmp 23) (.tmp 24) _ rfl w2.heap.size 9 (.string ByteArray.empty) 1 16 Try.underlying23 str_info rfl (by omega) (some ⟨w2.heap.size, 0, none⟩) 0 0 [] rfl (own_empty (Nat.le_refl _) (heap_alloc_new w2 _)) A w.heap.size l.length c (l.map Value.string) rfl hra.1 HC.out (strs_one' l) l.length (by omega) (by unfold maxLen; omega) (by omega) (by simp) ?_; intro A3 c3 w3 hown3 hg3 hb3; simp only [List.nil_append] at hown3)
    have z3 := hb3.size
    simp at z3
    have hbw3 : Below w2.heap.size w2 w3 := hb2a.trans hb3
    clear hra hbwa hb2a hb3 hg3
    go_loopg [8, 9] l.length (fun rest v i wr => ∃ (k : Nat) (A4 : Option Addr) (c4 : Nat), i = .int .i64 ((k : Int) - 1) ∧ v = .slice A4 (l ++ (l.drop k).reverse).length c4 ∧ Hid (k = rest) ∧ k ≤ l.length ∧ wr.ownsRow w2.heap.size 9 1 (.slice A4 (l ++ (l.drop k).reverse).length c4) (l ++ (l.drop k).reverse).length ((l ++ (l.drop k).reverse).map Value.string) ∧ Below w2.heap.size w2 wr)
    case atStart => exact ⟨l.length, A3, c3, rfl, by simp, Lib.hid rfl, Nat.le_refl _, by simpa using hown3, hbw3⟩
    case round =>
      obtain ⟨k, A4, c4, rfl, rfl, HK, hkl, hown4, hbw4⟩ := hrel
      have z4 := hbw4.size
      have htl : (l ++ (l.drop k).reverse).length ≤ 60 := by simp; omega
      cases k with
      | succ k =>
        have hkl' : k < l.length := by omega
        have hts := turned_step l k hkl'
        have HTS := Lib.hid hts
        obtain ⟨b, o, rfl, hbl, hcell, hsz⟩ := ((hr.below hbw2).below (hbw4.mono (by omega))).one hkl'
        generalize l ++ (l.drop (k + 1)).reverse = T at *
        generalize l[k] = x at *
        clear hts
        have hkk : ((k + 1 : Nat) : Int) - 1 = (k : Int) := by omega
        rw [hkk]
        clear hkk
        have hk2 : (k : Int) < (l.length : Int) := by omega
        go_wp2_with (at_builtin; refine wpList_append_cell wr rfl (.tmp 33) (.tmp 38) _ rfl w2.heap.size 9 (.string ByteArray.empty) 16 Try.underlying23 str_info rfl A4 T.length c4 _ rfl hown4 (.string x) rfl rfl (by omega) (by unfold maxLen; omega) (by omega) ?_; intro A5 c5 w5 hown5 hg5 hb5)
        go_roundg k
        case measure => have := HK.out; omega
        case rel => exact ⟨k, A5, c5, rfl, by rw [HTS.out]; simp, Lib.hid rfl, by omega, by rw [HTS.out]; simpa using hown5, hbw4.trans hb5⟩
      | zero =>
        obtain ⟨w4, rfl⟩ : ∃ w4 : World, w4 = wr := ⟨_, rfl⟩
        have hTe : l ++ (l.drop 0).reverse = l ++ l.reverse := by simp
        rw [hTe] at hown4 htl ⊢
        clear hTe
        have rS4 := rS2.below hbw4
        have rT4 : StrsAt w4 w4.heap.size A4 (l ++ l.reverse) := StrsAt.of_own hown4 (fun s hs => hr.2 s (by simpa using hs))
        have hbww4 : Below w.heap.size w w4 := hbw2.trans (hbw4.mono (by omega))
        clear rS2 hown4 hbw4 hown3 hbw3
        generalize l ++ l.reverse = T at *
        go_wp2_with fail
        refine (Q2.out _ c (hr.below hbww4) (by omega)).mono ?_
        rintro e w5 ⟨A5, c5, rfl, ho5, hb5⟩
        have z5 := hb5.size
        have rM5 : RowS w5 A5 c5 M := ⟨StrsAt.of_own ho5 HMS.out, (own_sp ho5).2⟩
        have rS5 := rS4.below hb5
        have rT5 := (rT4.below hb5).more z5
        have hbw5 : Below w.heap.size w w5 := hbww4.trans (hb5.mono (by omega))
        clear ho5 hb5 rS4 rT4 hbww4
        go_wp2_with fail
        refine (Q3.out _ c (hr.below hbw5) (by omega)).mono ?_
        rintro e w6 ⟨A6, c6, rfl, r6, k6, _, hb6⟩
        have z6 := hb6.size
        have rS6 := rS5.below hb6
        have rM6 := rM5.below hb6
        have rT6 := (rT5.below hb6).more z6
        have hbw6 : Below w.heap.size w w6 := hbw5.trans (hb6.mono (by omega))
        clear hb6 rS5 rM5 rT5 hbw5
        go_wp2_with fail
        refine (texts_any A2 A6 w6.heap.size w6.heap.size c2 c6 S S w6 rS6.at_ r6 (Nat.le_refl _) (Nat.le_refl _) (by omega)).mono ?_
        rintro e w7 ⟨rfl, hg7⟩
        have hb7 := hg7.below
        have z7 := hb7.size
        have rS7 := rS6.below hb7
        have rM7 := rM6.below hb7
        have rT7 := (rT6.below hb7).more z7
        have hbw7 : Below w.heap.size w w7 := hbw6.trans (hb7.mono (by omega))
        rw [dec_refl S]
        clear hg7 hb7 rS6 rM6 rT6 hbw6 r6
        have hq4 := Q4.out w7 A4 w7.heap.size c4 rT7 (Nat.le_refl _)
        have HQ4 := Lib.hid hq4
        clear hq4 rT7
        go_wp2_with fail
        refine HQ4.out.mono ?_
        rintro e w8 ⟨A8, c8, rfl, ho8, hb8⟩
        have z8 := hb8.size
        have rS8 := rS7.below hb8
        have rM8 := rM7.below hb8
        have r8 : RowS w8 A8 c8 S := ⟨StrsAt.of_own ho8 HSS.out, (own_sp ho8).2⟩
        have hbw8 : Below w.heap.size w w8 := hbw7.trans (hb8.mono (by omega))
        clear hb8 rS7 rM7 hbw7 ho8
        go_wp2_with fail
        refine (texts_any A8 A2 w8.heap.size w8.heap.size c8 c2 S S w8 r8.at_ rS8.at_ (Nat.le_refl _) (Nat.le_refl _) (by omega)).mono ?_
        rintro e w9 ⟨rfl, hg9⟩
        have hb9 := hg9.below
        have z9 := hb9.size
        have rS9 := rS8.below hb9
        have rM9 := rM8.below hb9
        have hbw9 : Below w.heap.size w w9 := hbw8.trans (hb9.mono (by omega))
        rw [dec_refl S]
        have hM9 : StrsAt w9 w9.heap.size A5 S := by
          have := rM9.at_.take S.length
          rw [HM.out] at this
          exact this
        have hS9 := rS9.at_
        have hmc : S.length ≤ c5 := by have := rM9.cap; omega
        clear hg9 hb9 rS8 rM8 hbw8 r8 rS9 rM9
        have hSM : (S.length : Int) ≤ (M.length : Int) := by omega
        go_wp2_with fail
        refine (texts_any A5 A2 w9.heap.size w9.heap.size c5 c2 S S w9 hM9 hS9 (Nat.le_refl _) (Nat.le_refl _) (by omega)).mono ?_
        rintro e wa ⟨rfl, hga⟩
        rw [dec_refl S]
        have hba := hga.below
        go_wp2
        go_ret
        exact ⟨rfl, hbw9.trans (hba.mono (by omega))⟩
  · have g2 : bigB l 30 = true ∨ (bigB l 30 = false ∧ 1000 < n) := by
      cases h : bigB l 30 with
      | true => exact .inl rfl
      | false => exact .inr ⟨rfl, Int.not_le.1 (fun hle => hg ⟨h, hle⟩)⟩
    clear hg hc
    rcases g2 with g | ⟨g, g3⟩
    all_goals
      have G := Lib.hid g
      clear g
      go_enter Try.func5, Try.ntmps5
      go_wp2_with fail
      refine (lives_any _).mono ?_
      rintro e w1 ⟨rfl, hb1⟩
      go_wp2_with fail
      refine (big_any A w.heap.size c l 30 _ (hr.below hb1) hl).mono ?_
      rintro e w1' ⟨rfl, rfl⟩
      rw [G.out]
      go_wp2
      go_ret
      exact ⟨rfl, hb1⟩
end Go.Proofs.Ytpbaokhlhhpiiaa
