/- The walk of DrawMixes. -/
import Derived.Test.YtpbaokhlhhpiiaaDrawN
namespace Go.Proofs.Ytpbaokhlhhpiiaa
open Go.ChangeShapes Go.WideShapes Go.ChangeAt Go.RowKit
set_option linter.unusedVariables false
set_option linter.unusedSimpArgs false

theorem mixFrom_len {every : Int} : ∀ (k i : Nat) (f d : List ByteArray), k ≤ f.length → (mixFrom every k i f d).length = k := by
  intro k
  induction k with
  | zero => intro i f d _; simp [mixFrom]
  | succ k ih =>
    intro i f d h
    unfold mixFrom
    split
    · cases d with
      | cons x d' => simp [ih (i + 1) f d' (by omega)]
      | nil => cases f with
        | cons x f' => simp at h; simp [ih (i + 1) f' [] h]
        | nil => simp at h
    · cases f with
      | cons x f' => simp at h; simp [ih (i + 1) f' d h]
      | nil => simp at h
theorem mixFrom_nil {every : Int} : ∀ (k i : Nat) (f : List ByteArray), k ≤ f.length → mixFrom every k i f [] = f.take k := by
  intro k
  induction k with
  | zero => intro i f _; simp [mixFrom]
  | succ k ih =>
    intro i f h
    unfold mixFrom
    cases f with
    | nil => simp at h
    | cons x f' =>
      simp at h
      split <;> simp [ih (i + 1) f' h]
theorem mixFrom_zero {every : Int} (he : every < 1) : ∀ (k i : Nat) (f d : List ByteArray), k ≤ f.length → mixFrom every k i f d = f.take k := by
  intro k
  induction k with
  | zero => intro i f d _; simp [mixFrom]
  | succ k ih =>
    intro i f d h
    unfold mixFrom
    rw [if_neg (fun h => by omega)]
    cases f with
    | nil => simp at h
    | cons x f' => simp at h; simp [ih (i + 1) f' d h]
theorem mixFrom_nodup {every : Int} : ∀ (k i : Nat) (f d : List ByteArray), f.Nodup → d.Nodup → (∀ x ∈ f, ¬ x ∈ d) → (mixFrom every k i f d).Nodup := by
  intro k
  induction k with
  | zero => intro i f d _ _ _; simp [mixFrom]
  | succ k ih =>
    intro i f d hf hd hx
    unfold mixFrom
    split
    · cases d with
      | cons x d' =>
        simp only [List.nodup_cons] at hd ⊢
        refine ⟨fun hm => ?_, ih _ _ _ hf hd.2 (fun y hy hy' => hx y hy (by simp [hy']))⟩
        rcases mem_mixFrom _ _ _ _ hm with h | h
        · exact hx x h (by simp)
        · exact hd.1 h
      | nil => cases f with
        | cons x f' =>
          simp only [List.nodup_cons] at hf ⊢
          refine ⟨fun hm => ?_, ih _ _ _ hf.2 hd (fun y hy hy' => hx y (by simp [hy]) hy')⟩
          rcases mem_mixFrom _ _ _ _ hm with h | h
          · exact hf.1 h
          · simp at h
        | nil => simp
    · cases f with
      | cons x f' =>
        simp only [List.nodup_cons] at hf ⊢
        refine ⟨fun hm => ?_, ih _ _ _ hf.2 hd (fun y hy hy' => hx y (by simp [hy]) hy')⟩
        rcases mem_mixFrom _ _ _ _ hm with h | h
        · exact hf.1 h
        · exact hx x (by simp) h
      | nil => simp

theorem fresh_nodup (seed : Int) (main other : List ByteArray) : (freshV seed main other).Nodup := (sampleAll_nodup seed other).sublist List.filter_sublist
theorem fresh_apart {seed : Int} {main other : List ByteArray} {x : ByteArray} (h : x ∈ freshV seed main other) : ¬ x ∈ onceV main := by
  have := (List.mem_filter.1 h).2
  simp at this
  exact memB_not.1 this
theorem mixV_nodup (seed every : Int) (main other : List ByteArray) : (mixV seed main other every).Nodup :=
  mixFrom_nodup _ _ _ _ (nodup_onceV main) (fresh_nodup seed main other) (fun x hx hd => fresh_apart hd hx)
theorem mixV_len (seed every : Int) (main other : List ByteArray) : (mixV seed main other every).length = (onceV main).length := mixFrom_len _ _ _ _ (Nat.le_refl _)
theorem mixV_none (seed every : Int) (main : List ByteArray) : mixV seed main [] every = onceV main := by
  have : freshV seed main [] = [] := by simp [freshV, sampleAll, onceV, onceFrom]
  unfold mixV
  rw [this, mixFrom_nil _ _ _ (Nat.le_refl _), List.take_length]
theorem mixV_zero (seed : Int) (main other : List ByteArray) : mixV seed main other 0 = onceV main := by
  unfold mixV
  rw [mixFrom_zero (by omega) _ _ _ _ (Nat.le_refl _), List.take_length]
theorem mixV_self (seed every : Int) (main : List ByteArray) : mixV seed main main every = onceV main := by
  have : freshV seed main main = [] := by
    apply List.eq_nil_iff_forall_not_mem.2
    intro x hx
    exact fresh_apart hx (mem_onceV.2 (fresh_mem hx))
  unfold mixV
  rw [this, mixFrom_nil _ _ _ (Nat.le_refl _), List.take_length]

set_option maxRecDepth 20000 in
set_option maxHeartbeats 4000000 in
theorem drawMixes_walk (seed : Int) (A1 A2 : Option Addr) (c1 c2 : Nat) (main other : List ByteArray) (every : Int) (w : World) (h1 : StrsAt w w.heap.size A1 main) (h2 : StrsAt w w.heap.size A2 other) (hl1 : (main.length : Int) ≤ 9223372036854775807) (hl2 : (other.length : Int) ≤ 9223372036854775807) (he : every ≤ 9223372036854775807) :
    Calls Try.prog 6 #[.int .u64 seed, .slice A1 main.length c1, .slice A2 other.length c2, .int .i64 every] w fun e w' => e = .returned (.bool true) ∧ Below w.heap.size w w' := by
  by_cases hg : bigB main 30 = false ∧ bigB other 30 = false
  · obtain ⟨g1, g2⟩ := hg
    have hno1 := bigB_no g1
    have hno2 := bigB_no g2
    have hm30 : (main.length : Int) ≤ 30 := hno1.1
    have ho30 : (other.length : Int) ≤ 30 := hno2.1
    have HS8 : Hid (∀ s ∈ other, (s.size : Int) ≤ 1000000) := Lib.hid (fun s hs => by have := hno2.2 s hs; omega)
    have hol := onceV_len main
    have G1 := Lib.hid g1
    have G2 := Lib.hid g2
    have HPS : Hid (∀ s ∈ onceV main, s.size ≤ maxLen) := Lib.hid (fun s hs => h1.2 s (mem_onceV.1 hs))
    have HMS : Hid (∀ s ∈ mixV seed main other every, s.size ≤ maxLen) := Lib.hid (fun s hs => by
      rcases mem_mix hs with h | h
      · exact h1.2 s (mem_onceV.1 h)
      · exact h2.2 s (fresh_mem h))
    have HON : Hid (onceV (mixV seed main other every) = mixV seed main other every) := Lib.hid (onceV_same (mixV_nodup seed every main other))
    have hmlen := mixV_len seed every main other
    have q1 := fun W c1 c2 (a : StrsAt W w.heap.size A1 main) (b : StrsAt W w.heap.size A2 other) hB => mix_any seed every A1 A2 w.heap.size c1 c2 main other W a b hB (by omega) (by omega) he
    have q2 := fun W c1 c2 (a : StrsAt W w.heap.size A1 main) (b : StrsAt W w.heap.size A2 other) hB => rmix_any seed every A1 A2 w.heap.size c1 c2 main other W a b hB (by omega) (by omega) HS8.out he
    have q3 := fun W A B c (h : StrsAt W B A (mixV seed main other every)) hB => once_any A B c (mixV seed main other every) W h hB (by omega)
    rw [HON.out] at q3
    have q4 := fun W c (a : StrsAt W w.heap.size A1 main) hB => once_any A1 w.heap.size c main W a hB (by omega)
    have q5 := fun W c1 (a : StrsAt W w.heap.size A1 main) hB => mix_any seed every A1 none w.heap.size c1 0 main [] W a (StrsAt.nil _ _ _) hB (by omega) (by simp) he
    rw [mixV_none] at q5
    have q6 := fun W c1 c2 (a : StrsAt W w.heap.size A1 main) (b : StrsAt W w.heap.size A2 other) hB => mix_any seed 0 A1 A2 w.heap.size c1 c2 main other W a b hB (by omega) (by omega) (by omega)
    rw [mixV_zero] at q6
    have q7 := fun W c1 (a : StrsAt W w.heap.size A1 main) hB => mix_any seed every A1 A1 w.heap.size c1 c1 main main W a a hB (by omega) (by omega) he
    rw [mixV_self] at q7
    generalize onceV main = P at *
    generalize mixV seed main other every = M at *
    have HML := Lib.hid hmlen
    have hmle : M.length ≤ main.length := by omega
    have Q1 := Lib.hid q1
    have Q2 := Lib.hid q2
    have Q3 := Lib.hid q3
    have Q4 := Lib.hid q4
    have Q5 := Lib.hid q5
    have Q6 := Lib.hid q6
    have Q7 := Lib.hid q7
    clear q1 q2 q3 q4 q5 q6 q7 g1 g2 hno1 hno2 HS8 HON hmlen
    have heq : ((M.length : Int) == (P.length : Int)) = true := by rw [HML.out]; simp
    go_enter Try.func6, Try.ntmps6
    go_wp2_with fail
    refine (lives_any _).mono ?_
    rintro e w1 ⟨rfl, hb1⟩
    have z1 := hb1.size
    go_wp2_with fail
    refine (big_any A1 w.heap.size c1 main 30 _ (h1.below hb1) hl1).mono ?_
    rintro e w1' ⟨rfl, rfl⟩
    rw [G1.out]
    go_wp2_with fail
    refine (big_any A2 w.heap.size c2 other 30 _ (h2.below hb1) hl2).mono ?_
    rintro e w1' ⟨rfl, rfl⟩
    rw [G2.out]
    go_wp2_with fail
    refine (Q1.out _ c1 c2 (h1.below hb1) (h2.below hb1) z1).mono ?_
    rintro e w2 ⟨M2, m2, rfl, ho2, hb2⟩
    have z2 := hb2.size
    have rM2 : RowS w2 M2 m2 M := ⟨StrsAt.of_own ho2 HMS.out, (own_sp ho2).2⟩
    have hbw2 : Below w.heap.size w w2 := hb1.trans (hb2.mono z1)
    clear ho2 hb2 hb1
    go_wp2_with fail
    refine (Q2.out _ c1 c2 (h1.below hbw2) (h2.below hbw2) (by omega)).mono ?_
    rintro e w3 ⟨M3, m3, rfl, r3, k3, _, hb3⟩
    have z3 := hb3.size
    have rM3 := rM2.below hb3
    have hbw3 : Below w.heap.size w w3 := hbw2.trans (hb3.mono (by omega))
    clear hb3 rM2 hbw2
    go_wp2_with fail
    refine (texts_any M2 M3 w3.heap.size w3.heap.size m2 m3 M M w3 rM3.at_ r3 (Nat.le_refl _) (Nat.le_refl _) (by omega)).mono ?_
    rintro e w4 ⟨rfl, hg4⟩
    have hb4 := hg4.below
    have z4 := hb4.size
    have rM4 := rM3.below hb4
    have hbw4 : Below w.heap.size w w4 := hbw3.trans (hb4.mono (by omega))
    rw [dec_refl M]
    clear hg4 hb4 rM3 r3 hbw3
    go_wp2_with fail
    refine (Q3.out _ M2 w4.heap.size m2 rM4.at_ (Nat.le_refl _)).mono ?_
    rintro e w5 ⟨M5, m5, rfl, ho5, hb5⟩
    have z5 := hb5.size
    have r5 : RowS w5 M5 m5 M := ⟨StrsAt.of_own ho5 HMS.out, (own_sp ho5).2⟩
    have rM5 := rM4.below hb5
    have hbw5 : Below w.heap.size w w5 := hbw4.trans (hb5.mono (by omega))
    clear ho5 hb5 rM4 hbw4
    go_wp2_with fail
    refine (texts_any M5 M2 w5.heap.size w5.heap.size m5 m2 M M w5 r5.at_ rM5.at_ (Nat.le_refl _) (Nat.le_refl _) (by omega)).mono ?_
    rintro e w6 ⟨rfl, hg6⟩
    have hb6 := hg6.below
    have z6 := hb6.size
    have hbw6 : Below w.heap.size w w6 := hbw5.trans (hb6.mono (by omega))
    rw [dec_refl M]
    clear hg6 hb6 rM5 r5 hbw5
    go_wp2_with fail
    refine (Q4.out _ c1 (h1.below hbw6) (by omega)).mono ?_
    rintro e w7 ⟨P7, p7, rfl, ho7, hb7⟩
    have z7 := hb7.size
    have rP7 : RowS w7 P7 p7 P := ⟨StrsAt.of_own ho7 HPS.out, (own_sp ho7).2⟩
    have hbw7 : Below w.heap.size w w7 := hbw6.trans (hb7.mono (by omega))
    clear ho7 hb7 hbw6
    go_wp2_with fail
    refine (Q5.out _ c1 (h1.below hbw7) (by omega)).mono ?_
    rintro e w8 ⟨X8, x8, rfl, ho, hb⟩
    have z8 := hb.size
    have rX : RowS w8 X8 x8 P := ⟨StrsAt.of_own ho HPS.out, (own_sp ho).2⟩
    have rP8 := rP7.below hb
    have hbw8 : Below w.heap.size w w8 := hbw7.trans (hb.mono (by omega))
    clear ho hb rP7 hbw7
    go_wp2_with fail
    refine (texts_any X8 P7 w8.heap.size w8.heap.size x8 p7 P P w8 rX.at_ rP8.at_ (Nat.le_refl _) (Nat.le_refl _) (by omega)).mono ?_
    rintro e w9 ⟨rfl, hg⟩
    have hb := hg.below
    have z9 := hb.size
    have rP9 := rP8.below hb
    have hbw9 : Below w.heap.size w w9 := hbw8.trans (hb.mono (by omega))
    rw [dec_refl P]
    clear hg hb rX rP8 hbw8
    go_wp2_with fail
    refine (Q6.out _ c1 c2 (h1.below hbw9) (h2.below hbw9) (by omega)).mono ?_
    rintro e w10 ⟨X10, x10, rfl, ho, hb⟩
    have z10 := hb.size
    have rX : RowS w10 X10 x10 P := ⟨StrsAt.of_own ho HPS.out, (own_sp ho).2⟩
    have rP10 := rP9.below hb
    have hbw10 : Below w.heap.size w w10 := hbw9.trans (hb.mono (by omega))
    clear ho hb rP9 hbw9
    go_wp2_with fail
    refine (texts_any X10 P7 w10.heap.size w10.heap.size x10 p7 P P w10 rX.at_ rP10.at_ (Nat.le_refl _) (Nat.le_refl _) (by omega)).mono ?_
    rintro e w11 ⟨rfl, hg⟩
    have hb := hg.below
    have z11 := hb.size
    have rP11 := rP10.below hb
    have hbw11 : Below w.heap.size w w11 := hbw10.trans (hb.mono (by omega))
    rw [dec_refl P]
    clear hg hb rX rP10 hbw10
    go_wp2_with fail
    refine (Q7.out _ c1 (h1.below hbw11) (by omega)).mono ?_
    rintro e w12 ⟨X12, x12, rfl, ho, hb⟩
    have z12 := hb.size
    have rX : RowS w12 X12 x12 P := ⟨StrsAt.of_own ho HPS.out, (own_sp ho).2⟩
    have rP12 := rP11.below hb
    have hbw12 : Below w.heap.size w w12 := hbw11.trans (hb.mono (by omega))
    clear ho hb rP11 hbw11
    go_wp2_with fail
    refine (texts_any X12 P7 w12.heap.size w12.heap.size x12 p7 P P w12 rX.at_ rP12.at_ (Nat.le_refl _) (Nat.le_refl _) (by omega)).mono ?_
    rintro e w13 ⟨rfl, hg⟩
    have hb := hg.below
    have z13 := hb.size
    have rP13 := rP12.below hb
    have hbw13 : Below w.heap.size w w13 := hbw12.trans (hb.mono (by omega))
    rw [dec_refl P]
    clear hg hb rX rP12 hbw12
    go_wp2
    go_ret
    exact ⟨rfl, hbw13⟩
  · have g2 : bigB main 30 = true ∨ (bigB main 30 = false ∧ bigB other 30 = true) := by
      cases h : bigB main 30 with
      | true => exact .inl rfl
      | false =>
        cases h' : bigB other 30 with
        | true => exact .inr ⟨rfl, rfl⟩
        | false => exact absurd ⟨h, h'⟩ hg
    clear hg
    rcases g2 with g | ⟨g, g'⟩
    · have G := Lib.hid g
      clear g
      go_enter Try.func6, Try.ntmps6
      go_wp2_with fail
      refine (lives_any _).mono ?_
      rintro e w1 ⟨rfl, hb1⟩
      go_wp2_with fail
      refine (big_any A1 w.heap.size c1 main 30 _ (h1.below hb1) hl1).mono ?_
      rintro e w1' ⟨rfl, rfl⟩
      rw [G.out]
      go_wp2
      go_ret
      exact ⟨rfl, hb1⟩
    · have G := Lib.hid g
      have G' := Lib.hid g'
      clear g g'
      go_enter Try.func6, Try.ntmps6
      go_wp2_with fail
      refine (lives_any _).mono ?_
      rintro e w1 ⟨rfl, hb1⟩
      go_wp2_with fail
      refine (big_any A1 w.heap.size c1 main 30 _ (h1.below hb1) hl1).mono ?_
      rintro e w1' ⟨rfl, rfl⟩
      rw [G.out]
      go_wp2_with fail
      refine (big_any A2 w.heap.size c2 other 30 _ (h2.below hb1) hl2).mono ?_
      rintro e w1' ⟨rfl, rfl⟩
      rw [G'.out]
      go_wp2
      go_ret
      exact ⟨rfl, hb1⟩
end Go.Proofs.Ytpbaokhlhhpiiaa
